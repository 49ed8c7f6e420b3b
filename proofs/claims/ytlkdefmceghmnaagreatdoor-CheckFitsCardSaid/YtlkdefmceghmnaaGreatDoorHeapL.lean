/- A heap as a function from places to things: what a step up and a step down leave. No program. -/
namespace Go.Proofs.YtlkdefmceghmnaaGreatDoor
set_option linter.unusedVariables false
section
variable {α : Type}
/-- Two places exchanged. -/
def swapF (f : Nat → α) (i j : Nat) : Nat → α := fun k => if k = i then f j else if k = j then f i else f k
theorem swapF_i (f : Nat → α) (i j : Nat) : swapF f i j i = f j := by simp [swapF]
theorem swapF_j (f : Nat → α) (i j : Nat) : swapF f i j j = f i := by
  unfold swapF
  by_cases h : j = i
  · rw [if_pos h, h]
  · rw [if_neg h, if_pos rfl]
theorem swapF_o (f : Nat → α) (i j : Nat) {k : Nat} (h1 : k ≠ i) (h2 : k ≠ j) : swapF f i j k = f k := by unfold swapF; rw [if_neg h1, if_neg h2]
/-- The same things. -/
def SameTo (n : Nat) (f g : Nat → α) : Prop := (∀ k, k < n → ∃ j, j < n ∧ g j = f k) ∧ (∀ k, k < n → ∃ j, j < n ∧ f j = g k)
theorem SameTo.refl (n : Nat) (f : Nat → α) : SameTo n f f := ⟨fun k h => ⟨k, h, rfl⟩, fun k h => ⟨k, h, rfl⟩⟩
theorem SameTo.trans {n : Nat} {f g h : Nat → α} (a : SameTo n f g) (b : SameTo n g h) : SameTo n f h :=
  ⟨fun k hk => by obtain ⟨j, hj, e⟩ := a.1 k hk; obtain ⟨i, hi, e2⟩ := b.1 j hj; exact ⟨i, hi, e2.trans e⟩,
   fun k hk => by obtain ⟨j, hj, e⟩ := b.2 k hk; obtain ⟨i, hi, e2⟩ := a.2 j hj; exact ⟨i, hi, e2.trans e⟩⟩
theorem SameTo.swap {n : Nat} (f : Nat → α) {i j : Nat} (hi : i < n) (hj : j < n) : SameTo n f (swapF f i j) := by
  constructor
  · intro k hk
    by_cases h1 : k = i
    · exact ⟨j, hj, by rw [swapF_j, h1]⟩
    · by_cases h2 : k = j
      · exact ⟨i, hi, by rw [swapF_i, h2]⟩
      · exact ⟨k, hk, swapF_o f i j h1 h2⟩
  · intro k hk
    by_cases h1 : k = i
    · exact ⟨j, hj, by rw [h1, swapF_i]⟩
    · by_cases h2 : k = j
      · exact ⟨i, hi, by rw [h2, swapF_j]⟩
      · exact ⟨k, hk, (swapF_o f i j h1 h2).symm⟩
/-- Which of two comes first: a strict weak order. -/
structure Lts (lt : α → α → Bool) : Prop where
  irr : ∀ x, lt x x = false
  tr : ∀ x y z, lt x y = true → lt y z = true → lt x z = true
  ntr : ∀ x y z, lt x y = false → lt y z = false → lt x z = false
theorem Lts.asym {lt : α → α → Bool} (L : Lts lt) {x y : α} (h : lt x y = true) : lt y x = false := by
  cases e : lt y x with
  | false => rfl
  | true => have := L.tr x y x h e; rw [L.irr] at this; cases this
/-- Each but the first comes no sooner than what it hangs from. -/
def HeapOn (lt : α → α → Bool) (f : Nat → α) (n : Nat) : Prop := ∀ k, 0 < k → k < n → lt (f k) (f ((k - 1) / 2)) = false
/-- All but place i, upward. -/
def UpAt (lt : α → α → Bool) (f : Nat → α) (n i : Nat) : Prop :=
  (∀ k, 0 < k → k < n → k ≠ i → lt (f k) (f ((k - 1) / 2)) = false) ∧ (0 < i → ∀ k, 0 < k → k < n → (k - 1) / 2 = i → lt (f k) (f ((i - 1) / 2)) = false)
/-- All but place i, upward and downward. -/
def ButAt (lt : α → α → Bool) (f : Nat → α) (n i : Nat) : Prop :=
  (∀ k, 0 < k → k < n → k ≠ i → (k - 1) / 2 ≠ i → lt (f k) (f ((k - 1) / 2)) = false) ∧ (0 < i → ∀ k, 0 < k → k < n → (k - 1) / 2 = i → lt (f k) (f ((i - 1) / 2)) = false)
/-- All but place i, downward. -/
def DownAt (lt : α → α → Bool) (f : Nat → α) (n i : Nat) : Prop :=
  (∀ k, 0 < k → k < n → (k - 1) / 2 ≠ i → lt (f k) (f ((k - 1) / 2)) = false) ∧ (0 < i → ∀ k, 0 < k → k < n → (k - 1) / 2 = i → lt (f k) (f ((i - 1) / 2)) = false)
variable {lt : α → α → Bool} {f : Nat → α} {n i j : Nat}
theorem DownAt.but (h : DownAt lt f n i) : ButAt lt f n i := ⟨fun k a b _ d => h.1 k a b d, h.2⟩
theorem UpAt.heap (h : UpAt lt f n i) (ok : 0 < i → lt (f i) (f ((i - 1) / 2)) = false) : HeapOn lt f n := fun k a b => by
  by_cases e : k = i
  · subst e; exact ok a
  · exact h.1 k a b e
theorem HeapOn.up (h : HeapOn lt f n) (L : Lts lt) : UpAt lt f (n + 1) n := ⟨fun k a b c => h k a (by omega), fun _ k a b c => by exfalso; omega⟩
theorem UpAt.step (L : Lts lt) (h : UpAt lt f n i) (h0 : 0 < i) (hi : i < n) (hlt : lt (f i) (f ((i - 1) / 2)) = true) : UpAt lt (swapF f ((i - 1) / 2) i) n ((i - 1) / 2) := by
  have hp : (i - 1) / 2 < i := by omega
  generalize hq : (i - 1) / 2 = p at hlt hp ⊢
  constructor
  · intro k k0 kn kp
    by_cases e : k = i
    · subst e
      rw [hq, swapF_j, swapF_i]
      exact L.asym hlt
    · rw [swapF_o f p i kp e]
      by_cases e1 : (k - 1) / 2 = p
      · rw [e1, swapF_i]
        have h1 := h.1 k k0 kn e
        rw [e1] at h1
        cases h2 : lt (f k) (f i) with
        | false => rfl
        | true => rw [L.tr _ _ _ h2 hlt] at h1; cases h1
      · by_cases e2 : (k - 1) / 2 = i
        · rw [e2, swapF_j]
          have h1 := h.2 h0 k k0 kn e2
          rw [hq] at h1
          exact h1
        · rw [swapF_o f p i e1 e2]
          exact h.1 k k0 kn e
  · intro p0 k k0 kn kp
    have hpp := h.1 p p0 (by omega) (by omega)
    rw [swapF_o f p i (show (p - 1) / 2 ≠ p by omega) (show (p - 1) / 2 ≠ i by omega)]
    by_cases e : k = i
    · subst e
      rw [swapF_j]
      exact hpp
    · rw [swapF_o f p i (by omega) e]
      have h1 := h.1 k k0 kn e
      rw [kp] at h1
      exact L.ntr _ _ _ h1 hpp
/-- No one below place i comes sooner than it. -/
def Settled (lt : α → α → Bool) (f : Nat → α) (n i : Nat) : Prop := ∀ k, 0 < k → k < n → (k - 1) / 2 = i → lt (f k) (f i) = false
theorem ButAt.settle (h : ButAt lt f n i) (s : Settled lt f n i) : UpAt lt f n i := ⟨fun k a b c => by
  by_cases e : (k - 1) / 2 = i
  · rw [e]; exact s k a b e
  · exact h.1 k a b c e, h.2⟩
theorem DownAt.settle (h : DownAt lt f n i) (s : Settled lt f n i) : HeapOn lt f n := fun k a b => by
  by_cases e : (k - 1) / 2 = i
  · rw [e]; exact s k a b e
  · exact h.1 k a b e
theorem Settled.none_ (h : n ≤ 2 * i + 1) : Settled lt f n i := fun k a b c => by exfalso; omega
/-- The lesser one of those below. -/
def Least (lt : α → α → Bool) (f : Nat → α) (n i j : Nat) : Prop := j < n ∧ (j - 1) / 2 = i ∧ 0 < j ∧ ∀ k, 0 < k → k < n → (k - 1) / 2 = i → lt (f k) (f j) = false
theorem Least.right (L : Lts lt) (h2 : 2 * i + 1 + 1 < n) (hl : lt (f (2 * i + 1 + 1)) (f (2 * i + 1)) = true) : Least lt f n i (2 * i + 1 + 1) := ⟨h2, by omega, by omega, fun k a b c => by
  by_cases e : k = 2 * i + 1
  · rw [e]; exact L.asym hl
  · rw [show k = 2 * i + 1 + 1 by omega]; exact L.irr _⟩
theorem Least.left (L : Lts lt) (h1 : 2 * i + 1 < n) (hl : 2 * i + 1 + 1 < n → lt (f (2 * i + 1 + 1)) (f (2 * i + 1)) = false) : Least lt f n i (2 * i + 1) := ⟨h1, by omega, by omega, fun k a b c => by
  by_cases e : k = 2 * i + 1
  · rw [e]; exact L.irr _
  · have e2 : k = 2 * i + 1 + 1 := by omega
    rw [e2]; exact hl (by omega)⟩
theorem Least.settled (L : Lts lt) (h : Least lt f n i j) (hl : lt (f j) (f i) = false) : Settled lt f n i := fun k a b c => L.ntr _ _ _ (h.2.2.2 k a b c) hl
theorem ButAt.step (L : Lts lt) (h : ButAt lt f n i) (hj : Least lt f n i j) (hlt : lt (f j) (f i) = true) : DownAt lt (swapF f i j) n j := by
  obtain ⟨jn, jp, j0, jl⟩ := hj
  have hij : i < j := by omega
  constructor
  · intro k k0 kn kp
    by_cases e : k = j
    · subst e
      rw [jp, swapF_j, swapF_i]
      exact L.asym hlt
    · by_cases e1 : k = i
      · subst e1
        rw [swapF_i, swapF_o f k j (show (k - 1) / 2 ≠ k by omega) (by omega)]
        exact h.2 k0 j j0 jn jp
      · rw [swapF_o f i j e1 e]
        by_cases e2 : (k - 1) / 2 = i
        · rw [e2, swapF_i]
          exact jl k k0 kn e2
        · rw [swapF_o f i j e2 kp]
          exact h.1 k k0 kn e1 e2
  · intro _ k k0 kn kp
    rw [jp, swapF_i, swapF_o f i j (by omega) (by omega)]
    have := h.1 k k0 kn (by omega) (by omega)
    rw [kp] at this
    exact this
theorem HeapOn.first (L : Lts lt) (h : HeapOn lt f n) : ∀ k, k < n → lt (f k) (f 0) = false := by
  intro k
  induction k using Nat.strongRecOn with
  | _ k ih =>
    intro kn
    by_cases e : k = 0
    · rw [e]; exact L.irr _
    · exact L.ntr _ _ _ (h k (by omega) kn) (ih _ (by omega) (by omega))
/-- The last one is put to place i. -/
theorem HeapOn.butLast (L : Lts lt) (h : HeapOn lt f (n + 1)) (hi : i < n) : ButAt lt (swapF f i n) n i := by
  constructor
  · intro k k0 kn ki kp
    rw [swapF_o f i n ki (by omega), swapF_o f i n kp (by omega)]
    exact h k k0 (by omega)
  · intro i0 k k0 kn kp
    rw [swapF_o f i n (by omega) (by omega), swapF_o f i n (show (i - 1) / 2 ≠ i by omega) (by omega)]
    have h1 := h k k0 (by omega)
    rw [kp] at h1
    exact L.ntr _ _ _ h1 (h i i0 (by omega))
theorem HeapOn.less (h : HeapOn lt f n) {m : Nat} (hm : m ≤ n) : HeapOn lt f m := fun k a b => h k a (by omega)
end
end Go.Proofs.YtlkdefmceghmnaaGreatDoor
