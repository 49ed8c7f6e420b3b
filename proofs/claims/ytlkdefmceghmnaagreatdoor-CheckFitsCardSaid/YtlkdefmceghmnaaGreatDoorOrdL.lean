/- Orders put together part by part; lists that rise by any strict order. No program. -/
import Derived.Test.YtlkdefmceghmnaaGreatDoorOrd
namespace Go.Proofs.YtlkdefmceghmnaaGreatDoor
set_option linter.unusedVariables false
open Go
section
variable {α : Type} {lt : α → α → Bool} {c : α → α → Int}
/-- By a number, then as told; by a text, then as told; nothing is told. -/
def ltX (p : α → Int) (lt : α → α → Bool) (a b : α) : Bool := decide (p a < p b) || (decide (p a = p b) && lt a b)
def ltY (p : α → ByteArray) (lt : α → α → Bool) (a b : α) : Bool := ltS (p a) (p b) || (decide (p a = p b) && lt a b)
def ltNo (_ _ : α) : Bool := false
theorem ltX_iff (p : α → Int) (a b : α) : ltX p lt a b = true ↔ p a < p b ∨ (p a = p b ∧ lt a b = true) := by simp [ltX]
theorem ltY_iff (p : α → ByteArray) (a b : α) : ltY p lt a b = true ↔ ltS (p a) (p b) = true ∨ (p a = p b ∧ lt a b = true) := by simp [ltY]
theorem ltX_no (p : α → Int) (a b : α) : ltX p lt a b = false ↔ p b < p a ∨ (p a = p b ∧ lt a b = false) := by
  rw [← Bool.not_eq_true, ltX_iff]
  constructor
  · intro h
    by_cases e : p b < p a
    · exact .inl e
    · refine .inr ⟨by have : ¬ p a < p b := fun x => h (.inl x); omega, ?_⟩
      rw [← Bool.not_eq_true]
      exact fun x => h (.inr ⟨by have : ¬ p a < p b := fun x => h (.inl x); omega, x⟩)
  · rintro (h | ⟨h, h2⟩) (h3 | ⟨h3, h4⟩)
    · omega
    · omega
    · omega
    · rw [h2] at h4; cases h4
theorem ltY_no (p : α → ByteArray) (a b : α) : ltY p lt a b = false ↔ ltS (p b) (p a) = true ∨ (p a = p b ∧ lt a b = false) := by
  rw [← Bool.not_eq_true, ltY_iff]
  constructor
  · intro h
    cases e : ltS (p b) (p a) with
    | true => exact .inl rfl
    | false =>
      have h1 : ltS (p a) (p b) = false := by rw [← Bool.not_eq_true]; exact fun x => h (.inl x)
      have h2 := ltS_eq h1 e
      refine .inr ⟨h2, ?_⟩
      rw [← Bool.not_eq_true]
      exact fun x => h (.inr ⟨h2, x⟩)
  · rintro (h | ⟨h, h2⟩) (h3 | ⟨h3, h4⟩)
    · rw [ltS_asym h] at h3; cases h3
    · rw [h3, ltS_irr] at h; cases h
    · rw [h, ltS_irr] at h3; cases h3
    · rw [h2] at h4; cases h4
theorem lts_no : Lts (ltNo (α := α)) where
  irr _ := rfl
  tr _ _ _ h _ := by cases h
  ntr _ _ _ _ _ := rfl
theorem lts_x (H : Lts lt) (p : α → Int) : Lts (ltX p lt) where
  irr x := (ltX_no p x x).2 (.inr ⟨rfl, H.irr x⟩)
  tr x y z h1 h2 := by
    rw [ltX_iff] at *
    rcases h1 with h1 | ⟨h1, g1⟩ <;> rcases h2 with h2 | ⟨h2, g2⟩
    · exact .inl (by omega)
    · exact .inl (by omega)
    · exact .inl (by omega)
    · exact .inr ⟨by omega, H.tr _ _ _ g1 g2⟩
  ntr x y z h1 h2 := by
    rw [ltX_no] at *
    rcases h1 with h1 | ⟨h1, g1⟩ <;> rcases h2 with h2 | ⟨h2, g2⟩
    · exact .inl (by omega)
    · exact .inl (by omega)
    · exact .inl (by omega)
    · exact .inr ⟨by omega, H.ntr _ _ _ g1 g2⟩
theorem lts_y (H : Lts lt) (p : α → ByteArray) : Lts (ltY p lt) where
  irr x := (ltY_no p x x).2 (.inr ⟨rfl, H.irr x⟩)
  tr x y z h1 h2 := by
    rw [ltY_iff] at *
    rcases h1 with h1 | ⟨h1, g1⟩ <;> rcases h2 with h2 | ⟨h2, g2⟩
    · exact .inl (ltS_tr h1 h2)
    · exact .inl (h2 ▸ h1)
    · exact .inl (h1 ▸ h2)
    · exact .inr ⟨h1.trans h2, H.tr _ _ _ g1 g2⟩
  ntr x y z h1 h2 := by
    rw [ltY_no] at *
    rcases h1 with h1 | ⟨h1, g1⟩ <;> rcases h2 with h2 | ⟨h2, g2⟩
    · exact .inl (ltS_tr h2 h1)
    · exact .inl (h2 ▸ h1)
    · exact .inl (h1 ▸ h2)
    · exact .inr ⟨h1.trans h2, H.ntr _ _ _ g1 g2⟩
/-- What cmp.Or tells of such parts. -/
def cmpX (p : α → Int) (c : α → α → Int) (a b : α) : Int := if cmpN (p a) (p b) ≠ 0 then cmpN (p a) (p b) else c a b
def cmpY (p : α → ByteArray) (c : α → α → Int) (a b : α) : Int := if cmpS (p a) (p b) ≠ 0 then cmpS (p a) (p b) else c a b
theorem cmpX_lt (h : ∀ a b, decide (c a b < 0) = lt a b) (p : α → Int) (a b : α) : decide (cmpX p c a b < 0) = ltX p lt a b := by
  unfold cmpX ltX cmpN
  by_cases h1 : p a < p b
  · simp [h1]
  · by_cases h2 : p b < p a
    · simp [h1, h2]; omega
    · have h3 : p a = p b := by omega
      simp [h3, h]
theorem cmpY_lt (h : ∀ a b, decide (c a b < 0) = lt a b) (p : α → ByteArray) (a b : α) : decide (cmpY p c a b < 0) = ltY p lt a b := by
  unfold cmpY ltY cmpS
  cases h1 : ltS (p a) (p b) with
  | true => simp
  | false =>
    cases h2 : ltS (p b) (p a) with
    | true =>
      have h3 : p a ≠ p b := fun e => by rw [e, ltS_irr] at h2; cases h2
      simp [h3]
    | false => simp [ltS_eq h1 h2, h]
/-- A list that rises strictly; a thing put in its place. -/
def RisL (lt : α → α → Bool) (l : List α) : Prop := l.Pairwise fun a b => lt a b = true
def insL (lt : α → α → Bool) (x : α) : List α → List α
  | [] => [x]
  | y :: l => if lt x y then x :: y :: l else y :: insL lt x l
theorem RisL.eq (H : Lts lt) {l : List α} : ∀ {m : List α}, RisL lt l → RisL lt m → (∀ x, x ∈ l ↔ x ∈ m) → l = m := by
  induction l with
  | nil =>
    intro m _ _ h
    cases m with
    | nil => rfl
    | cons x t => exact absurd ((h x).2 List.mem_cons_self) List.not_mem_nil
  | cons a l ih =>
    intro m h1 h2 h
    cases m with
    | nil => exact absurd ((h a).1 List.mem_cons_self) List.not_mem_nil
    | cons b m =>
      obtain ⟨p1, p2⟩ := List.pairwise_cons.1 h1
      obtain ⟨q1, q2⟩ := List.pairwise_cons.1 h2
      have e : a = b := by
        rcases List.mem_cons.1 ((h a).1 List.mem_cons_self) with e | e
        · exact e
        · rcases List.mem_cons.1 ((h b).2 List.mem_cons_self) with e' | e'
          · exact e'.symm
          · have x1 := q1 a e
            rw [H.asym (p1 b e')] at x1
            cases x1
      subst e
      refine congrArg _ (ih p2 q2 fun x => ?_)
      constructor
      · intro hx
        rcases List.mem_cons.1 ((h x).1 (List.mem_cons_of_mem _ hx)) with e | e
        · subst e; have := p1 x hx; rw [H.irr] at this; cases this
        · exact e
      · intro hx
        rcases List.mem_cons.1 ((h x).2 (List.mem_cons_of_mem _ hx)) with e | e
        · subst e; have := q1 x hx; rw [H.irr] at this; cases this
        · exact e
theorem mem_insL (x y : α) : ∀ l, y ∈ insL lt x l ↔ y = x ∨ y ∈ l := by
  intro l
  induction l with
  | nil => simp [insL]
  | cons a l ih =>
    unfold insL
    split
    · simp
    · simp only [List.mem_cons, ih]
      constructor
      · rintro (h | h | h)
        · exact .inr (.inl h)
        · exact .inl h
        · exact .inr (.inr h)
      · rintro (h | h | h)
        · exact .inr (.inl h)
        · exact .inl h
        · exact .inr (.inr h)
theorem length_insL (x : α) : ∀ l, (insL lt x l).length = l.length + 1 := by
  intro l
  induction l with
  | nil => rfl
  | cons a l ih =>
    unfold insL
    split
    · rfl
    · simp [ih]
theorem RisL.ins (H : Lts lt) {x : α} : ∀ {l : List α}, RisL lt l → (∀ y ∈ l, lt x y = true ∨ lt y x = true) → RisL lt (insL lt x l) := by
  intro l
  induction l with
  | nil => intro _ _; exact List.pairwise_singleton _ _
  | cons a l ih =>
    intro h hn
    obtain ⟨h1, h2⟩ := List.pairwise_cons.1 h
    unfold insL
    split
    · rename_i hlt
      refine List.pairwise_cons.2 ⟨fun y hy => ?_, h⟩
      rcases List.mem_cons.1 hy with rfl | hy
      · exact hlt
      · exact H.tr _ _ _ hlt (h1 y hy)
    · rename_i hlt
      refine List.pairwise_cons.2 ⟨fun y hy => ?_, ih h2 fun y hy => hn y (List.mem_cons_of_mem _ hy)⟩
      rcases (mem_insL x y l).1 hy with rfl | hy
      · rcases hn a List.mem_cons_self with h3 | h3
        · exact absurd h3 hlt
        · exact h3
      · exact h1 y hy
/-- All of a list, each in its place: as the document makes it. -/
def allL (lt : α → α → Bool) (l : List α) : List α := l.foldl (fun acc x => insL lt x acc) []
theorem allL_facts (H : Lts lt) : ∀ (l acc : List α), RisL lt acc → (acc ++ l).Pairwise (fun a b => lt a b = true ∨ lt b a = true) →
    RisL lt (l.foldl (fun acc x => insL lt x acc) acc) ∧ ∀ x, x ∈ l.foldl (fun acc x => insL lt x acc) acc ↔ x ∈ acc ∨ x ∈ l := by
  intro l
  induction l with
  | nil => intro acc h _; exact ⟨h, fun x => by simp⟩
  | cons a l ih =>
    intro acc h hp
    have h1 := List.pairwise_append.1 hp
    have ha : ∀ y ∈ acc, lt a y = true ∨ lt y a = true := fun y hy => (h1.2.2 y hy a List.mem_cons_self).symm
    have hc := List.pairwise_cons.1 h1.2.1
    obtain ⟨g1, g2⟩ := ih (insL lt a acc) (h.ins H ha) (List.pairwise_append.2 ⟨((h.ins H ha).imp fun h => .inl h), hc.2, fun x hx y hy => by
      rcases (mem_insL a x acc).1 hx with rfl | hx
      · exact hc.1 y hy
      · exact h1.2.2 x hx y (List.mem_cons_of_mem _ hy)⟩)
    refine ⟨g1, fun x => ?_⟩
    rw [List.foldl_cons, g2, mem_insL, List.mem_cons]
    constructor
    · rintro ((h | h) | h)
      · exact .inr (.inl h)
      · exact .inl h
      · exact .inr (.inr h)
    · rintro (h | h | h)
      · exact .inl (.inr h)
      · exact .inl (.inl h)
      · exact .inr h
/-- A list that was put in order rises, if no two of its things are alike to the order. -/
theorem RisL.of_sorted {l : List α} (h : l.Pairwise fun a b => lt b a = false) (hp : l.Pairwise fun a b => lt a b = true ∨ lt b a = true) : RisL lt l := by
  refine (h.and hp).imp ?_
  rintro a b ⟨h1, h2 | h2⟩
  · exact h2
  · rw [h1] at h2; cases h2
end
end Go.Proofs.YtlkdefmceghmnaaGreatDoor
