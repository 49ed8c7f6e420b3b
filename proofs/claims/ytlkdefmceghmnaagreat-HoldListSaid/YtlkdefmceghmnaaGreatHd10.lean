/- Hold's laws: the cells that are somebody's; Take and Free in short. By program. -/
import Derived.Test.YtlkdefmceghmnaaGreatHd9
namespace Go.Proofs.YtlkdefmceghmnaaGreat
set_option linter.unusedVariables false
open Go Go.RowKit Go.Sort
/-- The cells that are somebody's. -/
structure En (q : Hpl → Option Hol) (E : List Hpl) : Prop where
  nod : E.Nodup
  mem : ∀ c, q c ≠ none ↔ c ∈ E
theorem En.zero : En (fun _ => none) [] := ⟨List.nodup_nil, fun c => by simp⟩
theorem En.cons {q : Hpl → Option Hol} {E : List Hpl} (h : En q E) {c : Hpl} (hc : q c = none) (x : Hol) : En (updH q c (some x)) (c :: E) := by
  refine ⟨List.nodup_cons.2 ⟨fun hm => (h.mem c).2 hm hc, h.nod⟩, fun d => ?_⟩
  by_cases e : d = c
  · subst e
    rw [updH_same]
    simp
  · rw [updH_other _ _ _ e, h.mem d]
    simp [e]
theorem En.erase {q : Hpl → Option Hol} {E : List Hpl} (h : En q E) (c : Hpl) : En (updH q c none) (E.filter fun d => !decide (d = c)) := by
  refine ⟨h.nod.filter _, fun d => ?_⟩
  by_cases e : d = c
  · subst e
    rw [updH_same]
    simp
  · rw [updH_other _ _ _ e, h.mem d]
    simp [e]
theorem len_filter_ne (c : Hpl) : ∀ {E : List Hpl}, E.Nodup → c ∈ E → (E.filter fun d => !decide (d = c)).length + 1 = E.length
  | d :: E, hn, hc => by
    obtain ⟨h1, h2⟩ := List.nodup_cons.1 hn
    by_cases e : d = c
    · subst e
      rw [List.filter_cons_of_neg (by simp), List.filter_eq_self.2 (fun x hx => by
        have : x ≠ d := fun e => h1 (e ▸ hx)
        simp [this])]
      rfl
    · rw [List.filter_cons_of_pos (by simp [e]), List.length_cons, len_filter_ne c h2 ((List.mem_cons.1 hc).resolve_left (fun e2 => e e2.symm)), List.length_cons]
/-- How many cells are on none of the first i legs. -/
def remH (E : List Hpl) (out : List Leg) (i : Nat) : Nat := (E.filter fun c => decide (c.leg ∉ out.take i)).length
theorem remH_zero (E : List Hpl) (out : List Leg) : remH E out 0 = E.length := by
  unfold remH
  rw [List.filter_eq_self.2 (fun c _ => by simp)]
theorem remH_all {E : List Hpl} {out : List Leg} (h : ∀ c ∈ E, c.leg ∈ out) : remH E out out.length = 0 := by
  unfold remH
  rw [List.length_eq_zero_iff, List.filter_eq_nil_iff]
  intro c hc
  rw [List.take_length]
  simp [h c hc]
theorem remH_step {out : List Leg} {i : Nat} {g : Leg} (hn : out.Nodup) (hg : out[i]? = some g) : ∀ E : List Hpl, remH E out i = remH E out (i + 1) + (E.filter fun c => decide (c.leg = g)).length
  | [] => rfl
  | c :: E => by
    have ih := remH_step hn hg E
    have ht : out.take (i + 1) = out.take i ++ [g] := by rw [List.take_add_one, hg]; rfl
    have hgi : g ∉ out.take i := fun hm => by
      have h1 : (out.take (i + 1)).Nodup := hn.sublist (List.take_sublist _ _)
      rw [ht, List.nodup_append] at h1
      exact h1.2.2 g hm g (by simp) rfl
    unfold remH at ih ⊢
    by_cases e : c.leg = g
    · have h1 : c.leg ∉ out.take i := by rw [e]; exact hgi
      have h2 : c.leg ∈ out.take (i + 1) := by rw [ht, e]; simp
      rw [List.filter_cons_of_pos (by simp [h1]), List.filter_cons_of_neg (by simp [h2]), List.filter_cons_of_pos (by simp [e]), List.length_cons, List.length_cons]
      omega
    · by_cases h1 : c.leg ∈ out.take i
      · have h2 : c.leg ∈ out.take (i + 1) := by rw [ht]; simp [h1]
        rw [List.filter_cons_of_neg (by simp [h1]), List.filter_cons_of_neg (by simp [h2]), List.filter_cons_of_neg (by simp [e])]
        exact ih
      · have h2 : c.leg ∉ out.take (i + 1) := by rw [ht]; simp [h1, e]
        rw [List.filter_cons_of_pos (by simp [h1]), List.filter_cons_of_pos (by simp [h2]), List.filter_cons_of_neg (by simp [e]), List.length_cons, List.length_cons]
        omega
theorem ltHd_cases {a b : Hld} (h : ltHd a b = true) : a.seat.row < b.seat.row ∨ (a.seat.row = b.seat.row ∧ a.seat.let_ < b.seat.let_) := by
  unfold ltHd ltX ltNo at h
  simp only [Bool.or_eq_true, Bool.and_eq_true, decide_eq_true_eq, Bool.and_false, Bool.or_false] at h
  omega
theorem ltHd_ne {a b : Hld} (h : ltHd a b = true) : a.seat ≠ b.seat := by
  intro e
  have h2 := ltHd_cases h
  rw [e] at h2
  omega
theorem on_len {q : Hpl → Option Hol} {E : List Hpl} {g : Leg} {out : List Hld} (h : En q E) (hr : RisL ltHd out) (hm : ∀ x, x ∈ out ↔ q ⟨g, x.seat⟩ = some x.hol) : out.length = (E.filter fun c => decide (c.leg = g)).length := by
  have h1 : (out.map fun x => (⟨g, x.seat⟩ : Hpl)).Nodup := List.pairwise_map.2 (hr.imp fun {a b} hl (e : (⟨g, a.seat⟩ : Hpl) = ⟨g, b.seat⟩) => ltHd_ne hl (congrArg Hpl.seat e))
  have h2 : (out.map fun x => (⟨g, x.seat⟩ : Hpl)).length ≤ (E.filter fun c => decide (c.leg = g)).length := nodup_le h1 fun c hc => by
    obtain ⟨x, hx, rfl⟩ := List.mem_map.1 hc
    exact List.mem_filter.2 ⟨(h.mem _).1 (by rw [(hm x).1 hx]; simp), by simp⟩
  have h3 : (E.filter fun c => decide (c.leg = g)).length ≤ (out.map fun x => (⟨g, x.seat⟩ : Hpl)).length := nodup_le (h.nod.filter _) fun c hc => by
    obtain ⟨hc1, hc2⟩ := List.mem_filter.1 hc
    have hg : c.leg = g := of_decide_eq_true hc2
    cases e : q c with
    | none => exact absurd e ((h.mem c).2 hc1)
    | some y =>
      subst hg
      exact List.mem_map.2 ⟨⟨c.seat, y⟩, (hm _).2 e, rfl⟩
  rw [List.length_map] at h2 h3
  omega
theorem RisL.nodup_g {l : List Leg} (h : RisL ltG l) : l.Nodup := h.imp fun hl e => by
  subst e
  rw [lts_g.irr] at hl
  cases hl
/-- Take: the seat is now the holder's, or nothing has changed. -/
theorem take_is {W : World} {lo hi t p b : Nat} {rs : List FlR} {ps : List PlM} {q : Hpl → Option Hol} (h : HK W lo hi t p b rs ps q) (hr : ∀ r ∈ rs, rightB r.f = true) (g : Leg) (s : Sit) (x : Hol) (hg : g.ok) (hs : s.ok) (hxo : x.ok) :
    Calls Tryz.prog 33 #[.pointer (some ⟨p, 0, none⟩), .agg #[.string g.key.car, .int .i64 g.key.num, .int .i64 g.day], .agg #[.int .i64 s.row, .int .u8 s.let_], .agg #[.string x.loc, .int .i64 x.pax]] W fun e w' => ∃ k q', e = .returned (.int .i64 k) ∧ HK w' lo hi t p b rs ps q' ∧ Kb b W w' ∧ Hid ((k = 0 ∧ wrongB rs ps ⟨g, s⟩ = 0 ∧ q ⟨g, s⟩ = none ∧ q' = updH q ⟨g, s⟩ (some x)) ∨ (k ≠ 0 ∧ q' = q)) :=
  (take_any h hr g s x hg hs hxo).mono fun e w' h1 => by
    obtain ⟨h2, h3, h4⟩ := h1
    refine ⟨_, _, h2, h3, h4, ?_⟩
    rcases take_facts (wrongB rs ps ⟨g, s⟩) (q ⟨g, s⟩) x with ⟨hw, e⟩ | ⟨hw, ho, e⟩ | ⟨hw, ho, e⟩ | ⟨hw, y, hy, ho, e⟩
    · rw [e]
      exact .inr ⟨hw, updH_self _ _⟩
    · rw [e]
      exact .inl ⟨rfl, hw, ho, rfl⟩
    · rw [e, ← ho]
      exact .inr ⟨(fun h => by cases h), updH_self _ _⟩
    · rw [e, ← ho]
      exact .inr ⟨(fun h => by cases h), updH_self _ _⟩
theorem free_is {W : World} {lo hi t p b : Nat} {rs : List FlR} {ps : List PlM} {q : Hpl → Option Hol} (h : HK W lo hi t p b rs ps q) (hr : ∀ r ∈ rs, rightB r.f = true) (g : Leg) (s : Sit) (x : Hol) (hg : g.ok) (hs : s.ok) (hxo : x.ok) :
    Calls Tryz.prog 35 #[.pointer (some ⟨p, 0, none⟩), .agg #[.string g.key.car, .int .i64 g.key.num, .int .i64 g.day], .agg #[.int .i64 s.row, .int .u8 s.let_], .agg #[.string x.loc, .int .i64 x.pax]] W fun e w' => ∃ k q', e = .returned (.int .i64 k) ∧ HK w' lo hi t p b rs ps q' ∧ Kb b W w' ∧ Hid ((k = 0 ∧ wrongB rs ps ⟨g, s⟩ = 0 ∧ q ⟨g, s⟩ = some x ∧ q' = updH q ⟨g, s⟩ none) ∨ (k ≠ 0 ∧ q' = q)) :=
  (free_any h hr g s x hg hs hxo).mono fun e w' h1 => by
    obtain ⟨h2, h3, h4⟩ := h1
    refine ⟨_, _, h2, h3, h4, ?_⟩
    rcases free_facts (wrongB rs ps ⟨g, s⟩) (q ⟨g, s⟩) x with ⟨hw, e⟩ | ⟨hw, ho, e⟩ | ⟨hw, ho, e⟩ | ⟨hw, y, hy, ho, e⟩
    · rw [e]
      exact .inr ⟨hw, updH_self _ _⟩
    · rw [e]
      exact .inl ⟨rfl, hw, ho, rfl⟩
    · rw [e, ← ho]
      exact .inr ⟨(fun h => by cases h), updH_self _ _⟩
    · rw [e, ← ho]
      exact .inr ⟨(fun h => by cases h), updH_self _ _⟩
theorem hasB_of {rs : List FlR} {ps : List PlM} {c : Hpl} (h : wrongB rs ps c = 0) : hasB rs ps c = true := by
  rcases wrongB_cases rs ps c with ⟨_, h2⟩ | ⟨h1 | h1, _⟩
  · exact h2
  all_goals (rw [h1] at h; cases h)
end Go.Proofs.YtlkdefmceghmnaaGreat
