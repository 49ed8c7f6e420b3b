/- Hold's laws: what a call leaves, the boxes of a law. By program. -/
import Derived.Test.YtlkdefmceghmnaaGreatHd8
namespace Go.Proofs.YtlkdefmceghmnaaGreat
set_option linter.unusedVariables false
open Go Go.RowKit Go.Sort
/-- What is somebody's may be somebody's. -/
def QW (rs : List FlR) (ps : List PlM) (q : Hpl → Option Hol) : Prop := ∀ d, q d ≠ none → wrongB rs ps d = 0
theorem QW.none_ (rs : List FlR) (ps : List PlM) : QW rs ps (fun _ => none) := fun d h => absurd rfl h
theorem QW.upd {rs : List FlR} {ps : List PlM} {q : Hpl → Option Hol} (h : QW rs ps q) {c : Hpl} {o : Option Hol} (ho : o ≠ none → wrongB rs ps c = 0) : QW rs ps (updH q c o) := fun d hd => by
  by_cases e : d = c
  · subst e
    rw [updH_same] at hd
    exact ho hd
  · rw [updH_other _ _ _ e] at hd
    exact h d hd
theorem wrongB_cases (rs : List FlR) (ps : List PlM) (c : Hpl) : wrongB rs ps c = 0 ∧ hasB rs ps c = true ∨ (wrongB rs ps c = 9 ∨ wrongB rs ps c = 15) ∧ hasB rs ps c = false := by
  cases h : hasB rs ps c with
  | true => exact .inl ⟨wrong_no h, rfl⟩
  | false =>
    refine .inr ⟨?_, rfl⟩
    unfold wrongB
    rw [h]
    cases fliesF (rs.map (·.f)) c.leg <;> simp
/-- What Take may come to. -/
theorem take_facts (wr : Int) (o : Option Hol) (x : Hol) : (wr ≠ 0 ∧ takeF wr o x = (wr, o)) ∨ (wr = 0 ∧ o = none ∧ takeF wr o x = (0, some x)) ∨ (wr = 0 ∧ o = some x ∧ takeF wr o x = (8, some x)) ∨ (wr = 0 ∧ ∃ y, y ≠ x ∧ o = some y ∧ takeF wr o x = (14, some y)) := by
  unfold takeF
  by_cases h : wr = 0
  · rw [if_neg (fun e => e h)]
    cases o with
    | none => exact .inr (.inl ⟨h, rfl, rfl⟩)
    | some y =>
      by_cases e : y = x
      · exact .inr (.inr (.inl ⟨h, by rw [e], by simp [e]⟩))
      · exact .inr (.inr (.inr ⟨h, y, e, rfl, by simp [e]⟩))
  · exact .inl ⟨h, by rw [if_pos h]⟩
theorem free_facts (wr : Int) (o : Option Hol) (x : Hol) : (wr ≠ 0 ∧ freeF wr o x = (wr, o)) ∨ (wr = 0 ∧ o = some x ∧ freeF wr o x = (0, none)) ∨ (wr = 0 ∧ o = none ∧ freeF wr o x = (7, none)) ∨ (wr = 0 ∧ ∃ y, y ≠ x ∧ o = some y ∧ freeF wr o x = (7, some y)) := by
  unfold freeF
  by_cases h : wr = 0
  · rw [if_neg (fun e => e h)]
    cases o with
    | none => exact .inr (.inr (.inl ⟨h, rfl, rfl⟩))
    | some y =>
      by_cases e : y = x
      · exact .inr (.inl ⟨h, by rw [e], by simp [e]⟩)
      · exact .inr (.inr (.inr ⟨h, y, e, rfl, by simp [e]⟩))
  · exact .inl ⟨h, by rw [if_pos h]⟩
theorem take_some {wr : Int} {o : Option Hol} {x : Hol} (h : (takeF wr o x).2 ≠ none) : o ≠ none ∨ wr = 0 := by
  rcases take_facts wr o x with ⟨_, e⟩ | ⟨h0, _⟩ | ⟨h0, _⟩ | ⟨h0, _⟩
  · rw [e] at h
    exact .inl h
  · exact .inr h0
  · exact .inr h0
  · exact .inr h0
theorem free_some {wr : Int} {o : Option Hol} {x : Hol} (h : (freeF wr o x).2 ≠ none) : o ≠ none := by
  rcases free_facts wr o x with ⟨_, e⟩ | ⟨_, _, e⟩ | ⟨_, _, e⟩ | ⟨_, y, _, h1, _⟩
  · rw [e] at h
    exact h
  · rw [e] at h
    exact absurd rfl h
  · rw [e] at h
    exact absurd rfl h
  · rw [h1]
    simp
theorem QW.take {rs : List FlR} {ps : List PlM} {q : Hpl → Option Hol} (h : QW rs ps q) (c : Hpl) (x : Hol) : QW rs ps (updH q c (takeF (wrongB rs ps c) (q c) x).2) := h.upd fun ho => by
  rcases take_some ho with h1 | h1
  · exact h c h1
  · exact h1
theorem QW.free {rs : List FlR} {ps : List PlM} {q : Hpl → Option Hol} (h : QW rs ps q) (c : Hpl) (x : Hol) : QW rs ps (updH q c (freeF (wrongB rs ps c) (q c) x).2) := h.upd fun ho => h c (free_some ho)
/-- The boxes of a law's world, its leg, its seat and its owner. -/
structure H5 (W : World) (kw gx gs go : Nat) (wc : Array Value) (x : Leg) (s : Sit) (y : Hol) : Prop where
  bw : Bx W kw wc 60
  bx : Bx W gx #[.string x.key.car, .int .i64 x.key.num, .int .i64 x.day] 27
  bs : Bx W gs #[.int .i64 s.row, .int .u8 s.let_] 67
  bo : Bx W go #[.string y.loc, .int .i64 y.pax] 69
section
variable {W W' : World} {kw gx gs go : Nat} {wc : Array Value} {x : Leg} {s : Sit} {y : Hol}
theorem H5.below (h : H5 W kw gx gs go wc x s y) (hb : Below W.heap.size W W') : H5 W' kw gx gs go wc x s y := ⟨h.bw.below hb h.bw.lt, h.bx.below hb h.bx.lt, h.bs.below hb h.bs.lt, h.bo.below hb h.bo.lt⟩
theorem H5.own (h : H5 W kw gx gs go wc x s y) (h1 : kw < go) (h2 : gx < go) (h3 : gs < go) (z : Hol) : H5 ((W.setCell ⟨go, 0, none⟩ (.string z.loc)).setCell ⟨go, 1, none⟩ (.int .i64 z.pax)) kw gx gs go wc x s z :=
  ⟨(h.bw.other (by simp; omega) _).other (by simp; omega) _, (h.bx.other (by simp; omega) _).other (by simp; omega) _, (h.bs.other (by simp; omega) _).other (by simp; omega) _, (h.bo.put 0 _).put 1 _⟩
theorem Kb.cell (b : Nat) (W : World) (i : Nat) (u : Value) : Kb b W (W.setCell ⟨b, i, none⟩ u) := ⟨rfl, rfl, rfl, by simp, fun k _ hn => Below.heap_setCell W _ u k hn⟩
theorem H5.kb {b : Nat} (h : H5 W kw gx gs go wc x s y) (hk : Kb b W W') (h1 : kw < b) (h2 : b < gx) (h3 : b < gs) (h4 : b < go) : H5 W' kw gx gs go wc x s y := ⟨h.bw.kb hk (by omega), h.bx.kb hk (by omega), h.bs.kb hk (by omega), h.bo.kb hk (by omega)⟩
end
end Go.Proofs.YtlkdefmceghmnaaGreat
