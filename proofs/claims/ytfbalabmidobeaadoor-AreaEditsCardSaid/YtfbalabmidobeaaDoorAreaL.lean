/- Areas: the plain law: edits taken one by one. -/
import Derived.Test.YtfbalabmidobeaaDoorArea1
namespace Go.Proofs.YtfbalabmidobeaaDoor
set_option linter.unusedVariables false
open Go Go.RowKit
theorem foldF_snoc {x : Edit} {q : Pnr} : ∀ {es : List Edit} {p : Pnr}, foldF p es = (q, es.length, 0) → foldF p (es ++ [x]) = if (applyF q x).2 = 0 then ((applyF q x).1, es.length + 1, 0) else (q, es.length, (applyF q x).2)
  | [], p, h => by
    have hp : p = q := by simp only [foldF] at h; exact (Prod.mk.inj h).1
    subst hp
    simp only [List.nil_append, foldF, List.length_nil, Nat.zero_add]
    by_cases h0 : (applyF p x).2 = 0
    · rw [if_neg (by simpa using h0), if_pos h0]
    · rw [if_pos h0, if_neg h0]
  | e :: t, p, h => by
    simp only [foldF] at h
    by_cases h0 : (applyF p e).2 = 0
    · rw [if_neg (by simpa using h0)] at h
      obtain ⟨h1, h2⟩ := Prod.mk.inj h
      obtain ⟨h3, h4⟩ := Prod.mk.inj h2
      have ih := foldF_snoc (x := x) (es := t) (p := (applyF p e).1) (q := q) (by
        refine Prod.ext h1 (Prod.ext ?_ h4)
        simp only [List.length_cons] at h3
        show (foldF (applyF p e).1 t).2.1 = t.length
        omega)
      simp only [List.cons_append, foldF]
      rw [if_neg (by simpa using h0), ih]
      by_cases h5 : (applyF q x).2 = 0
      · simp only [h5, if_true, List.length_cons]
      · simp only [if_neg h5, List.length_cons]
    · rw [if_pos h0] at h
      obtain ⟨_, h2⟩ := Prod.mk.inj h
      obtain ⟨_, h4⟩ := Prod.mk.inj h2
      exact absurd h4 h0
/-- All edits of an area were taken: its PNR is q. -/
def Took (a : Ar) (q : Pnr) : Prop := foldF a.base a.edits = (q, a.edits.length, 0)
theorem Took.pnr {a : Ar} {q : Pnr} (h : Took a q) : pnrF a = q := by unfold pnrF; rw [show foldF a.base a.edits = _ from h]
/-- An edit more. -/
theorem edit_law {a : Ar} {q : Pnr} {x : Edit} (hs : noOne a = false) (h : Took a q) (hn : a.edits.length < 100) :
    ((applyF q x).2 = 0 → editF a x = ({ a with open_ := true, edits := a.edits ++ [x] }, 0) ∧ Took { a with open_ := true, edits := a.edits ++ [x] } (applyF q x).1) ∧ ((applyF q x).2 ≠ 0 → editF a x = (ar0, (applyF q x).2)) := by
  have hp := h.pnr
  constructor
  · intro h0
    refine ⟨?_, ?_⟩
    · unfold editF
      rw [hs, hp, if_neg (by simp), if_neg (by omega), if_neg (by simpa using h0)]
    · show foldF a.base (a.edits ++ [x]) = _
      rw [foldF_snoc h, if_pos h0]
      simp
  · intro h0
    unfold editF
    rw [hs, hp, if_neg (by simp), if_neg (by omega), if_pos h0]
theorem edit_many {a : Ar} {x : Edit} (hs : noOne a = false) (hn : 100 ≤ a.edits.length) : editF a x = (ar0, 18) := by
  unfold editF
  rw [hs, if_neg (by simp), if_pos hn]
end Go.Proofs.YtfbalabmidobeaaDoor
