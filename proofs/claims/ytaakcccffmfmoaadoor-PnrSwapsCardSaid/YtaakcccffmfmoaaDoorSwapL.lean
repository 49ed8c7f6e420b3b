/- Two edits of unlike kinds that touch a field of their own each come to the same in either order: the plain law. -/
import Derived.Test.YtaakcccffmfmoaaDoorApply
namespace Go.Proofs.YtaakcccffmfmoaaDoor
set_option linter.unusedVariables false
open Go Go.RowKit
def apartB (k : Int) : Bool := (k == 1) || ((k == 3) || ((k == 4) || ((k == 5) || (k == 6))))
theorem apartB_iff {k : Int} : apartB k = true ↔ k = 1 ∨ k = 3 ∨ k = 4 ∨ k = 5 ∨ k = 6 := by
  simp [apartB]
/-- Is such an edit taken? -/
def cE (p : Pnr) (e : Edit) : Bool :=
  if e.kind = 1 then nmB e.nam && (p.loc.toList.isEmpty && decide (p.names.length < 9)) else
  if e.kind = 3 then freeB e.text && decide (p.phones.length < 4) else
  if e.kind = 4 then tikB e.tik else
  if e.kind = 5 then freeB e.text else freeB e.text && decide (p.remarks.length < 10)
def uE (p : Pnr) (e : Edit) : Pnr :=
  if e.kind = 1 then { p with names := p.names ++ [e.nam] } else
  if e.kind = 3 then { p with phones := p.phones ++ [e.text] } else
  if e.kind = 4 then { p with tik := e.tik, queued := false } else
  if e.kind = 5 then { p with rc := e.text } else { p with remarks := p.remarks ++ [e.text] }
theorem apart_apply {p : Pnr} {e : Edit} (hk : apartB e.kind = true) : (cE p e = true → applyF p e = (uE p e, 0)) ∧ (cE p e = false → (applyF p e).2 ≠ 0) := by
  rcases apartB_iff.1 hk with h | h | h | h | h
  · rcases Bool.eq_false_or_eq_true (nmB e.nam) with h1 | h1 <;> rcases Bool.eq_false_or_eq_true p.loc.toList.isEmpty with h2 | h2 <;> by_cases h3 : p.names.length < 9
    all_goals simp [applyF, changeF, nameF, cE, uE, h, h1, h2, h3]
    all_goals (first | omega | (split <;> first | omega | (simp_all; done) | (simp_all; omega)) | simp_all)
  · rcases Bool.eq_false_or_eq_true (freeB e.text) with h1 | h1 <;> by_cases h3 : p.phones.length < 4
    all_goals simp [applyF, changeF, textF, cE, uE, h, h1, h3]
    all_goals (first | omega | (split <;> first | omega | (simp_all; done) | (simp_all; omega)) | simp_all)
  · rcases Bool.eq_false_or_eq_true (tikB e.tik) with h1 | h1
    all_goals simp [applyF, changeF, cE, uE, h, h1]
  · rcases Bool.eq_false_or_eq_true (freeB e.text) with h1 | h1
    all_goals simp [applyF, changeF, cE, uE, h, h1]
  · rcases Bool.eq_false_or_eq_true (freeB e.text) with h1 | h1 <;> by_cases h3 : p.remarks.length < 10
    all_goals simp [applyF, changeF, textF, cE, uE, h, h1, h3]
    all_goals (first | omega | (split <;> first | omega | (simp_all; done) | (simp_all; omega)) | simp_all)
theorem apart_c {p : Pnr} {a b : Edit} (ha : apartB a.kind = true) (hb : apartB b.kind = true) (hne : a.kind ≠ b.kind) : cE (uE p b) a = cE p a := by
  rcases apartB_iff.1 ha with h | h | h | h | h <;> rcases apartB_iff.1 hb with g | g | g | g | g
  all_goals first
    | exact absurd (h.trans g.symm) hne
    | simp [cE, uE, h, g]
theorem apart_u {p : Pnr} {a b : Edit} (ha : apartB a.kind = true) (hb : apartB b.kind = true) (hne : a.kind ≠ b.kind) : uE (uE p a) b = uE (uE p b) a := by
  rcases apartB_iff.1 ha with h | h | h | h | h <;> rcases apartB_iff.1 hb with g | g | g | g | g
  all_goals first
    | exact absurd (h.trans g.symm) hne
    | simp [uE, h, g]
theorem fold_two (p : Pnr) (a b : Edit) : ((applyF p a).2 ≠ 0 → (foldF p [a, b]).2.2 ≠ 0) ∧ ((applyF p a).2 = 0 → (applyF (applyF p a).1 b).2 ≠ 0 → (foldF p [a, b]).2.2 ≠ 0) ∧
    ((applyF p a).2 = 0 → (applyF (applyF p a).1 b).2 = 0 → foldF p [a, b] = ((applyF (applyF p a).1 b).1, 2, 0)) := by
  refine ⟨fun h => ?_, fun h1 h2 => ?_, fun h1 h2 => ?_⟩
  · simp [foldF, h]
  · simp [foldF, h1, h2]
  · simp [foldF, h1, h2]
theorem swap_law {p : Pnr} {a b : Edit} (ha : apartB a.kind = true) (hb : apartB b.kind = true) (hne : a.kind ≠ b.kind) :
    (∃ q, foldF p [a, b] = (q, 2, 0) ∧ foldF p [b, a] = (q, 2, 0)) ∨ ((foldF p [a, b]).2.2 ≠ 0 ∧ (foldF p [b, a]).2.2 ≠ 0) := by
  have A := apart_apply (p := p) ha
  have B := apart_apply (p := p) hb
  have A' := apart_apply (p := uE p b) ha
  have B' := apart_apply (p := uE p a) hb
  rw [apart_c ha hb hne] at A'
  rw [apart_c hb ha (Ne.symm hne)] at B'
  obtain ⟨f1, f2, f3⟩ := fold_two p a b
  obtain ⟨g1, g2, g3⟩ := fold_two p b a
  rcases Bool.eq_false_or_eq_true (cE p a) with c | c <;> rcases Bool.eq_false_or_eq_true (cE p b) with d | d
  · left
    refine ⟨uE (uE p a) b, ?_, ?_⟩
    · rw [A.1 c] at f3
      rw [f3 rfl (by rw [B'.1 d]), B'.1 d]
    · rw [B.1 d] at g3
      rw [g3 rfl (by rw [A'.1 c]), A'.1 c, apart_u ha hb hne]
  · right
    refine ⟨?_, g1 (B.2 d)⟩
    rw [A.1 c] at f2
    exact f2 rfl (B'.2 d)
  · right
    refine ⟨f1 (A.2 c), ?_⟩
    rw [B.1 d] at g2
    exact g2 rfl (A'.2 c)
  · right
    exact ⟨f1 (A.2 c), g1 (B.2 d)⟩
end Go.Proofs.YtaakcccffmfmoaaDoor
