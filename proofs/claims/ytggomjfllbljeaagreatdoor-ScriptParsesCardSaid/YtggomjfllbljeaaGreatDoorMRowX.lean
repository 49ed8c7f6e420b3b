/- Put together by program of: RowPlain, RowGoes. -/
import Derived.Test.YtggomjfllbljeaaGreatDoorCards
import Derived.Test.YtggomjfllbljeaaGreatDoorTie
import Derived.Test.YtggomjfllbljeaaGreatDoorFCode
import Derived.ProofKit
import Derived.SevenTiedAt
namespace Go.Proofs.YtggomjfllbljeaaGreatDoor.rScriptParses
set_option linter.unusedVariables false
open Go Go.RowKit Go.ChangeShapes Go.WideShapes Go.ChangeAt
theorem plain (f : FuncId) (fn : Func) (hf : Tryz.pinned.checked.prog.funcNamed "jetway/jetwaylaw24.ScriptParses" = some f) (hfn : Tryz.pinned.checked.prog.funcs[f]? = some fn) :
    true = Tryz.pinned.checked.prog.looks [] ∧ ∀ (j : Nat) t, fn.params[j]? = some t → Tryz.pinned.checked.prog.wantsStandIn t = false := by
  obtain rfl : f = 3 := Option.some.inj ((show Tryz.prog.funcNamed "jetway/jetwaylaw24.ScriptParses" = some 3 by kernel_rfl).symm.trans hf) |>.symm
  obtain rfl : fn = Tryz.f3 := (Option.some.inj (Tryz.func3.symm.trans hfn)).symm
  refine ⟨by kernel_rfl, fun j t ht => ?_⟩
  rw [Tryz.params3] at ht
  have hm := Array.mem_of_getElem? ht
  simp at hm
  rcases hm with hm | hm
  · subst hm; exact (show Tryz.prog.wantsStandIn 9 = false by kernel_rfl)
  · subst hm; exact (show Tryz.prog.wantsStandIn 24 = false by kernel_rfl)
end Go.Proofs.YtggomjfllbljeaaGreatDoor.rScriptParses
namespace Go.Proofs.YtggomjfllbljeaaGreatDoor.rScriptParses
set_option linter.unusedVariables false
open Go Go.RowKit Go.ChangeShapes Go.WideShapes Go.ChangeAt
theorem goes_none (P : Program) (h : P.funcs.any Func.goes = false) (f : FuncId) : P.goes f = false := by
  have h1 : ∀ g : FuncId, (P.funcs[g]?).any Func.goes = false := by
    intro g
    cases hg : P.funcs[g]? with
    | none => rfl
    | some fn =>
      obtain ⟨hi, rfl⟩ := Array.getElem?_eq_some_iff.1 hg
      have h2 := (Array.any_eq_false.1 h) g hi
      simpa using h2
  unfold Program.goes
  rw [h, Bool.and_false, Bool.or_false, List.any_eq_false]
  intro g _
  rw [h1 g]
  simp
theorem goes_by (P : Program) (c : OpenClaim) (hs : c.start = .entering) (h : P.funcs.any Func.goes = false) : false = c.goesBy P := by
  have h2 : (P.funcNamed c.func).any P.goes = false := by
    cases P.funcNamed c.func with
    | none => rfl
    | some f => exact goes_none _ h f
  unfold OpenClaim.goesBy Program.goesAt Program.goesFrom
  rw [hs, h2]
  rfl
theorem no_go : Tryz.prog.funcs.any Func.goes = false := by kernel_rfl
theorem goes_c : false = Rows.scriptParsesRow.goesBy Tryz.prog := goes_by _ _ rfl no_go
end Go.Proofs.YtggomjfllbljeaaGreatDoor.rScriptParses
