/- Put together by program of: RowC2, RowC8. -/
import Derived.Test.YtggomjfllbljeaaGreatDoorCards
import Derived.Test.YtggomjfllbljeaaGreatDoorTie
import Derived.Test.YtggomjfllbljeaaGreatDoorFCode
import Derived.ProofKit
import Derived.SevenTiedAt
namespace Go.Proofs.YtggomjfllbljeaaGreatDoor.rScriptParses
set_option linter.unusedVariables false
open Go Go.RowKit Go.ChangeShapes Go.WideShapes Go.ChangeAt
theorem k2 : (mapsRowed Tryz.prog) = true := by kernel_rfl
end Go.Proofs.YtggomjfllbljeaaGreatDoor.rScriptParses
namespace Go.Proofs.YtggomjfllbljeaaGreatDoor.rScriptParses
set_option linter.unusedVariables false
open Go Go.RowKit Go.ChangeShapes Go.WideShapes Go.ChangeAt
theorem k24 : (Tryz.prog.stopsHeard) = true := by kernel_rfl
theorem k25 : (Tryz.prog.mayEnter) = true := by kernel_rfl
end Go.Proofs.YtggomjfllbljeaaGreatDoor.rScriptParses
