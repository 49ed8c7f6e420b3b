/- ScriptParses: facts of the row. -/
import Derived.Test.YtggomjfllbljeaaGreatDoorCards
import Derived.Test.YtggomjfllbljeaaGreatDoorTie
import Derived.Test.YtggomjfllbljeaaGreatDoorFCode
import Derived.ProofKit
import Derived.SevenTiedAt
namespace Go.Proofs.YtggomjfllbljeaaGreatDoor.rScriptParses
set_option linter.unusedVariables false
open Go Go.RowKit Go.ChangeShapes Go.WideShapes Go.ChangeAt
theorem k9 : ((Rows.scriptParsesRow.inPlace == Tryz.prog.inPlace 3)) = true := by kernel_rfl
end Go.Proofs.YtggomjfllbljeaaGreatDoor.rScriptParses
