/- ScriptBack: facts of the row. -/
import Derived.Test.YteoiejngmcaahaaGreatDoorCards
import Derived.Test.YteoiejngmcaahaaGreatDoorTie
import Derived.Test.YteoiejngmcaahaaGreatDoorFCode
import Derived.ProofKit
import Derived.SevenTiedAt
namespace Go.Proofs.YteoiejngmcaahaaGreatDoor.rScriptBack
set_option linter.unusedVariables false
open Go Go.RowKit Go.ChangeShapes Go.WideShapes Go.ChangeAt
theorem k12 : ((Rows.scriptBackRow.named == Tryz.prog.varsNamed 3)) = true := by kernel_rfl
end Go.Proofs.YteoiejngmcaahaaGreatDoor.rScriptBack
