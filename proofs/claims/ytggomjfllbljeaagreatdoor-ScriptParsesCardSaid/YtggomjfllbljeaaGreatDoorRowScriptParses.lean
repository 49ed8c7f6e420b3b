/- ScriptParses is true of every input, and its arguments read behind the call as they did: the card; the package variables that the row lists are tied to the program. -/
import Derived.Test.YtggomjfllbljeaaGreatDoorRowSaid
import Derived.Test.YtggomjfllbljeaaGreatDoorMRowX
namespace Go.Proofs.YtggomjfllbljeaaGreatDoor.rScriptParses
set_option linter.unusedVariables false
open Go Go.RowKit Go.ChangeShapes Go.WideShapes Go.ChangeAt
theorem card : Rows.ScriptParsesCardSaid :=
  Claim7.holds_tied_plain_at .later [] _ _ _ _ said (fun _ h => by cases h) (by kernel_rfl) (fun _ h => by cases h) scriptParses_row_tie rfl ⟨rfl, rfl⟩ (by kernel_rfl) rfl plain goes_c
#print axioms card
end Go.Proofs.YtggomjfllbljeaaGreatDoor.rScriptParses
