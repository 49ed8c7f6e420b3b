/- ScriptBack is true of every input, and its arguments read behind the call as they did: the card; the package variables that the row lists are tied to the program. -/
import Derived.Test.YteoiejngmcaahaaGreatDoorRowSaid
import Derived.Test.YteoiejngmcaahaaGreatDoorMRowX
namespace Go.Proofs.YteoiejngmcaahaaGreatDoor.rScriptBack
set_option linter.unusedVariables false
open Go Go.RowKit Go.ChangeShapes Go.WideShapes Go.ChangeAt
theorem card : Rows.ScriptBackCardSaid :=
  Claim7.holds_tied_plain_at .later [] _ _ _ _ said (fun _ h => by cases h) (by kernel_rfl) (fun _ h => by cases h) scriptBack_row_tie rfl ⟨rfl, rfl⟩ (by kernel_rfl) rfl plain goes_c
#print axioms card
end Go.Proofs.YteoiejngmcaahaaGreatDoor.rScriptBack
