/- The numbers of the live segments: the program's and the document's. -/
import Derived.Test.YtpgeoahlhdifoaaGreatDoorMLib
import Derived.Test.YtpgeoahlhdifoaaGreatDoorRows
namespace Go.Proofs.YtpgeoahlhdifoaaGreatDoor
set_option linter.unusedVariables false
open Go Go.RowKit
end Go.Proofs.YtpgeoahlhdifoaaGreatDoor
