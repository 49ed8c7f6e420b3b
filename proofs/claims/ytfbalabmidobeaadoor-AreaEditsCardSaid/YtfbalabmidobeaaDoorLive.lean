/- The numbers of the live segments: the program's and the document's. -/
import Derived.Test.YtfbalabmidobeaaDoorMLib
import Derived.Test.YtfbalabmidobeaaDoorRows
namespace Go.Proofs.YtfbalabmidobeaaDoor
set_option linter.unusedVariables false
open Go Go.RowKit
end Go.Proofs.YtfbalabmidobeaaDoor
