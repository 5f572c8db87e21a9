/- The document on classes (websterref14): Shape. -/
import Derived.Test.YtncoanmgifgcbaaDoorRef14
namespace Go.Proofs.YtncoanmgifgcbaaDoor
set_option linter.unusedVariables false
set_option linter.unusedSimpArgs false
open Go.RowKit

end Go.Proofs.YtncoanmgifgcbaaDoor
