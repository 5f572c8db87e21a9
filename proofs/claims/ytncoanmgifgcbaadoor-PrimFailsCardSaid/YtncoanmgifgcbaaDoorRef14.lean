/- The document on classes (websterref14): Get, Fetch, ClassOf. · The document on classes (websterref14): Shape. -/
import Derived.Test.YtncoanmgifgcbaaDoorRef05
import Derived.Test.YtncoanmgifgcbaaDoorRef10h
import Derived.Test.YtncoanmgifgcbaaDoorKitB
namespace Go.Proofs.YtncoanmgifgcbaaDoor
set_option linter.unusedVariables false
set_option linter.unusedSimpArgs false
open Go.RowKit



end Go.Proofs.YtncoanmgifgcbaaDoor
