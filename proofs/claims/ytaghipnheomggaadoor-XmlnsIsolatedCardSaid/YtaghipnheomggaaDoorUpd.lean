/-
  A position in a document (the struct cursor) behind a pointer.
-/
import Derived.Test.YtaghipnheomggaaDoorMem
set_option linter.unusedVariables false
namespace Go.Proofs.YtaghipnheomggaaDoor
open Go.RowKit

end Go.Proofs.YtaghipnheomggaaDoor
