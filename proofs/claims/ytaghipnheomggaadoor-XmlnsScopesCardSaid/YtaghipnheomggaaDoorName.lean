/-
  Walks of chapter 6: names (program and reference).
-/
import Derived.Test.YtaghipnheomggaaDoorText4
import Derived.Test.YtaghipnheomggaaDoorUpd
import Derived.Test.YtaghipnheomggaaDoorSpec06
import Derived.Deep.LoopGhost
import Derived.Deep.QuietTactic
import Derived.BigQuiet
set_option linter.unusedVariables false
namespace Go.Proofs.YtaghipnheomggaaDoor
open Go.RowKit

end Go.Proofs.YtaghipnheomggaaDoor
