/-
  Walks of chapter 1: the tables of the name characters.
-/
import Derived.Test.YtadkgjbidhfefaaDoorSpec01
import Derived.Test.YtadkgjbidhfefaaDoorBuild
import Derived.Test.YtadkgjbidhfefaaDoorTabJ
import Derived.WalkSpells
import Derived.WalkLawsBesides
import Derived.Laws.Rows
import Derived.Shelf.Unicode.DecodeAny
set_option linter.unusedVariables false
namespace Go.Proofs.YtadkgjbidhfefaaDoor
open Go.RowKit

/-- The tables as the start lays them. -/
abbrev Tabs := TabJ
end Go.Proofs.YtadkgjbidhfefaaDoor
