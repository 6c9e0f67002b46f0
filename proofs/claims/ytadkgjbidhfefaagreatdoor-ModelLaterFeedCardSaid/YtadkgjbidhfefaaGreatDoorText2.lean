/-
  Walks of chapter 1: the tables of the name characters.
-/
import Derived.Test.YtadkgjbidhfefaaGreatDoorSpec01
import Derived.Test.YtadkgjbidhfefaaGreatDoorBuild
import Derived.Test.YtadkgjbidhfefaaGreatDoorTabJ
import Derived.WalkSpells
import Derived.WalkLawsBesides
import Derived.Laws.Rows
import Derived.Shelf.Unicode.DecodeAny
set_option linter.unusedVariables false
namespace Go.Proofs.YtadkgjbidhfefaaGreatDoor
open Go.RowKit

/-- The tables as the start lays them. -/
abbrev Tabs := TabJ
end Go.Proofs.YtadkgjbidhfefaaGreatDoor
