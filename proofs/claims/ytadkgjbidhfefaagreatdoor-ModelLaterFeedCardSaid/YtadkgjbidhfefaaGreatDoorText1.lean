/-
  Walks of chapter 1: which numbers are characters, which may stand in names (program and reference).
-/
import Derived.Test.YtadkgjbidhfefaaGreatDoorSpec01
import Derived.Test.YtadkgjbidhfefaaGreatDoorBuild
import Derived.WalkSpells
import Derived.WalkLawsBesides
import Derived.Deep.DeepCutAuto
import Derived.Laws.Rows
set_option linter.unusedVariables false
namespace Go.Proofs.YtadkgjbidhfefaaGreatDoor
open Go.RowKit


set_option maxHeartbeats 400000 in
theorem refIsChar_any (r : Int) (w : World) :
    Calls Tryz.prog 62 #[.int .i64 r] w fun e w' => e = .returned (.bool (isChar r)) ∧ w = w' := by
  go_enter Tryz.func62, Tryz.ntmps62
  go_wp2
  all_goals go_ret
  all_goals exact ⟨ret_bool (by rw [Bool.eq_iff_iff]; simp [isChar] <;> omega), rfl⟩

set_option maxHeartbeats 400000 in
theorem isChar_any (r : Int) (w : World) :
    Calls Tryz.prog 86 #[.int .i32 r] w fun e w' => e = .returned (.bool (isChar r)) ∧ w = w' := by
  go_enter Tryz.func86, Tryz.ntmps86
  go_wp2
  all_goals go_ret
  all_goals exact ⟨ret_bool (by rw [Bool.eq_iff_iff]; simp [isChar] <;> omega), rfl⟩


end Go.Proofs.YtadkgjbidhfefaaGreatDoor
