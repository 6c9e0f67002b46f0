/-
  Walks of chapter 1: which numbers are characters, which may stand in names (program and reference).
-/
import Derived.Test.YtadkgjbidhfefaaDoorSpec01
import Derived.Test.YtadkgjbidhfefaaDoorBuild
import Derived.WalkSpells
import Derived.WalkLawsBesides
import Derived.Deep.DeepCutAuto
import Derived.Laws.Rows
set_option linter.unusedVariables false
namespace Go.Proofs.YtadkgjbidhfefaaDoor
open Go.RowKit


set_option maxHeartbeats 400000 in
theorem refIsChar_any (r : Int) (w : World) :
    Calls Tryd.prog 110 #[.int .i64 r] w fun e w' => e = .returned (.bool (isChar r)) ∧ w = w' := by
  go_enter Tryd.func110, Tryd.ntmps110
  go_wp2
  all_goals go_ret
  all_goals exact ⟨ret_bool (by rw [Bool.eq_iff_iff]; simp [isChar] <;> omega), rfl⟩

set_option maxHeartbeats 400000 in
theorem isChar_any (r : Int) (w : World) :
    Calls Tryd.prog 120 #[.int .i32 r] w fun e w' => e = .returned (.bool (isChar r)) ∧ w = w' := by
  go_enter Tryd.func120, Tryd.ntmps120
  go_wp2
  all_goals go_ret
  all_goals exact ⟨ret_bool (by rw [Bool.eq_iff_iff]; simp [isChar] <;> omega), rfl⟩


end Go.Proofs.YtadkgjbidhfefaaDoor
