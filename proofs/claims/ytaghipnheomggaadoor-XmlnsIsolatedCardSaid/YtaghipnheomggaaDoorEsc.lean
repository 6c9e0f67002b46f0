/-
  Walks of chapter 5: escaping (program and reference).
-/
import Derived.Test.YtaghipnheomggaaDoorSpec05
import Derived.Test.YtaghipnheomggaaDoorMem
import Derived.WalkSpells
import Derived.WalkLawsBesides
set_option linter.unusedVariables false
namespace Go.Proofs.YtaghipnheomggaaDoor
open Go.RowKit

theorem ret_S {a b : Bytes} (h : a = b) : Ending.returned (.string (S a)) = .returned (.string (S b)) := by rw [h]

theorem nat_of {n m : Nat} (h : ((n : Int) == (m : Int)) = true) : n = m := by have := eq_of_beq h; omega
theorem nat_ne {n m : Nat} (h : ((n : Int) == (m : Int)) = false) : n ≠ m := by rw [beq_eq_false_iff_ne] at h; omega

end Go.Proofs.YtaghipnheomggaaDoor
