/-
  Walks of chapter 2, what chapter 4 uses of it: leap years, lengths of months, day numbers (program and reference).
-/
import Derived.Test.YtooabnmmgmmklaaDoorCiv4
import Derived.Test.YtooabnmmgmmklaaDoorProg
import Derived.WalkKit
import Derived.Lib.Hide
import Derived.Outline
import Derived.Below
import Derived.WalkSpells
import Derived.WalkLawsBesides
set_option linter.unusedVariables false
namespace Go.Proofs.YtooabnmmgmmklaaDoor
open Go.RowKit

theorem retB {a b : Bool} (h : a = b) : Ending.returned (.bool a) = .returned (.bool b) := by rw [h]
theorem retI {k : IntKind} {a b : Int} (h : a = b) : Ending.returned (.int k a) = .returned (.int k b) := by rw [h]
theorem dimY_two {y m : Int} (hy1 : 1 ≤ y) (hy2 : y ≤ 9999) (h1 : m = 2) (h2 : leapY y = true) : dimY y m = 29 := by rw [dimY_in hy1 hy2 (by omega) (by omega), if_pos h1, if_pos h2]
theorem dimY_less {y m : Int} (hy1 : 1 ≤ y) (hy2 : y ≤ 9999) (h1 : m = 2) (h2 : leapY y = false) : dimY y m = 28 := by rw [dimY_in hy1 hy2 (by omega) (by omega), if_pos h1, if_neg (by rw [h2]; decide)]
theorem ret_II {a b c d : Int} (h1 : a = c) (h2 : b = d) : Ending.returned (.tuple #[.int .i64 a, .int .i64 b]) = .returned (.tuple #[.int .i64 c, .int .i64 d]) := by rw [h1, h2]
theorem tmod_pos {a b : Int} (h : 0 ≤ a) : a.tmod b = a % b := Int.tmod_eq_emod_of_nonneg h
theorem tdiv_pos {a b : Int} (h : 0 ≤ a) : a.tdiv b = a / b := Int.tdiv_eq_ediv_of_nonneg h

set_option maxHeartbeats 1000000 in
theorem leap_any (y : Int) (w : World) :
    Calls Tryd.prog 84 #[.int .i64 y] w fun e w' => e = .returned (.bool (leapY y)) ∧ w = w' := by
  have h1 : 1 ≤ y → y.tmod 4 = y % 4 := fun h => tmod_pos (by omega)
  have h2 : 1 ≤ y → y.tmod 100 = y % 100 := fun h => tmod_pos (by omega)
  have h3 : 1 ≤ y → y.tmod 400 = y % 400 := fun h => tmod_pos (by omega)
  go_enter Tryd.func84, Tryd.ntmps84
  go_wp2
  all_goals go_ret
  all_goals exact ⟨retB (by rw [Bool.eq_iff_iff, leapY_iff]; simp <;> omega), rfl⟩
set_option maxHeartbeats 1000000 in
theorem refLeap_any (y : Int) (w : World) :
    Calls Tryd.prog 74 #[.int .i64 y] w fun e w' => e = .returned (.bool (leapY y)) ∧ w = w' := by
  have h1 : 1 ≤ y → y.tmod 4 = y % 4 := fun h => tmod_pos (by omega)
  have h2 : 1 ≤ y → y.tmod 100 = y % 100 := fun h => tmod_pos (by omega)
  have h3 : 1 ≤ y → y.tmod 400 = y % 400 := fun h => tmod_pos (by omega)
  go_enter Tryd.func74, Tryd.ntmps74
  go_wp2
  all_goals go_ret
  all_goals exact ⟨retB (by rw [Bool.eq_iff_iff, leapY_iff]; simp <;> omega), rfl⟩
set_option maxHeartbeats 1000000 in
theorem daysIn_any (y m : Int) (w : World) :
    Calls Tryd.prog 70 #[.int .i64 y, .int .i64 m] w fun e w' => e = .returned (.int .i64 (dimY y m)) ∧ w = w' := by
  have hl := leap_any y
  have HL := Lib.hid hl
  clear hl
  have h8 : 1 ≤ m → m.tdiv 8 = m / 8 := fun h => tdiv_pos (by omega)
  have h2 : 1 ≤ m → (m + m / 8).tmod 2 = (m + m / 8) % 2 := fun h => tmod_pos (by omega)
  go_enter Tryd.func70, Tryd.ntmps70
  go_wp2_with (go_at_call 84; refine (HL.out _).mono ?_; rintro e w2 ⟨rfl, rfl⟩)
  all_goals go_ret
  all_goals first
    | exact ⟨retI (dimY_out (by omega)).symm, rfl⟩
    | exact ⟨retI (dimY_two (by omega) (by omega) (by omega) (by assumption)).symm, rfl⟩
    | exact ⟨retI (dimY_less (by omega) (by omega) (by omega) (by assumption)).symm, rfl⟩
    | exact ⟨retI (by rw [dimY_form (by omega) (by omega) (by omega) (by omega) (by omega)]), rfl⟩
set_option maxHeartbeats 1000000 in
theorem refDaysIn_any (y m : Int) (w : World) :
    Calls Tryd.prog 59 #[.int .i64 y, .int .i64 m] w fun e w' => e = .returned (.int .i64 (dimY y m)) ∧ w = w' := by
  have hl := refLeap_any y
  have HL := Lib.hid hl
  clear hl
  go_enter Tryd.func59, Tryd.ntmps59
  go_wp2_with (go_at_call 74; refine (HL.out _).mono ?_; rintro e w2 ⟨rfl, rfl⟩)
  all_goals go_ret
  all_goals refine ⟨retI ?_, rfl⟩
  all_goals (try simp only [beq_iff_eq, beq_eq_false_iff_ne, ne_eq] at *)
  all_goals first
    | exact (dimY_out (by omega)).symm
    | exact (dimY_two (by omega) (by omega) (by omega) (by assumption)).symm
    | exact (dimY_less (by omega) (by omega) (by omega) (by assumption)).symm
    | (rw [dimY_in (by omega) (by omega) (by omega) (by omega), if_neg (by omega), if_pos (by omega)]; done)
    | (rw [dimY_in (by omega) (by omega) (by omega) (by omega), if_neg (by omega), if_neg (by omega)]; done)
set_option maxHeartbeats 1000000 in
theorem weekday_any (days : Int) (w : World) :
    Calls Tryd.prog 20 #[.int .i64 days] w fun e w' => e = .returned (.tuple #[.int .i64 (if days < -719162 ∨ 2932896 < days then 0 else wday days), .int .i64 (if days < -719162 ∨ 2932896 < days then 3 else 0)]) ∧ w = w' := by
  have h7 := wday_prog (days := days)
  have hb : (Int.tmod days 7) < 7 ∧ -7 < Int.tmod days 7 := ⟨Int.tmod_lt_of_pos _ (by decide), by have := Int.lt_tmod_of_pos days (show (0:Int) < 7 by decide); omega⟩
  generalize ht : Int.tmod days 7 = t at *
  obtain ⟨b1, b2⟩ := hb
  generalize hu : (t + 11).tmod 7 = u at *
  have hu0 : 0 ≤ u ∧ u < 7 := by rw [h7]; unfold wday; omega
  obtain ⟨u0, u1⟩ := hu0
  go_enter Tryd.func20, Tryd.ntmps20
  go_wp2
  all_goals go_ret2
  all_goals first
    | exact ⟨ret_II rfl rfl, rfl⟩
    | exact ⟨ret_II h7 rfl, rfl⟩
    | (exfalso; omega)
end Go.Proofs.YtooabnmmgmmklaaDoor
