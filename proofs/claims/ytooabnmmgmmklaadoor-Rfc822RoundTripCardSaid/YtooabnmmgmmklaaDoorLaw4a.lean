/-
  Walks of chapter 4's statements: the examples; Format, Parse and the days of the week.
-/
import Derived.Test.YtooabnmmgmmklaaDoorFmt84
set_option linter.unusedVariables false
namespace Go.Proofs.YtooabnmmgmmklaaDoor
open Go.RowKit

theorem time_zero : TimeOf 0 1970 1 1 0 := ⟨by decide +kernel, by decide, by decide +kernel⟩
theorem f82_zero : f82 (wday (dayNo (1970 : Nat) (1 : Nat) (1 : Nat))).toNat 1970 1 1 0 = [84, 104, 117, 44, 32, 48, 49, 32, 74, 97, 110, 32, 49, 57, 55, 48, 32, 48, 48, 58, 48, 48, 58, 48, 48, 32, 71, 77, 84] := by decide +kernel
theorem parse_ex1 : parse4 [56, 32, 106, 97, 110, 32, 50, 50, 32, 48, 49, 58, 51, 48, 32, 43, 48, 49, 51, 48] = (1641600000, 0) := by decide +kernel
theorem exParse1 (w : World) (hT : Tab4 w) : Calls Tryd.prog 12 #[.string ⟨#[56, 32, 106, 97, 110, 32, 50, 50, 32, 48, 49, 58, 51, 48, 32, 43, 48, 49, 51, 48]⟩] w fun e w' => e = .returned (.tuple #[.int .i64 1641600000, .int .i64 0]) ∧ Below w.heap.size w w' := by
  have := parse4_any [56, 32, 106, 97, 110, 32, 50, 50, 32, 48, 49, 58, 51, 48, 32, 43, 48, 49, 51, 48] w hT (by decide)
  rw [parse_ex1] at this
  exact this
theorem parse_ex2 : parse4 [56, 32, 74, 97, 110, 32, 50, 48, 50, 50, 32, 48, 49, 58, 51, 48] = (0, 20) := by decide +kernel
theorem exParse2 (w : World) (hT : Tab4 w) : Calls Tryd.prog 12 #[.string ⟨#[56, 32, 74, 97, 110, 32, 50, 48, 50, 50, 32, 48, 49, 58, 51, 48]⟩] w fun e w' => e = .returned (.tuple #[.int .i64 0, .int .i64 20]) ∧ Below w.heap.size w w' := by
  have := parse4_any [56, 32, 74, 97, 110, 32, 50, 48, 50, 50, 32, 48, 49, 58, 51, 48] w hT (by decide)
  rw [parse_ex2] at this
  exact this
theorem parse_ex3 : parse4 [51, 50, 32, 74, 97, 110, 32, 50, 48, 50, 50, 32, 48, 49, 58, 51, 48, 32, 71, 77, 84] = (0, 20) := by decide +kernel
theorem exParse3 (w : World) (hT : Tab4 w) : Calls Tryd.prog 12 #[.string ⟨#[51, 50, 32, 74, 97, 110, 32, 50, 48, 50, 50, 32, 48, 49, 58, 51, 48, 32, 71, 77, 84]⟩] w fun e w' => e = .returned (.tuple #[.int .i64 0, .int .i64 20]) ∧ Below w.heap.size w w' := by
  have := parse4_any [51, 50, 32, 74, 97, 110, 32, 50, 48, 50, 50, 32, 48, 49, 58, 51, 48, 32, 71, 77, 84] w hT (by decide)
  rw [parse_ex3] at this
  exact this
theorem exFormat (w : World) (hT : Tab4 w) : Calls Tryd.prog 9 #[.int .i64 0] w fun e w' => e = .returned (.tuple #[.string ⟨#[84, 104, 117, 44, 32, 48, 49, 32, 74, 97, 110, 32, 49, 57, 55, 48, 32, 48, 48, 58, 48, 48, 58, 48, 48, 32, 71, 77, 84]⟩, .int .i64 0]) ∧ Below w.heap.size w w' := by
  have := format8_any time_zero w hT
  rw [f82_zero] at this
  exact this
set_option maxHeartbeats 4000000 in
set_option maxRecDepth 100000 in
theorem alive4_any (w : World) (hT : Tab4 w) :
    Calls Tryd.prog 11 #[] w fun e w' => e = .returned (.bool true) ∧ Below w.heap.size w w' := by
  have HT := Lib.hid hT
  have F0 := Lib.hid exFormat
  have P1 := Lib.hid exParse1
  have P2 := Lib.hid exParse2
  have P3 := Lib.hid exParse3
  clear hT
  go_enter Tryd.func11, Tryd.ntmps11
  go_wp2_with (first
    | (go_at_call 9; (with_reducible refine (F0.out _ HT.out).mono ?_); rintro e w1 ⟨rfl, b1⟩)
    | (go_at_call 12; (with_reducible refine (P1.out _ (HT.out.next b1)).mono ?_); rintro e w2 ⟨rfl, b2⟩; have c2 := b1.trans (b2.mono b1.size))
    | (go_at_call 12; (with_reducible refine (P2.out _ (HT.out.next c2)).mono ?_); rintro e w3 ⟨rfl, b3⟩; have c3 := c2.trans (b3.mono c2.size))
    | (go_at_call 12; (with_reducible refine (P3.out _ (HT.out.next c3)).mono ?_); rintro e w4 ⟨rfl, b4⟩; have c4 := c3.trans (b4.mono c3.size)))
  go_ret
  exact ⟨rfl, c4⟩
theorem ret_T {b : Bool} (h : b = true) : Ending.returned (.bool b) = .returned (.bool true) := by rw [h]
set_option maxHeartbeats 4000000 in
set_option maxRecDepth 100000 in
theorem law4format_any (t : Int) (w : World) (hT : Tab4 w) (h0 : -9223372036854775808 ≤ t) (h1 : t ≤ 9223372036854775807) :
    Calls Tryd.prog 3 #[.int .i64 t] w fun e w' => e = .returned (.bool true) ∧ Below w.heap.size w w' := by
  by_cases hr : t < -62135596800 ∨ 253402300799 < t
  · have F1 := Lib.hid fun W => format8_out hr h0 h1 W
    have F2 := Lib.hid fun W => refFormat8_out hr W
    have A := Lib.hid (alive4_any w hT)
    clear hr hT
    go_enter Tryd.func3, Tryd.ntmps3
    go_wp2_with (first
      | (go_at_call 9; refine (F1.out _).mono ?_; rintro e w1 ⟨rfl, rfl⟩)
      | (go_at_call 10; refine (F2.out _).mono ?_; rintro e w2 ⟨rfl, rfl⟩)
      | (go_at_call 11; refine A.out.mono ?_; rintro e w3 ⟨rfl, b3⟩))
    go_ret
    exact ⟨rfl, b3⟩
  · obtain ⟨y, m, d, s, h⟩ := time_at (t := t) (by omega) (by omega)
    have F1 := format8_any h w hT
    have F2 := fun W => refFormat8_any h W
    generalize f82 (wday (dayNo y m d)).toNat y m d s = X at *
    have F1 := Lib.hid F1
    have F2 := Lib.hid F2
    have A := Lib.hid fun W (hb : Below w.heap.size w W) => alive4_any W (hT.next hb)
    clear hr hT h
    go_enter Tryd.func3, Tryd.ntmps3
    go_wp2_with (first
      | (go_at_call 9; refine F1.out.mono ?_; rintro e w1 ⟨rfl, b1⟩)
      | (go_at_call 10; refine (F2.out _).mono ?_; rintro e w2 ⟨rfl, b2⟩; have c2 := b1.trans (b2.mono b1.size))
      | (go_at_call 11; refine (A.out _ c2).mono ?_; rintro e w3 ⟨rfl, b3⟩))
    go_ret
    exact ⟨ret_T (by simp), c2.trans (b3.mono c2.size)⟩
set_option maxHeartbeats 4000000 in
set_option maxRecDepth 100000 in
theorem law4parse_any (l : Bytes) (w : World) (hT : Tab4 w) (hm : l.length ≤ 9223372036854775807) :
    Calls Tryd.prog 4 #[.string (S l)] w fun e w' => e = .returned (.bool true) ∧ Below w.heap.size w w' := by
  by_cases hl : l.length ≤ 5000
  · have hl' : ¬ (5000 : Int) < l.length := by omega
    have P1 := parse4_any l w hT (by omega)
    have P2 := fun W => refParse4_any l W (by omega)
    generalize parse4 l = X at *
    obtain ⟨x1, x2⟩ := X
    have P1 := Lib.hid P1
    have P2 := Lib.hid P2
    have A := Lib.hid fun W (hb : Below w.heap.size w W) => alive4_any W (hT.next hb)
    clear hT hl
    go_enter Tryd.func4, Tryd.ntmps4
    go_wp2_with (first
      | (go_at_call 12; refine P1.out.mono ?_; rintro e w1 ⟨rfl, b1⟩)
      | (go_at_call 13; refine (P2.out _).mono ?_; rintro e w2 ⟨rfl, b2⟩; have c2 := b1.trans (b2.mono b1.size))
      | (go_at_call 11; refine (A.out _ c2).mono ?_; rintro e w3 ⟨rfl, b3⟩))
    go_ret
    exact ⟨ret_T (by simp), c2.trans (b3.mono c2.size)⟩
  · have hl' : (5000 : Int) < l.length := by omega
    have A := Lib.hid (alive4_any w hT)
    clear hT hl
    go_enter Tryd.func4, Tryd.ntmps4
    go_wp2_with (go_at_call 11; refine A.out.mono ?_; rintro e w3 ⟨rfl, b3⟩)
    go_ret
    exact ⟨rfl, b3⟩
end Go.Proofs.YtooabnmmgmmklaaDoor
