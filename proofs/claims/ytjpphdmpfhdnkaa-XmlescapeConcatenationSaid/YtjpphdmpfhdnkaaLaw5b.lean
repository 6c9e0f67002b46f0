/-
  Walk of chapter 5's statement Concatenation.
-/
import Derived.Test.YtjpphdmpfhdnkaaLaw5a
set_option linter.unusedVariables false
namespace Go.Proofs.Ytjpphdmpfhdnkaa
open Go.RowKit

set_option maxHeartbeats 2000000 in
theorem law5concatenation_any (l m : Bytes) (w : World) (hl : l.length ≤ 140737488355328) (hm : m.length ≤ 140737488355328) : Calls Try.prog 7 #[.string (S l), .string (S m)] w fun e w' => e = .returned (.bool true) ∧ Below w.heap.size w w' := by
  by_cases h : 5000 < l.length + m.length
  · have h' : (5000 : Int) < (l.length : Int) + m.length := by omega
    go_enter Try.func7, Try.ntmps7
    go_wp2_with (go_at_call 9; refine (alive5_any _).mono ?_; rintro e w1 ⟨rfl, hb1⟩)
    go_ret
    exact ⟨rfl, hb1⟩
  · have h' : (l.length : Int) + m.length ≤ 5000 := by omega
    have c1 := fun w => escText_any (l ++ m) w (by rw [List.length_append]; omega)
    have c2 := fun w => escText_any l w (by omega)
    have c3 := fun w => escText_any m w (by omega)
    have c4 := fun w => escAttr_any (l ++ m) w (by rw [List.length_append]; omega)
    have c5 := fun w => escAttr_any l w (by omega)
    have c6 := fun w => escAttr_any m w (by omega)
    rw [esc_append] at c1 c4
    have n2 := esc_len false l
    have n3 := esc_len false m
    have n5 := esc_len true l
    have n6 := esc_len true m
    have C1 := Lib.hid c1
    have C2 := Lib.hid c2
    have C3 := Lib.hid c3
    have C4 := Lib.hid c4
    have C5 := Lib.hid c5
    have C6 := Lib.hid c6
    clear c1 c2 c3 c4 c5 c6
    generalize esc false l = A at *
    generalize esc false m = B at *
    generalize esc true l = D at *
    generalize esc true m = E at *
    have e0 : (A ++ B == A ++ B) = true := by simp
    have e1 : (D ++ E == D ++ E) = true := by simp
    go_enter Try.func7, Try.ntmps7
    go_wp2_with fail
    refine (alive5_any _).mono ?_
    rintro e w1 ⟨rfl, hb1⟩
    go_wp2_with fail
    refine (C1.out _).mono ?_
    rintro e w2 ⟨rfl, hb2⟩
    have hb2' := hb1.trans (hb2.mono hb1.size)
    go_wp2_with fail
    refine (C2.out _).mono ?_
    rintro e w3 ⟨rfl, hb3⟩
    have hb3' := hb2'.trans (hb3.mono hb2'.size)
    go_wp2_with fail
    refine (C3.out _).mono ?_
    rintro e w4 ⟨rfl, hb4⟩
    have hb4' := hb3'.trans (hb4.mono hb3'.size)
    go_wp2_with fail
    refine (C4.out _).mono ?_
    rintro e w5 ⟨rfl, hb5⟩
    have hb5' := hb4'.trans (hb5.mono hb4'.size)
    go_wp2_with fail
    refine (C5.out _).mono ?_
    rintro e w6 ⟨rfl, hb6⟩
    have hb6' := hb5'.trans (hb6.mono hb5'.size)
    go_wp2_with fail
    refine (C6.out _).mono ?_
    rintro e w7 ⟨rfl, hb7⟩
    have hb7' := hb6'.trans (hb7.mono hb6'.size)
    go_wp2_with fail
    go_ret
    exact ⟨rfl, hb7'⟩
end Go.Proofs.Ytjpphdmpfhdnkaa
