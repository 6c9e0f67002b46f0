/-
  Walks of chapter 5's statements: the examples, MatchesReference, References, Unescapes, Concatenation.
-/
import Derived.Test.YtjpphdmpfhdnkaaEsc
import Derived.Test.YtjpphdmpfhdnkaaUn
set_option linter.unusedVariables false
namespace Go.Proofs.Ytjpphdmpfhdnkaa
open Go.RowKit

theorem al1 (w : World) : Calls Try.prog 13 #[.string ⟨#[38, 35, 120, 52, 49, 59]⟩, .int .i64 0] w fun e w' => e = .returned (.tuple #[.int .i32 65, .int .i64 6, .int .i64 0]) ∧ Below w.heap.size w w' := by
  have h := reference_any [38, 35, 120, 52, 49, 59] 0 w (by decide)
  rw [show refAt [38, 35, 120, 52, 49, 59] 0 = (65, 6, 0) from by decide +kernel] at h
  exact h
theorem al2 (w : World) : Calls Try.prog 13 #[.string ⟨#[120, 38, 35, 48, 48, 54, 53, 59, 121]⟩, .int .i64 1] w fun e w' => e = .returned (.tuple #[.int .i32 65, .int .i64 8, .int .i64 0]) ∧ Below w.heap.size w w' := by
  have h := reference_any [120, 38, 35, 48, 48, 54, 53, 59, 121] 1 w (by decide)
  rw [show refAt [120, 38, 35, 48, 48, 54, 53, 59, 121] 1 = (65, 8, 0) from by decide +kernel] at h
  exact h
theorem al3 (w : World) : Calls Try.prog 15 #[.string ⟨#[97, 38, 35, 48, 59]⟩] w fun e w' => e = .returned (.tuple #[.string (S []), .int .i64 1, .int .i64 12]) ∧ Below w.heap.size w w' := by
  have h := unescape_any [97, 38, 35, 48, 59] w (by decide)
  rw [show unT [97, 38, 35, 48, 59] = ([], 1, 12) from by decide +kernel] at h
  exact h
theorem al4 (w : World) : Calls Try.prog 15 #[.string ⟨#[38, 108, 116, 59, 98, 38, 103, 116, 59]⟩] w fun e w' => e = .returned (.tuple #[.string ⟨#[60, 98, 62]⟩, .int .i64 9, .int .i64 0]) ∧ Below w.heap.size w w' := by
  have h := unescape_any [38, 108, 116, 59, 98, 38, 103, 116, 59] w (by decide)
  rw [show unT [38, 108, 116, 59, 98, 38, 103, 116, 59] = ([60, 98, 62], 9, 0) from by decide +kernel] at h
  exact h
theorem al5 (w : World) : Calls Try.prog 10 #[.string ⟨#[97, 60, 98]⟩] w fun e w' => e = .returned (.string ⟨#[97, 38, 108, 116, 59, 98]⟩) ∧ Below w.heap.size w w' := by
  have h := escText_any [97, 60, 98] w (by decide)
  rw [show esc false [97, 60, 98] = [97, 38, 108, 116, 59, 98] from by decide +kernel] at h
  exact h
theorem al6 (w : World) : Calls Try.prog 12 #[.string ⟨#[34, 10]⟩] w fun e w' => e = .returned (.string ⟨#[38, 113, 117, 111, 116, 59, 38, 35, 49, 48, 59]⟩) ∧ Below w.heap.size w w' := by
  have h := escAttr_any [34, 10] w (by decide)
  rw [show esc true [34, 10] = [38, 113, 117, 111, 116, 59, 38, 35, 49, 48, 59] from by decide +kernel] at h
  exact h

set_option maxHeartbeats 1000000 in
set_option maxRecDepth 100000 in
theorem alive5_any (w : World) : Calls Try.prog 9 #[] w fun e w' => e = .returned (.bool true) ∧ Below w.heap.size w w' := by
  go_enter Try.func9, Try.ntmps9
  go_wp2_with fail
  refine (al1 _).mono ?_
  rintro e w1 ⟨rfl, hb1⟩
  go_wp2_with fail
  refine (al2 _).mono ?_
  rintro e w2 ⟨rfl, hb2⟩
  have hb2' := hb1.trans (hb2.mono hb1.size)
  go_wp2_with fail
  refine (al3 _).mono ?_
  rintro e w3 ⟨rfl, hb3⟩
  have hb3' := hb2'.trans (hb3.mono hb2'.size)
  go_wp2_with fail
  refine (al4 _).mono ?_
  rintro e w4 ⟨rfl, hb4⟩
  have hb4' := hb3'.trans (hb4.mono hb3'.size)
  go_wp2_with fail
  refine (al5 _).mono ?_
  rintro e w5 ⟨rfl, hb5⟩
  have hb5' := hb4'.trans (hb5.mono hb4'.size)
  go_wp2_with fail
  refine (al6 _).mono ?_
  rintro e w6 ⟨rfl, hb6⟩
  have hb6' := hb5'.trans (hb6.mono hb5'.size)
  go_wp2_with fail
  go_ret
  exact ⟨rfl, hb6'⟩

set_option maxHeartbeats 1000000 in
theorem law5matches_any (l : Bytes) (w : World) (hl : l.length ≤ 9223372036854775807) : Calls Try.prog 3 #[.string (S l)] w fun e w' => e = .returned (.bool true) ∧ Below w.heap.size w w' := by
  by_cases h : 5000 < l.length
  · have h' : (5000 : Int) < l.length := by omega
    go_enter Try.func3, Try.ntmps3
    go_wp2_with (go_at_call 9; refine (alive5_any _).mono ?_; rintro e w1 ⟨rfl, hb1⟩)
    go_ret
    exact ⟨rfl, hb1⟩
  · have h' : (l.length : Int) ≤ 5000 := by omega
    have c1 := fun w => escText_any l w (by omega)
    have c2 := fun w => escAttr_any l w (by omega)
    have c3 := fun w => refEscape_any false l w (by omega)
    have c4 := fun w => refEscape_any true l w (by omega)
    have C1 := Lib.hid c1
    have C2 := Lib.hid c2
    have C3 := Lib.hid c3
    have C4 := Lib.hid c4
    clear c1 c2 c3 c4
    generalize esc false l = E0 at *
    generalize esc true l = E1 at *
    have e0 : (E0 == E0) = true := by simp
    have e1 : (E1 == E1) = true := by simp
    go_enter Try.func3, Try.ntmps3
    go_wp2_with fail
    refine (alive5_any _).mono ?_
    rintro e w1 ⟨rfl, hb1⟩
    go_wp2_with fail
    refine (C1.out _).mono ?_
    rintro e w2 ⟨rfl, hb2⟩
    have hb2' := hb1.trans (hb2.mono hb1.size)
    go_wp2_with fail
    refine (C3.out _).mono ?_
    rintro e w3 ⟨rfl, hb3⟩
    have hb3' := hb2'.trans (hb3.mono hb2'.size)
    go_wp2_with fail
    refine (C2.out _).mono ?_
    rintro e w4 ⟨rfl, hb4⟩
    have hb4' := hb3'.trans (hb4.mono hb3'.size)
    go_wp2_with fail
    refine (C4.out _).mono ?_
    rintro e w5 ⟨rfl, hb5⟩
    have hb5' := hb4'.trans (hb5.mono hb4'.size)
    go_wp2_with fail
    go_ret
    exact ⟨rfl, hb5'⟩

theorem refAt_range (l : Bytes) (k : Int) (hl : l.length ≤ 5000) : (0 ≤ (refAt l k).1 ∧ (refAt l k).1 ≤ 1114111) ∧ (0 ≤ (refAt l k).2.1 ∧ (refAt l k).2.1 ≤ 5000) ∧ (0 ≤ (refAt l k).2.2 ∧ (refAt l k).2.2 ≤ 12) := by
  unfold refAt
  split
  · rename_i h
    split
    · rename_i r n ht
      have h1 := tailRef_len ht
      have h2 := tailRef_char ht
      rw [isChar_iff] at h2
      rw [List.length_drop] at h1
      dsimp only
      omega
    · decide
  · decide
theorem unT_range (l : Bytes) : 0 ≤ (unT l).2.2 ∧ (unT l).2.2 ≤ 12 := by
  unfold unT
  split <;> (dsimp only; omega)

set_option maxHeartbeats 1000000 in
theorem law5references_any (l : Bytes) (k : Int) (w : World) (hl : l.length ≤ 9223372036854775807) : Calls Try.prog 4 #[.string (S l), .int .i64 k] w fun e w' => e = .returned (.bool true) ∧ Below w.heap.size w w' := by
  by_cases h : 5000 < l.length
  · have h' : (5000 : Int) < l.length := by omega
    go_enter Try.func4, Try.ntmps4
    go_wp2_with (go_at_call 9; refine (alive5_any _).mono ?_; rintro e w1 ⟨rfl, hb1⟩)
    go_ret
    exact ⟨rfl, hb1⟩
  · have h' : (l.length : Int) ≤ 5000 := by omega
    have c1 := fun w => reference_any l k w (by omega)
    have c2 := fun w => refReference_any l k w (by omega)
    have hrange := refAt_range l k (by omega)
    have C1 := Lib.hid c1
    have C2 := Lib.hid c2
    clear c1 c2
    generalize refAt l k = r at *
    obtain ⟨a, b, c⟩ := r
    simp only at hrange
    dsimp only at C1 C2
    have e0 : (a == a) = true := by simp
    have e1 : (b == b) = true := by simp
    have e2 : (c == c) = true := by simp
    go_enter Try.func4, Try.ntmps4
    go_wp2_with fail
    refine (C1.out _).mono ?_
    rintro e w1 ⟨rfl, hb1⟩
    go_wp2_with fail
    refine (C2.out _).mono ?_
    rintro e w2 ⟨rfl, rfl⟩
    go_wp2_with fail
    refine (alive5_any _).mono ?_
    rintro e w3 ⟨rfl, hb3⟩
    go_wp2_with fail
    go_ret
    exact ⟨rfl, hb1.trans (hb3.mono hb1.size)⟩
set_option maxHeartbeats 1000000 in
theorem law5unescapes_any (l : Bytes) (w : World) (hl : l.length ≤ 9223372036854775807) : Calls Try.prog 5 #[.string (S l)] w fun e w' => e = .returned (.bool true) ∧ Below w.heap.size w w' := by
  by_cases h : 5000 < l.length
  · have h' : (5000 : Int) < l.length := by omega
    go_enter Try.func5, Try.ntmps5
    go_wp2_with (go_at_call 9; refine (alive5_any _).mono ?_; rintro e w1 ⟨rfl, hb1⟩)
    go_ret
    exact ⟨rfl, hb1⟩
  · have h' : (l.length : Int) ≤ 5000 := by omega
    have c1 := fun w => unescape_any l w (by omega)
    have c2 := fun w => refUnescape_any l w (by omega)
    have hrange := unT_range l
    have C1 := Lib.hid c1
    have C2 := Lib.hid c2
    clear c1 c2
    generalize unT l = r at *
    obtain ⟨a, b, c⟩ := r
    simp only at hrange
    dsimp only at C1 C2
    have e0 : (a == a) = true := by simp
    have e1 : (b == b) = true := by simp
    have e2 : (c == c) = true := by simp
    go_enter Try.func5, Try.ntmps5
    go_wp2_with fail
    refine (C1.out _).mono ?_
    rintro e w1 ⟨rfl, hb1⟩
    go_wp2_with fail
    refine (C2.out _).mono ?_
    rintro e w2 ⟨rfl, hb2⟩
    have hb2' := hb1.trans (hb2.mono hb1.size)
    go_wp2_with fail
    refine (alive5_any _).mono ?_
    rintro e w3 ⟨rfl, hb3⟩
    go_wp2_with fail
    go_ret
    exact ⟨rfl, hb2'.trans (hb3.mono hb2'.size)⟩
end Go.Proofs.Ytjpphdmpfhdnkaa
