/-
  Walks of chapter 5: escaping (program and reference).
-/
import Derived.Test.YthbfahbjfioghaaGreatDoorSpec05
import Derived.Test.YthbfahbjfioghaaGreatDoorMem
import Derived.WalkSpells
import Derived.WalkLawsBesides
set_option linter.unusedVariables false
namespace Go.Proofs.YthbfahbjfioghaaGreatDoor
open Go.RowKit

theorem ret_S {a b : Bytes} (h : a = b) : Ending.returned (.string (S a)) = .returned (.string (S b)) := by rw [h]

theorem nat_of {n m : Nat} (h : ((n : Int) == (m : Int)) = true) : n = m := by have := eq_of_beq h; omega
theorem nat_ne {n m : Nat} (h : ((n : Int) == (m : Int)) = false) : n ≠ m := by rw [beq_eq_false_iff_ne] at h; omega

set_option maxHeartbeats 4000000 in
set_option maxRecDepth 100000 in
theorem refEscape_true (l : Bytes) (w : World) (hl : l.length ≤ 1099511627776) :
    Calls Tryz.prog 22 #[.string (S l), .bool true] w fun e w' => e = .returned (.string (S (esc true l))) ∧ Below w.heap.size w w' := by
  go_enter Tryz.func22, Tryz.ntmps22
  go_wp2_with fail
  go_loopw [5, 6] (fun v5 i6 wr => ∃ i : Nat, i ≤ l.length ∧ i6 = .int .i64 i ∧ Own w.heap.size v5 (esc true (l.take i)) wr ∧ Below w.heap.size w wr) (fun _ i6 _ => l.length - (intOf i6).toNat)
  case atStart => exact ⟨0, Nat.zero_le _, rfl, Own.nil _ _, Below.refl _ _⟩
  case round =>
    obtain ⟨i, hil, rfl, hown, hb⟩ := hrel
    have HO := Lib.hid hown
    have HB := Lib.hid hb
    have hsz := hb.size
    clear hown hb
    by_cases hlt : i < l.length
    · have hil' : (i : Int) < l.length := by omega
      have hlen := esc_take_len true l i
      have hst := esc_take (a := true) hlt
      have HST := Lib.hid hst
      clear hst
      generalize esc true (l.take i) = A at *
      go_wp2_with (first
        | (at_builtin; refine own_append_str rfl _ _ rfl w.heap.size _ A _ rfl HO.out rfl (by simp only [List.length_cons, List.length_nil]; omega) hsz ?_; intro v' w' hown' hb')
        | (at_builtin; refine own_append_byte rfl _ _ rfl w.heap.size _ A rfl HO.out rfl (by omega) hsz ?_; intro v' w' hown' hb'))
      all_goals
        go_roundw
        case rel =>
          refine ⟨i + 1, by omega, by go_num, ?_, HB.out.trans (Below.mono (by assumption) (Nat.le_refl _))⟩
          rw [HST.out]
          first
            | (rw [escOne_of (rep_38 (nat_of (m := 38) (by assumption))) (by simp)]; assumption)
            | (rw [escOne_of (rep_60 (nat_of (m := 60) (by assumption))) (by simp)]; assumption)
            | (rw [escOne_of (rep_62 (nat_of (m := 62) (by assumption))) (by simp)]; assumption)
            | (rw [escOne_of (rep_13 (nat_of (m := 13) (by assumption))) (by simp)]; assumption)
            | (rw [escOne_of (rep_34 rfl (nat_of (m := 34) (by assumption))) (by simp)]; assumption)
            | (rw [escOne_of (rep_9 rfl (nat_of (m := 9) (by assumption))) (by simp)]; assumption)
            | (rw [escOne_of (rep_10 rfl (nat_of (m := 10) (by assumption))) (by simp)]; assumption)
            | (rw [escOne_no (rep_no (nat_ne (m := 38) (by assumption)) (nat_ne (m := 60) (by assumption)) (nat_ne (m := 62) (by assumption)) (nat_ne (m := 13) (by assumption)) (fun _ => ⟨nat_ne (m := 34) (by assumption), nat_ne (m := 9) (by assumption), nat_ne (m := 10) (by assumption)⟩))]; assumption)
        case measure => simp [intOf]; omega
    · obtain rfl : i = l.length := by omega
      rw [List.take_length] at HO
      have hcv := own_string HO.out
      go_wp2
      go_ret
      exact ⟨rfl, HB.out⟩

set_option maxHeartbeats 4000000 in
set_option maxRecDepth 100000 in
theorem refEscape_false (l : Bytes) (w : World) (hl : l.length ≤ 1099511627776) :
    Calls Tryz.prog 22 #[.string (S l), .bool false] w fun e w' => e = .returned (.string (S (esc false l))) ∧ Below w.heap.size w w' := by
  go_enter Tryz.func22, Tryz.ntmps22
  go_wp2_with fail
  go_loopw [5, 6] (fun v5 i6 wr => ∃ i : Nat, i ≤ l.length ∧ i6 = .int .i64 i ∧ Own w.heap.size v5 (esc false (l.take i)) wr ∧ Below w.heap.size w wr) (fun _ i6 _ => l.length - (intOf i6).toNat)
  case atStart => exact ⟨0, Nat.zero_le _, rfl, Own.nil _ _, Below.refl _ _⟩
  case round =>
    obtain ⟨i, hil, rfl, hown, hb⟩ := hrel
    have HO := Lib.hid hown
    have HB := Lib.hid hb
    have hsz := hb.size
    clear hown hb
    by_cases hlt : i < l.length
    · have hil' : (i : Int) < l.length := by omega
      have hlen := esc_take_len false l i
      have hst := esc_take (a := false) hlt
      have HST := Lib.hid hst
      clear hst
      generalize esc false (l.take i) = A at *
      go_wp2_with (first
        | (at_builtin; refine own_append_str rfl _ _ rfl w.heap.size _ A _ rfl HO.out rfl (by simp only [List.length_cons, List.length_nil]; omega) hsz ?_; intro v' w' hown' hb')
        | (at_builtin; refine own_append_byte rfl _ _ rfl w.heap.size _ A rfl HO.out rfl (by omega) hsz ?_; intro v' w' hown' hb'))
      all_goals
        go_roundw
        case rel =>
          refine ⟨i + 1, by omega, by go_num, ?_, HB.out.trans (Below.mono (by assumption) (Nat.le_refl _))⟩
          rw [HST.out]
          first
            | (rw [escOne_of (rep_38 (nat_of (m := 38) (by assumption))) (by simp)]; assumption)
            | (rw [escOne_of (rep_60 (nat_of (m := 60) (by assumption))) (by simp)]; assumption)
            | (rw [escOne_of (rep_62 (nat_of (m := 62) (by assumption))) (by simp)]; assumption)
            | (rw [escOne_of (rep_13 (nat_of (m := 13) (by assumption))) (by simp)]; assumption)
            | (rw [escOne_no (rep_no (nat_ne (m := 38) (by assumption)) (nat_ne (m := 60) (by assumption)) (nat_ne (m := 62) (by assumption)) (nat_ne (m := 13) (by assumption)) (fun h => absurd h (by decide)))]; assumption)
        case measure => simp [intOf]; omega
    · obtain rfl : i = l.length := by omega
      rw [List.take_length] at HO
      have hcv := own_string HO.out
      go_wp2
      go_ret
      exact ⟨rfl, HB.out⟩

theorem refEscape_any (a : Bool) (l : Bytes) (w : World) (hl : l.length ≤ 1099511627776) :
    Calls Tryz.prog 22 #[.string (S l), .bool a] w fun e w' => e = .returned (.string (S (esc a l))) ∧ Below w.heap.size w w' := by
  cases a
  · exact refEscape_false l w hl
  · exact refEscape_true l w hl
end Go.Proofs.YthbfahbjfioghaaGreatDoor
