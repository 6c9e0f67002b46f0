/-
  Walks of chapter 5: escaping (program and reference).
-/
import Derived.Test.YtjpphdmpfhdnkaaSpec05
import Derived.Test.YtjpphdmpfhdnkaaMem
import Derived.WalkSpells
import Derived.WalkLawsBesides
set_option linter.unusedVariables false
namespace Go.Proofs.Ytjpphdmpfhdnkaa
open Go.RowKit

theorem ret_S {a b : Bytes} (h : a = b) : Ending.returned (.string (S a)) = .returned (.string (S b)) := by rw [h]

theorem nat_of {n m : Nat} (h : ((n : Int) == (m : Int)) = true) : n = m := by have := eq_of_beq h; omega
theorem nat_ne {n m : Nat} (h : ((n : Int) == (m : Int)) = false) : n ≠ m := by rw [beq_eq_false_iff_ne] at h; omega

set_option maxHeartbeats 1000000 in
theorem replacement_any (a : Bool) (c : UInt8) (w : World) :
    Calls Try.prog 23 #[.int .i64 (if a then 1 else 0), .int .u8 c.toNat] w fun e w' => e = .returned (.string (S (rep a c))) ∧ w = w' := by
  cases a
  all_goals
    go_enter Try.func23, Try.ntmps23
    go_wp2
    all_goals go_ret
    all_goals refine ⟨?_, rfl⟩
    all_goals first
      | exact ret_S (rep_38 (nat_of (m := 38) (by assumption))).symm
      | exact ret_S (rep_60 (nat_of (m := 60) (by assumption))).symm
      | exact ret_S (rep_62 (nat_of (m := 62) (by assumption))).symm
      | exact ret_S (rep_13 (nat_of (m := 13) (by assumption))).symm
      | exact ret_S (rep_34 rfl (nat_of (m := 34) (by assumption))).symm
      | exact ret_S (rep_9 rfl (nat_of (m := 9) (by assumption))).symm
      | exact ret_S (rep_10 rfl (nat_of (m := 10) (by assumption))).symm
      | exact ret_S (rep_no (nat_ne (m := 38) (by assumption)) (nat_ne (m := 60) (by assumption)) (nat_ne (m := 62) (by assumption)) (nat_ne (m := 13) (by assumption)) (fun h => absurd h (by decide))).symm
      | exact ret_S (rep_no (nat_ne (m := 38) (by assumption)) (nat_ne (m := 60) (by assumption)) (nat_ne (m := 62) (by assumption)) (nat_ne (m := 13) (by assumption)) (fun _ => ⟨nat_ne (m := 34) (by assumption), nat_ne (m := 9) (by assumption), nat_ne (m := 10) (by assumption)⟩)).symm

set_option maxHeartbeats 2000000 in
theorem escape_any (a : Bool) (l : Bytes) (w : World) (hl : l.length ≤ 1099511627776) :
    Calls Try.prog 22 #[.int .i64 (if a then 1 else 0), .func (.func 23) #[] #[], .string (S l)] w fun e w' => e = .returned (.string (S (esc a l))) ∧ Below w.heap.size w w' := by
  have hbn := Bld.new w
  generalize hk : (if a then (1 : Int) else 0) = k at *
  have HK := Lib.hid hk
  have HB0 := Lib.hid hbn
  clear hk hbn
  go_enter Try.func22, Try.ntmps22
  go_wp2_with fail
  go_loopw [8, 13] (fun f8 i13 wr => ∃ f i : Nat, f ≤ i ∧ i ≤ l.length ∧ f8 = .int .i64 f ∧ i13 = .int .i64 i ∧ Bld w.heap.size w.heap.size (esc a (l.take f)) wr ∧ esc a (l.take i) = esc a (l.take f) ++ (l.drop f).take (i - f) ∧ Below w.heap.size w wr) (fun _ i13 _ => l.length - (intOf i13).toNat)
  case atStart => exact ⟨0, 0, Nat.le_refl _, Nat.zero_le _, rfl, rfl, by simpa [esc] using HB0.out, by simp, (Below.refl _ _).alloc (Nat.le_refl _) _⟩
  case round =>
    obtain ⟨f, i, hfi, hil, rfl, rfl, hbl, hes, hb⟩ := hrel
    have HBL := Lib.hid hbl
    have HES := Lib.hid hes
    have HB := Lib.hid hb
    have hsz := hb.size
    clear hbl hes hb
    by_cases hlt : i < l.length
    · have hc := fun w => replacement_any a l[i] w
      rw [HK.out] at hc
      have HC := Lib.hid hc
      clear hc
      have hil' : (i : Int) ≤ l.length := by omega
      have hfi' : (f : Int) ≤ i := by omega
      cases hr : rep a l[i] with
      | nil =>
        go_wp2_with (go_at_call 23; refine (HC.out _).mono ?_; rintro e w' ⟨rfl, rfl⟩; rw [hr])
        go_roundw
        case rel =>
          refine ⟨f, i + 1, by omega, by omega, rfl, by go_num, HBL.out, ?_, HB.out⟩
          rw [esc_take hlt, HES.out, escOne_no hr, List.append_assoc]
          congr 1
          rw [show i + 1 - f = (i - f) + 1 by omega, List.take_succ_eq_append_getElem (by simp; omega), List.getElem_drop]
          congr 2
          simp only [show f + (i - f) = i by omega]
        case measure => simp [intOf]; omega
      | cons x xs =>
        have hx : (x :: xs).length ≤ 6 := by rw [← hr]; exact rep_len _ _
        have hl1 : (esc a (l.take f)).length + ((l.drop f).take (i - f)).length ≤ 140737488355328 := by
          have := esc_take_len a l f
          simp only [List.length_take, List.length_drop]; omega
        have hl2 : (esc a (l.take f) ++ (l.drop f).take (i - f)).length + (x :: xs).length ≤ 140737488355328 := by
          have := esc_take_len a l f
          simp only [List.length_append, List.length_take, List.length_drop]; omega
        have hfin : esc a (l.take (i + 1)) = (esc a (l.take f) ++ (l.drop f).take (i - f)) ++ (x :: xs) := by
          rw [esc_take hlt, HES.out, escOne_of hr (by simp)]
        have HF := Lib.hid hfin
        clear hfin
        generalize esc a (l.take f) = A at *
        go_wp2_with (go_at_call 23; refine (HC.out _).mono ?_; rintro e w' ⟨rfl, rfl⟩; rw [hr])
        refine (writeString_any w.heap.size w.heap.size A _ _ HBL.out hl1 hsz).mono ?_
        rintro e w1 ⟨rfl, hb1, hbel1, _⟩
        have HB1 := Lib.hid hb1
        have HE1 := Lib.hid hbel1
        have hs1 := hbel1.size
        clear hb1 hbel1
        go_wp2_with fail
        refine (writeString_any w.heap.size w.heap.size _ (x :: xs) _ HB1.out hl2 (by omega)).mono ?_
        rintro e w2 ⟨rfl, hb2, hbel2, _⟩
        have HB2 := Lib.hid hb2
        have HE2 := Lib.hid hbel2
        clear hb2 hbel2
        go_wp2_with fail
        go_roundw
        case rel =>
          exact ⟨i + 1, i + 1, by omega, by omega, by go_num, by go_num, by rw [HF.out]; exact HB2.out, by simp, HB.out.trans (HE1.out.trans HE2.out)⟩
        case measure => simp [intOf]; omega
    · obtain rfl : i = l.length := by omega
      have hfl : (f : Int) ≤ l.length := by omega
      have hl1 : (esc a (l.take f)).length + (l.drop f).length ≤ 140737488355328 := by
        have := esc_take_len a l f
        simp only [List.length_drop]; omega
      have hfin : esc a l = esc a (l.take f) ++ l.drop f := by
        have := HES.out
        rw [List.take_length] at this
        rw [List.take_of_length_le (l := l.drop f) (by rw [List.length_drop]; omega)] at this
        exact this
      have HF := Lib.hid hfin
      clear hfin
      generalize esc a (l.take f) = A at *
      go_wp2_with fail
      refine (writeString_any w.heap.size w.heap.size A _ _ HBL.out hl1 hsz).mono ?_
      rintro e w1 ⟨rfl, hb1, hbel1, _⟩
      have HB1 := Lib.hid hb1
      have HE1 := Lib.hid hbel1
      have hs1 := hbel1.size
      clear hb1 hbel1
      go_wp2_with fail
      refine (builderString_any w.heap.size w.heap.size _ _ HB1.out (by omega)).mono ?_
      rintro e w2 ⟨rfl, hb2, hbel2, _⟩
      have HE2 := Lib.hid hbel2
      clear hb2 hbel2
      go_wp2_with fail
      go_ret
      exact ⟨ret_S HF.out.symm, HB.out.trans (HE1.out.trans HE2.out)⟩

set_option maxHeartbeats 1000000 in
theorem escText_any (l : Bytes) (w : World) (hl : l.length ≤ 1099511627776) :
    Calls Try.prog 10 #[.string (S l)] w fun e w' => e = .returned (.string (S (esc false l))) ∧ Below w.heap.size w w' := by
  go_enter Try.func10, Try.ntmps10
  go_wp2_with (go_at_call 22; refine (escape_any false l _ hl).mono ?_; rintro e w' ⟨rfl, hb⟩)
  go_ret
  exact ⟨rfl, hb⟩
set_option maxHeartbeats 1000000 in
theorem escAttr_any (l : Bytes) (w : World) (hl : l.length ≤ 1099511627776) :
    Calls Try.prog 12 #[.string (S l)] w fun e w' => e = .returned (.string (S (esc true l))) ∧ Below w.heap.size w w' := by
  go_enter Try.func12, Try.ntmps12
  go_wp2_with (go_at_call 22; refine (escape_any true l _ hl).mono ?_; rintro e w' ⟨rfl, hb⟩)
  go_ret
  exact ⟨rfl, hb⟩

set_option maxHeartbeats 4000000 in
set_option maxRecDepth 100000 in
theorem refEscape_true (l : Bytes) (w : World) (hl : l.length ≤ 1099511627776) :
    Calls Try.prog 11 #[.string (S l), .bool true] w fun e w' => e = .returned (.string (S (esc true l))) ∧ Below w.heap.size w w' := by
  go_enter Try.func11, Try.ntmps11
  go_wp2_with fail
  go_loopw [5, 6] (fun v5 i6 wr => ∃ i : Nat, i ≤ l.length ∧ i6 = .int .i64 i ∧ Own w.heap.size v5 (esc true (l.take i)) wr ∧ Below w.heap.size w wr) (fun _ i6 _ => l.length - (intOf i6).toNat)
  case atStart => exact ⟨0, Nat.zero_le _, rfl, Own.nil _ _, Below.refl _ _⟩
  case round =>
    obtain ⟨i, hil, rfl, hown, hb⟩ := hrel
    have HO := Lib.hid hown
    have HB := Lib.hid hb
    have hsz := hb.size
    clear hown hb
    by_cases hlt : i < l.length
    · have hil' : (i : Int) < l.length := by omega
      have hlen := esc_take_len true l i
      have hst := esc_take (a := true) hlt
      have HST := Lib.hid hst
      clear hst
      generalize esc true (l.take i) = A at *
      go_wp2_with (first
        | (at_builtin; refine own_append_str rfl _ _ rfl w.heap.size _ A _ rfl HO.out rfl (by simp only [List.length_cons, List.length_nil]; omega) hsz ?_; intro v' w' hown' hb')
        | (at_builtin; refine own_append_byte rfl _ _ rfl w.heap.size _ A rfl HO.out rfl (by omega) hsz ?_; intro v' w' hown' hb'))
      all_goals
        go_roundw
        case rel =>
          refine ⟨i + 1, by omega, by go_num, ?_, HB.out.trans (Below.mono (by assumption) (Nat.le_refl _))⟩
          rw [HST.out]
          first
            | (rw [escOne_of (rep_38 (nat_of (m := 38) (by assumption))) (by simp)]; assumption)
            | (rw [escOne_of (rep_60 (nat_of (m := 60) (by assumption))) (by simp)]; assumption)
            | (rw [escOne_of (rep_62 (nat_of (m := 62) (by assumption))) (by simp)]; assumption)
            | (rw [escOne_of (rep_13 (nat_of (m := 13) (by assumption))) (by simp)]; assumption)
            | (rw [escOne_of (rep_34 rfl (nat_of (m := 34) (by assumption))) (by simp)]; assumption)
            | (rw [escOne_of (rep_9 rfl (nat_of (m := 9) (by assumption))) (by simp)]; assumption)
            | (rw [escOne_of (rep_10 rfl (nat_of (m := 10) (by assumption))) (by simp)]; assumption)
            | (rw [escOne_no (rep_no (nat_ne (m := 38) (by assumption)) (nat_ne (m := 60) (by assumption)) (nat_ne (m := 62) (by assumption)) (nat_ne (m := 13) (by assumption)) (fun _ => ⟨nat_ne (m := 34) (by assumption), nat_ne (m := 9) (by assumption), nat_ne (m := 10) (by assumption)⟩))]; assumption)
        case measure => simp [intOf]; omega
    · obtain rfl : i = l.length := by omega
      rw [List.take_length] at HO
      have hcv := own_string HO.out
      go_wp2
      go_ret
      exact ⟨rfl, HB.out⟩

set_option maxHeartbeats 4000000 in
set_option maxRecDepth 100000 in
theorem refEscape_false (l : Bytes) (w : World) (hl : l.length ≤ 1099511627776) :
    Calls Try.prog 11 #[.string (S l), .bool false] w fun e w' => e = .returned (.string (S (esc false l))) ∧ Below w.heap.size w w' := by
  go_enter Try.func11, Try.ntmps11
  go_wp2_with fail
  go_loopw [5, 6] (fun v5 i6 wr => ∃ i : Nat, i ≤ l.length ∧ i6 = .int .i64 i ∧ Own w.heap.size v5 (esc false (l.take i)) wr ∧ Below w.heap.size w wr) (fun _ i6 _ => l.length - (intOf i6).toNat)
  case atStart => exact ⟨0, Nat.zero_le _, rfl, Own.nil _ _, Below.refl _ _⟩
  case round =>
    obtain ⟨i, hil, rfl, hown, hb⟩ := hrel
    have HO := Lib.hid hown
    have HB := Lib.hid hb
    have hsz := hb.size
    clear hown hb
    by_cases hlt : i < l.length
    · have hil' : (i : Int) < l.length := by omega
      have hlen := esc_take_len false l i
      have hst := esc_take (a := false) hlt
      have HST := Lib.hid hst
      clear hst
      generalize esc false (l.take i) = A at *
      go_wp2_with (first
        | (at_builtin; refine own_append_str rfl _ _ rfl w.heap.size _ A _ rfl HO.out rfl (by simp only [List.length_cons, List.length_nil]; omega) hsz ?_; intro v' w' hown' hb')
        | (at_builtin; refine own_append_byte rfl _ _ rfl w.heap.size _ A rfl HO.out rfl (by omega) hsz ?_; intro v' w' hown' hb'))
      all_goals
        go_roundw
        case rel =>
          refine ⟨i + 1, by omega, by go_num, ?_, HB.out.trans (Below.mono (by assumption) (Nat.le_refl _))⟩
          rw [HST.out]
          first
            | (rw [escOne_of (rep_38 (nat_of (m := 38) (by assumption))) (by simp)]; assumption)
            | (rw [escOne_of (rep_60 (nat_of (m := 60) (by assumption))) (by simp)]; assumption)
            | (rw [escOne_of (rep_62 (nat_of (m := 62) (by assumption))) (by simp)]; assumption)
            | (rw [escOne_of (rep_13 (nat_of (m := 13) (by assumption))) (by simp)]; assumption)
            | (rw [escOne_no (rep_no (nat_ne (m := 38) (by assumption)) (nat_ne (m := 60) (by assumption)) (nat_ne (m := 62) (by assumption)) (nat_ne (m := 13) (by assumption)) (fun h => absurd h (by decide)))]; assumption)
        case measure => simp [intOf]; omega
    · obtain rfl : i = l.length := by omega
      rw [List.take_length] at HO
      have hcv := own_string HO.out
      go_wp2
      go_ret
      exact ⟨rfl, HB.out⟩

theorem refEscape_any (a : Bool) (l : Bytes) (w : World) (hl : l.length ≤ 1099511627776) :
    Calls Try.prog 11 #[.string (S l), .bool a] w fun e w' => e = .returned (.string (S (esc a l))) ∧ Below w.heap.size w w' := by
  cases a
  · exact refEscape_false l w hl
  · exact refEscape_true l w hl
end Go.Proofs.Ytjpphdmpfhdnkaa
