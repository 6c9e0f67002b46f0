/-
  Walks of chapter 6: the reference's small functions: Has, find, Lines, spaces, name, missing.
-/
import Derived.Test.YthbfahbjfioghaaGreatDoorTok2
import Derived.Test.YthbfahbjfioghaaGreatDoorName2
import Derived.Test.YthbfahbjfioghaaGreatDoorEsc
set_option linter.unusedVariables false
namespace Go.Proofs.YthbfahbjfioghaaGreatDoor
open Go.RowKit

theorem S_beq6 (a b : Bytes) : (S a == S b) = (a == b) := by
  have h : (S a == S b) = (a.toArray == b.toArray) := rfl
  rw [h, List.beq_toArray]

set_option maxHeartbeats 1000000 in
theorem refHas_any (l : Bytes) (n : Nat) (t : Bytes) (w : World) (hl : l.length ≤ 4611686018427387904) (hn : n ≤ 4611686018427387904) (ht : t.length ≤ 1000000) (ht0 : t ≠ []) :
    Calls Tryz.prog 43 #[.string (S l), .int .i64 n, .string (S t)] w fun e w' => e = .returned (.bool (hasAt l n t)) ∧ w = w' := by
  have e := hasAt_take (l := l) (n := n) (t := t)
  have hpos := List.length_pos_iff.2 ht0
  clear ht0
  obtain ⟨b, hb⟩ : ∃ b, hasAt l n t = b := ⟨_, rfl⟩
  rw [hb] at e ⊢
  by_cases h : n + t.length ≤ l.length
  · have h1 : decide ((t.length : Int) ≤ (l.length : Int) - n) = true := by simp; omega
    have h2 : (n : Int) + t.length ≤ l.length := by omega
    have E := Lib.hid e
    clear hb e
    go_enter Tryz.func43, Tryz.ntmps43
    go_wp2
    all_goals go_ret
    all_goals exact ⟨ret_bool (by rw [E.out] <;> simp [S_beq6]), rfl⟩
  · have h1 : decide ((t.length : Int) ≤ (l.length : Int) - n) = false := by simp; omega
    have h2 : ¬ (n : Int) + t.length ≤ l.length := by omega
    have e2 : b = false := by
      rw [e, beq_eq_false_iff_ne]
      intro e3
      have := congrArg List.length e3
      rw [List.length_take, List.length_drop] at this
      omega
    have E := Lib.hid e2
    clear hb e e2
    go_enter Tryz.func43, Tryz.ntmps43
    go_wp2
    all_goals go_ret
    all_goals exact ⟨ret_bool E.out.symm, rfl⟩

set_option maxHeartbeats 1000000 in
theorem refFind_any (l : Bytes) (n : Nat) (t : Bytes) (w : World) (hl : l.length ≤ 4611686018427387904) (hn : n ≤ l.length) (ht : t.length ≤ 1000000) (ht0 : t ≠ []) :
    Calls Tryz.prog 81 #[.string (S l), .int .i64 n, .string (S t)] w fun e w' => e = .returned (.int .i64 (optI ((findS t (l.drop n)).map (· + n)))) ∧ w = w' := by
  obtain ⟨R, hR⟩ : ∃ R, (findS t (l.drop n)).map (· + n) = R := ⟨_, rfl⟩
  rw [hR]
  have HR := Lib.hid hR
  have HT := Lib.hid ht0
  clear hR ht0
  go_enter Tryz.func81, Tryz.ntmps81
  go_wp2
  go_loop [7] (fun i7 => ∃ i : Nat, n ≤ i ∧ i ≤ l.length + 1 ∧ i7 = .int .i64 i ∧ (findS t (l.drop i)).map (· + i) = R) (fun i7 => l.length + 1 - (intOf i7).toNat)
  case atStart => exact ⟨n, Nat.le_refl _, by omega, rfl, HR.out⟩
  case round =>
    obtain ⟨i, hni, hil, rfl, hi⟩ := hrel
    by_cases hlt : i + t.length ≤ l.length
    · have hlt' : (i : Int) ≤ (l.length : Int) - t.length := by omega
      have hpos := List.length_pos_iff.2 HT.out
      have hcall := fun w => refHas_any l i t w hl (by omega) ht HT.out
      cases hb : hasAt l i t
      · have hs := find_step (i := i) (by omega) hb
        rw [hi] at hs
        rw [hb] at hcall
        have HS := Lib.hid hs
        have HC := Lib.hid hcall
        clear hs hi hb hcall hpos
        go_wp2_with (go_at_call 43; refine (HC.out _).mono ?_; rintro e w' ⟨rfl, rfl⟩)
        go_round
        case rel => exact ⟨i + 1, by omega, by omega, by go_num, HS.out.symm⟩
        case measure => simp [intOf]; omega
      · have hs := find_here hb
        rw [hi] at hs
        rw [hb] at hcall
        have HS := Lib.hid hs
        have HC := Lib.hid hcall
        clear hs hi hb hcall hpos
        go_wp2_with (go_at_call 43; refine (HC.out _).mono ?_; rintro e w' ⟨rfl, rfl⟩)
        go_ret
        exact ⟨ret_int (by rw [HS.out]; rfl), rfl⟩
    · have hlt' : ¬ (i : Int) ≤ (l.length : Int) - t.length := by omega
      have hs := find_end (l := l) (i := i) (by omega) HT.out
      rw [hi] at hs
      have HS := Lib.hid hs
      clear hs hi
      go_wp2
      go_ret
      exact ⟨ret_int (by rw [HS.out]; rfl), rfl⟩

theorem refIsSpace_is (c : UInt8) (w : World) : Calls Tryz.prog 88 #[.int .u8 c.toNat] w fun e w' => e = .returned (.bool (isSp c)) ∧ w = w' := by
  have hc := u8_lt c
  go_enter Tryz.func88, Tryz.ntmps88
  go_wp2
  all_goals go_ret
  all_goals exact ⟨ret_bool (by unfold isSp; rw [Bool.eq_iff_iff]; simp <;> omega), rfl⟩

set_option maxHeartbeats 1000000 in
theorem refSpaces_any (l : Bytes) (n : Nat) (w : World) (hl : l.length ≤ 4611686018427387904) (hn : n ≤ l.length) :
    Calls Tryz.prog 109 #[.string (S l), .int .i64 n] w fun e w' => e = .returned (.int .i64 (spEnd l n)) ∧ w = w' := by
  obtain ⟨R, hR⟩ : ∃ R, spEnd l n = R := ⟨_, rfl⟩
  rw [hR]
  have HR := Lib.hid hR
  clear hR
  go_enter Tryz.func109, Tryz.ntmps109
  go_wp2
  go_loop [1] (fun i1 => ∃ i : Nat, i ≤ l.length ∧ i1 = .int .i64 i ∧ spEnd l i = R) (fun i1 => l.length - (intOf i1).toNat)
  case atStart => exact ⟨n, hn, rfl, HR.out⟩
  case round =>
    obtain ⟨i, hil, rfl, hi⟩ := hrel
    by_cases hlt : i < l.length
    · have hcall := fun w => refIsSpace_is l[i] w
      cases hb : isSp l[i]
      · have hs := spEnd_no hlt hb
        rw [hi] at hs
        rw [hb] at hcall
        have HS := Lib.hid hs
        have HC := Lib.hid hcall
        clear hs hi hb hcall
        go_wp2_with (go_at_call 88; refine (HC.out _).mono ?_; rintro e w' ⟨rfl, rfl⟩)
        go_ret
        exact ⟨ret_int (by rw [HS.out]), rfl⟩
      · have hs := spEnd_yes hlt hb
        rw [hi] at hs
        rw [hb] at hcall
        have HS := Lib.hid hs
        have HC := Lib.hid hcall
        clear hs hi hb hcall
        go_wp2_with (go_at_call 88; refine (HC.out _).mono ?_; rintro e w' ⟨rfl, rfl⟩)
        go_round
        case rel => exact ⟨i + 1, by omega, by go_num, HS.out.symm⟩
        case measure => simp [intOf]; omega
    · obtain rfl : i = l.length := by omega
      rw [spEnd_end] at hi
      have HS := Lib.hid hi
      clear hi
      go_wp2
      go_ret
      exact ⟨ret_int (by rw [← HS.out]), rfl⟩

set_option maxHeartbeats 1000000 in
theorem refMissing_any (l : Bytes) (a n : Nat) (w : World) (hl : l.length ≤ 4611686018427387904) :
    Calls Tryz.prog 110 #[.string (S l), .int .i64 a, .int .i64 n] w fun e w' => e = .returned (.tuple #[.int .i64 (missing l a n).1, .int .i64 (missing l a n).2]) ∧ w = w' := by
  by_cases h : l.length ≤ n
  · have h' : (l.length : Int) ≤ n := by omega
    unfold missing
    rw [if_pos h]
    go_enter Tryz.func110, Tryz.ntmps110
    go_wp2
    go_ret2
    exact ⟨rfl, rfl⟩
  · have h' : ¬ (l.length : Int) ≤ n := by omega
    unfold missing
    rw [if_neg h]
    go_enter Tryz.func110, Tryz.ntmps110
    go_wp2
    go_ret2
    exact ⟨rfl, rfl⟩

set_option maxHeartbeats 2000000 in
theorem refName_any (l : Bytes) (n : Nat) (w : World) (hl : l.length ≤ 4611686018427387904) (hn : n ≤ l.length) :
    Calls Tryz.prog 108 #[.string (S l), .int .i64 n] w fun e w' => e = .returned (.int .i64 ((n : Int) + nameLen (l.drop n))) ∧ Below w.heap.size w w' := by
  obtain ⟨R, hR⟩ : ∃ R, nameLen (l.drop n) = R := ⟨_, rfl⟩
  rw [hR]
  have HR := Lib.hid hR
  have hdl : (l.drop n).length = l.length - n := List.length_drop
  have HD := Lib.hid hdl
  clear hR hdl
  go_enter Tryz.func108, Tryz.ntmps108
  go_wp2
  go_loopw [5] (fun i5 wr => ∃ m : Nat, n + m ≤ l.length ∧ i5 = .int .i64 ((n : Int) + m) ∧ NmAt (l.drop n) m ∧ Below w.heap.size w wr) (fun i5 _ => l.length - (intOf i5).toNat)
  case atStart => exact ⟨0, by omega, by simp, NmAt.zero _, Below.refl _ _⟩
  case round =>
    obtain ⟨m, hm, rfl, hat, hb⟩ := hrel
    have HAT := Lib.hid hat
    have HB := Lib.hid hb
    have hsz := hb.size
    clear hat hb
    by_cases hlt : n + m < l.length
    · have hlt' : (n : Int) + m < l.length := by omega
      have hle := dec_le (l.drop (n + m))
      have hd := fun w => refDecode_in l (n + m) w hl hlt
      rw [Int.natCast_add] at hd
      generalize hg : dec (l.drop (n + m)) = d at *
      obtain ⟨r, k⟩ := d
      dsimp only at hle hd
      have hle1 : n + m + k ≤ l.length := by have := hle.1; simp at this; omega
      have hg2 : dec ((l.drop n).drop m) = (r, k) := by rw [List.drop_drop]; exact hg
      have HD1 := Lib.hid hd
      clear hle hg hd
      by_cases hk : k = 0
      · have hst := HAT.out.stop hg2 (.inl hk)
        rw [HR.out] at hst
        have HS := Lib.hid hst
        have t0 : ((k : Int) == 0) = true := by rw [hk]; rfl
        clear hst hg2 hk
        go_wp2_with (go_at_call 48; refine (HD1.out _).mono ?_; rintro e w' ⟨rfl, hb⟩)
        go_ret
        exact ⟨ret_int (by rw [HS.out]), HB.out.trans (hb.mono hsz)⟩
      · have t0 : ((k : Int) == 0) = false := by rw [beq_eq_false_iff_ne]; omega
        obtain ⟨hq1, hq2⟩ := HAT.out.next hg2 hk (by rw [HD.out]; omega)
        have hcall := fun w => refIsQName_any ((l.drop n).take (m + k)) w (by rw [List.length_take, HD.out]; omega)
        rw [hq1] at hcall
        have e1 : (n : Int) + m + k ≤ l.length := by omega
        have e2 : (n : Int) ≤ (n : Int) + m + k := by omega
        have e3 : ((n : Int) + m + k).toNat - n = m + k := by omega
        cases hq : qch (decide (m = 0)) r
        · have hst := HAT.out.stop hg2 (.inr hq)
          rw [HR.out] at hst
          have HS := Lib.hid hst
          rw [hq] at hcall
          have HC := Lib.hid hcall
          clear hst hg2 hk hcall hq hq1 hq2
          go_wp2_with (first
            | (go_at_call 48; refine (HD1.out _).mono ?_; rintro e w' ⟨rfl, hb⟩)
            | (go_at_call 127; refine (HC.out _).mono ?_; rintro e w2 ⟨rfl, hb2⟩))
          go_ret
          exact ⟨ret_int (by rw [HS.out]), HB.out.trans ((hb.trans (hb2.mono hb.size)).mono hsz)⟩
        · have hnx := hq2 hq
          have HN := Lib.hid hnx
          rw [hq] at hcall
          have HC := Lib.hid hcall
          clear hnx hg2 hcall hq hq1 hq2
          go_wp2_with (first
            | (go_at_call 48; refine (HD1.out _).mono ?_; rintro e w' ⟨rfl, hb⟩)
            | (go_at_call 127; refine (HC.out _).mono ?_; rintro e w2 ⟨rfl, hb2⟩))
          go_roundw
          case rel => exact ⟨m + k, by omega, by go_num, HN.out, HB.out.trans ((hb.trans (hb2.mono hb.size)).mono hsz)⟩
          case measure => simp [intOf]; omega
    · obtain rfl : m = l.length - n := by omega
      have hlt' : ¬ (n : Int) + (l.length - n : Nat) < l.length := by omega
      have hst : nameLen (l.drop n) = l.length - n := by
        have h1 := HAT.out
        have h2 : l.length - n = (l.drop n).length := HD.out.symm
        rw [h2] at h1 ⊢
        exact h1.end_
      rw [HR.out] at hst
      have HS := Lib.hid hst
      clear hst
      go_wp2
      go_ret
      exact ⟨ret_int (by rw [HS.out]), HB.out⟩
end Go.Proofs.YthbfahbjfioghaaGreatDoor
