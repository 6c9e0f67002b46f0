/-
  Walks of chapter 1: decoding, encoding, checking (program and reference).
-/
import Derived.Test.YthbfahbjfioghaaGreatDoorText1
import Derived.Test.YthbfahbjfioghaaGreatDoorText2
import Derived.Test.YthbfahbjfioghaaGreatDoorMem
set_option linter.unusedVariables false
namespace Go.Proofs.YthbfahbjfioghaaGreatDoor
open Go.RowKit

theorem below_drew {B : Nat} {w w' : World} (h : Below B w.drew w') : Below B w w' := ⟨h.os, h.tape, h.output, h.size, h.block⟩
theorem ret_str {a b : Bytes} (h : a = b) : Ending.returned (.string (S a)) = .returned (.string (S b)) := by rw [h]
theorem encI_no {r : Int} (h : r < 0 ∨ 1114111 < r ∨ (55296 ≤ r ∧ r ≤ 57343)) : encI r = [] := by
  unfold encI
  by_cases h0 : r < 0
  · rw [if_pos h0]
  · rw [if_neg h0]
    unfold enc okRune
    rw [if_pos (by omega)]
theorem encI_1 {r : Int} (h : 0 ≤ r) (h1 : r < 128) : encI r = [UInt8.ofNat r.toNat] := by
  unfold encI enc okRune
  rw [if_neg (by omega), if_neg (by omega), if_pos (by omega)]
theorem encI_2 {r : Int} (h : 128 ≤ r) (h1 : r < 2048) : encI r = [UInt8.ofNat (192 + r / 64).toNat, UInt8.ofNat (128 + r % 64).toNat] := by
  unfold encI enc okRune
  rw [if_neg (by omega), if_neg (by omega), if_neg (by omega), if_pos (by omega), show (192 + r / 64).toNat = 192 + r.toNat / 64 by omega, show (128 + r % 64).toNat = 128 + r.toNat % 64 by omega]
theorem encI_3 {r : Int} (h : 2048 ≤ r) (h1 : r < 65536) (h2 : r < 55296 ∨ 57343 < r) : encI r = [UInt8.ofNat (224 + r / 4096).toNat, UInt8.ofNat (128 + r / 64 % 64).toNat, UInt8.ofNat (128 + r % 64).toNat] := by
  unfold encI enc okRune
  rw [if_neg (by omega), if_neg (by omega), if_neg (by omega), if_neg (by omega), if_pos (by omega), show (224 + r / 4096).toNat = 224 + r.toNat / 4096 by omega, show (128 + r / 64 % 64).toNat = 128 + r.toNat / 64 % 64 by omega, show (128 + r % 64).toNat = 128 + r.toNat % 64 by omega]
theorem encI_4 {r : Int} (h : 65536 ≤ r) (h1 : r ≤ 1114111) : encI r = [UInt8.ofNat (240 + r / 262144).toNat, UInt8.ofNat (128 + r / 4096 % 64).toNat, UInt8.ofNat (128 + r / 64 % 64).toNat, UInt8.ofNat (128 + r % 64).toNat] := by
  unfold encI enc okRune
  rw [if_neg (by omega), if_neg (by omega), if_neg (by omega), if_neg (by omega), if_neg (by omega), show (240 + r / 262144).toNat = 240 + r.toNat / 262144 by omega, show (128 + r / 4096 % 64).toNat = 128 + r.toNat / 4096 % 64 by omega, show (128 + r / 64 % 64).toNat = 128 + r.toNat / 64 % 64 by omega, show (128 + r % 64).toNat = 128 + r.toNat % 64 by omega]

set_option maxHeartbeats 1000000 in
theorem refEncode_any (r : Int) (w : World) :
    Calls Tryz.prog 84 #[.int .i64 r] w fun e w' => e = .returned (.string (S (encI r))) ∧ Below w.heap.size w w' := by
  by_cases h0 : r < 0 ∨ 1114111 < r ∨ (55296 ≤ r ∧ r ≤ 57343)
  · rw [encI_no h0]
    rcases h0 with h0 | h0 | h0
    all_goals
      go_enter Tryz.func84, Tryz.ntmps84
      go_wp2
      go_ret
      exact ⟨rfl, Below.refl _ _⟩
  · have hs : r < 55296 ∨ 57343 < r := by omega
    by_cases h1 : r < 128
    · rw [encI_1 (by omega) h1]
      have hr : 0 ≤ r := by omega
      have e := fun w => run_new1 w r (by omega)
      clear h0 hs
      go_enter Tryz.func84, Tryz.ntmps84
      go_wp2
      go_ret
      exact ⟨rfl, (Below.refl _ _).alloc (Nat.le_refl _) _⟩
    · by_cases h2 : r < 2048
      · rw [encI_2 (by omega) h2]
        have hr : 128 ≤ r := by omega
        have e := fun w => run_new2 w (192 + r / 64) (128 + r % 64) (by omega) (by omega)
        clear h0 hs h1
        go_enter Tryz.func84, Tryz.ntmps84
        go_wp2
        go_ret
        exact ⟨rfl, (Below.refl _ _).alloc (Nat.le_refl _) _⟩
      · by_cases h3 : r < 65536
        · rw [encI_3 (by omega) h3 hs]
          have hr : 2048 ≤ r := by omega
          have e := fun w => run_new3 w (224 + r / 4096) (128 + r / 64 % 64) (128 + r % 64) (by omega) (by omega) (by omega)
          clear h0 h1 h2
          rcases hs with hs | hs
          all_goals
            go_enter Tryz.func84, Tryz.ntmps84
            go_wp2
            go_ret
            exact ⟨rfl, (Below.refl _ _).alloc (Nat.le_refl _) _⟩
        · have hr : 65536 ≤ r := by omega
          have hr2 : r ≤ 1114111 := by omega
          rw [encI_4 hr hr2]
          have e := fun w => run_new4 w (240 + r / 262144) (128 + r / 4096 % 64) (128 + r / 64 % 64) (128 + r % 64) (by omega) (by omega) (by omega) (by omega)
          clear h0 h1 h2 h3 hs
          go_enter Tryz.func84, Tryz.ntmps84
          go_wp2
          go_ret
          exact ⟨rfl, (Below.refl _ _).alloc (Nat.le_refl _) _⟩

/-- What Decode gives at an offset. -/
def decAt (l : Bytes) (n : Int) : Nat × Nat := if 0 ≤ n ∧ n < l.length then dec (l.drop n.toNat) else (0, 0)
theorem decAt_nat {l : Bytes} {n : Nat} (h : n < l.length) : decAt l n = dec (l.drop n) := by
  unfold decAt
  rw [if_pos (by omega), Int.toNat_natCast]

set_option maxHeartbeats 1000000 in
theorem refDecode_out (l : Bytes) (n : Int) (w : World) (hl : l.length ≤ 4611686018427387904) (h : n < 0 ∨ (l.length : Int) ≤ n) :
    Calls Tryz.prog 48 #[.string (S l), .int .i64 n] w fun e w' => e = .returned (.tuple #[.int .i64 0, .int .i64 0]) ∧ w = w' := by
  rcases h with h | h
  · go_enter Tryz.func48, Tryz.ntmps48
    go_wp2
    go_ret2
    exact ⟨rfl, rfl⟩
  · have h0 : 0 ≤ n := by omega
    go_enter Tryz.func48, Tryz.ntmps48
    go_wp2
    go_ret2
    exact ⟨rfl, rfl⟩

theorem drop_getD (l : Bytes) (n i : Nat) (h : n + i < l.length) : (l.drop n).getD i 0 = l[n + i] := by
  rw [List.getD_eq_getElem?_getD, List.getElem?_drop, List.getElem?_eq_getElem h]
  rfl
theorem drop_getD0 (l : Bytes) (n : Nat) (h : n < l.length) : (l.drop n).getD 0 0 = l[n] := by
  have := drop_getD l n 0 (by omega)
  simpa using this

theorem rp0_is (l : Bytes) (n : Nat) (h : n < l.length) (m : Nat) :
    (m = 1 → ((rp0 (l.drop n) m : Nat) : Int) = l[n].toNat) ∧ (m = 2 → ((rp0 (l.drop n) m : Nat) : Int) = (l[n].toNat : Int) % 32) ∧ (m = 3 → ((rp0 (l.drop n) m : Nat) : Int) = (l[n].toNat : Int) % 16) ∧ (m = 4 → ((rp0 (l.drop n) m : Nat) : Int) = (l[n].toNat : Int) % 8) := by
  have h0 := drop_getD0 l n h
  refine ⟨?_, ?_, ?_, ?_⟩ <;> (rintro rfl; unfold rp0; rw [h0]; simp)
theorem rp_next (l : Bytes) (n i m : Nat) (h1 : 1 ≤ i) (h : n + i < l.length) : ((rp (l.drop n) m (i + 1 - 1) : Nat) : Int) = ((rp (l.drop n) m (i - 1) : Nat) : Int) * 64 + (l[n + i].toNat : Int) % 64 := by
  have hx := drop_getD l n i h
  obtain ⟨k, rfl⟩ : ∃ k, i = k + 1 := ⟨i - 1, by omega⟩
  simp only [Nat.add_sub_cancel, rp]
  rw [hx]
  omega
set_option maxHeartbeats 4000000 in
theorem refDecode_in (l : Bytes) (n : Nat) (w : World) (hl : l.length ≤ 4611686018427387904) (h : n < l.length) :
    Calls Tryz.prog 48 #[.string (S l), .int .i64 n] w fun e w' => e = .returned (.tuple #[.int .i64 (dec (l.drop n)).1, .int .i64 (dec (l.drop n)).2]) ∧ Below w.heap.size w w' := by
  have hL : (l.drop n).length = l.length - n := List.length_drop
  have h0 := drop_getD0 l n h
  have HL := Lib.hid hL
  have H0 := Lib.hid h0
  clear hL h0
  have d1 : decide ((n : Int) < 0) = false := by simp
  have d2 : decide (l.length ≤ n) = false := by simp; omega
  have hb0 := u8_lt l[n]
  go_enter Tryz.func48, Tryz.ntmps48
  go_wp2
  go_loopw [6, 7, 8] (fun n6 _ _ wr => ∃ m : Nat, 1 ≤ m ∧ m ≤ 5 ∧ n6 = .int .i64 m ∧ (∀ j, 1 ≤ j → j < m → j ≤ (l.drop n).length → enc (rv (l.drop n) j) ≠ (l.drop n).take j) ∧ Below w.heap.size w wr) (fun n6 _ _ _ => 5 - (intOf n6).toNat)
  case atStart => exact ⟨1, by omega, by omega, rfl, by omega, Below.refl _ _⟩
  case round =>
    obtain ⟨m, hm1, hm5, rfl, hj, hb⟩ := hrel
    have HJ := Lib.hid hj
    have HB := Lib.hid hb
    have hsz := hb.size
    clear hj hb
    by_cases hm : m ≤ 4
    · by_cases hml : m ≤ l.length - n
      · have hm' : m = 1 ∨ m = 2 ∨ m = 3 ∨ m = 4 := by omega
        have hmi : (m : Int) ≤ (l.length : Int) - n := by omega
        have hr : ∀ i, i ≤ 3 → rp (l.drop n) m i < 67108864 := fun i hi => rp_le _ _ _ hi
        have HR := Lib.hid hr
        clear hr
        have hr0 := rp0_is l n h m
        have HR0 := Lib.hid hr0
        clear hr0
        have t2 : ((m : Int) == 2) = decide (m = 2) := by rw [Bool.eq_iff_iff]; simp; omega
        have t3 : ((m : Int) == 3) = decide (m = 3) := by rw [Bool.eq_iff_iff]; simp; omega
        have t4 : ((m : Int) == 4) = decide (m = 4) := by rw [Bool.eq_iff_iff]; simp; omega
        have T : (m = 1 ∧ ((m : Int) == 2) = false ∧ ((m : Int) == 3) = false ∧ ((m : Int) == 4) = false) ∨ (m = 2 ∧ ((m : Int) == 2) = true ∧ ((m : Int) == 3) = false ∧ ((m : Int) == 4) = false) ∨
            (m = 3 ∧ ((m : Int) == 2) = false ∧ ((m : Int) == 3) = true ∧ ((m : Int) == 4) = false) ∨ (m = 4 ∧ ((m : Int) == 2) = false ∧ ((m : Int) == 3) = false ∧ ((m : Int) == 4) = true) := by
          rcases hm' with e | e | e | e <;> (rw [t2, t3, t4, e]; decide)
        clear t2 t3 t4 hm'
        rcases T with ⟨e, t2, t3, t4⟩ | ⟨e, t2, t3, t4⟩ | ⟨e, t2, t3, t4⟩ | ⟨e, t2, t3, t4⟩
        all_goals
          have E := Lib.hid e
          clear e
          go_wp2
          go_loopw [7, 8] (fun r7 i8 wx => ∃ i : Nat, 1 ≤ i ∧ i ≤ m ∧ i8 = .int .i64 i ∧ r7 = .int .i64 (rp (l.drop n) m (i - 1) : Nat) ∧ wr = wx) (fun _ i8 _ => m - (intOf i8).toNat)
          case atStart => exact ⟨1, by omega, by omega, rfl, val_int (by first | exact (HR0.out.1 E.out).symm | exact (HR0.out.2.1 E.out).symm | exact (HR0.out.2.2.1 E.out).symm | exact (HR0.out.2.2.2 E.out).symm), rfl⟩
          case round =>
            obtain ⟨i, hi1, him, rfl, rfl, rfl⟩ := hrel
            have hri := HR.out (i - 1) (by omega)
            by_cases hlt : i < m
            · have hni : (n : Int) + i < l.length := by omega
              have hstep := rp_next l n i m hi1 (by omega)
              have HS := Lib.hid hstep
              clear hstep
              generalize rp (l.drop n) m (i - 1) = q at *
              go_wp2
              go_roundw
              case rel => exact ⟨i + 1, by omega, by omega, by go_num, val_int HS.out.symm, by first | rfl | trivial⟩
              case measure => simp [intOf]; omega
            · obtain rfl : i = m := by omega
              have hq : rp (l.drop n) i (i - 1) = rv (l.drop n) i := rfl
              rw [hq] at *
              generalize hv : rv (l.drop n) i = v at *
              have HV := Lib.hid hv
              clear hq hv
              have hen := encI_nat v
              have s2 : (0 : Int) ≤ (n : Int) + i := by omega
              have s3 : ((n : Int) + i).toNat = n + i := by omega
              have s4 : (n : Int) ≤ (n : Int) + i := by omega
              have s5 : (n : Int) + i ≤ (l.length : Int) := by omega
              have s1 : IntKind.i64.wrap ((n : Int) + i) = (n : Int) + i := IntWalk.i64_in _ (by omega)
              go_wp2
              go_region_with (go_at_call 84; refine (refEncode_any _ _).mono ?_; rintro e w' ⟨rfl, hbe⟩)
              clear s1
              have hlen : i ≤ (l.drop n).length := by rw [HL.out]; exact hml
              have HN := Lib.hid hlen
              clear hlen
              go_wp2
              · rename_i hq
                have hhit := ref_hit hm1 HN.out (by rw [HV.out]; exact eq_of_beq hq)
                rw [HV.out] at hhit
                go_ret2
                exact ⟨by rw [hhit]; rfl, HB.out.trans ((below_drew hbe).mono hsz)⟩
              · rename_i hq
                have hqn : enc v ≠ (l.drop n).take i := fun e => by rw [e, beq_self_eq_true] at hq; exact absurd hq (by decide)
                go_roundw
                case rel =>
                  refine ⟨i + 1, by omega, by omega, by go_num, fun j h1 h2 h3 => ?_, HB.out.trans ((below_drew hbe).mono hsz)⟩
                  by_cases hji : j = i
                  · subst hji; rw [HV.out]; exact hqn
                  · exact HJ.out j h1 (by omega) h3
                case measure => simp [intOf]; omega
      · have hmi : (l.length : Int) - n < m := by omega
        have hz : dec (l.drop n) = (0, 0) := ref_miss fun j h1 h2 h3 => HJ.out j h1 (by rw [HL.out] at h3; omega) h3
        have HZ := Lib.hid hz
        clear hz
        go_wp2
        go_ret2
        exact ⟨by rw [HZ.out]; rfl, HB.out⟩
    · have hz : dec (l.drop n) = (0, 0) := ref_miss fun j h1 h2 h3 => HJ.out j h1 (by omega) h3
      have HZ := Lib.hid hz
      clear hz
      go_wp2
      go_ret2
      exact ⟨by rw [HZ.out]; rfl, HB.out⟩
end Go.Proofs.YthbfahbjfioghaaGreatDoor
