/-
  Several texts in one file, in build order:
  - Walks of chapter 1: decoding, encoding, checking (program and reference).
  - Walks of chapter 1: the program's decoder, and both checks.
  - A position in a document (the struct cursor) behind a pointer.
  - Plain functions of chapter 6 (xmltoken): the longest name at the head of a list of bytes. No program.
-/
import Derived.Test.YtclhdppppgjgfaaGreatDoorH1
import Derived.Test.YtclhdppppgjgfaaGreatDoorH0
set_option linter.unusedVariables false
namespace Go.Proofs.YtclhdppppgjgfaaGreatDoor
open Go.RowKit

theorem below_drew {B : Nat} {w w' : World} (h : Below B w.drew w') : Below B w w' := ⟨h.os, h.tape, h.output, h.size, h.block⟩
theorem encI_no {r : Int} (h : r < 0 ∨ 1114111 < r ∨ (55296 ≤ r ∧ r ≤ 57343)) : encI r = [] := by
  unfold encI
  by_cases h0 : r < 0
  · rw [if_pos h0]
  · rw [if_neg h0]
    unfold enc okRune
    rw [if_pos (by omega)]
theorem encI_1 {r : Int} (h : 0 ≤ r) (h1 : r < 128) : encI r = [UInt8.ofNat r.toNat] := by
  unfold encI enc okRune
  rw [if_neg (by omega), if_neg (by omega), if_pos (by omega)]
theorem encI_2 {r : Int} (h : 128 ≤ r) (h1 : r < 2048) : encI r = [UInt8.ofNat (192 + r / 64).toNat, UInt8.ofNat (128 + r % 64).toNat] := by
  unfold encI enc okRune
  rw [if_neg (by omega), if_neg (by omega), if_neg (by omega), if_pos (by omega), show (192 + r / 64).toNat = 192 + r.toNat / 64 by omega, show (128 + r % 64).toNat = 128 + r.toNat % 64 by omega]
theorem encI_3 {r : Int} (h : 2048 ≤ r) (h1 : r < 65536) (h2 : r < 55296 ∨ 57343 < r) : encI r = [UInt8.ofNat (224 + r / 4096).toNat, UInt8.ofNat (128 + r / 64 % 64).toNat, UInt8.ofNat (128 + r % 64).toNat] := by
  unfold encI enc okRune
  rw [if_neg (by omega), if_neg (by omega), if_neg (by omega), if_neg (by omega), if_pos (by omega), show (224 + r / 4096).toNat = 224 + r.toNat / 4096 by omega, show (128 + r / 64 % 64).toNat = 128 + r.toNat / 64 % 64 by omega, show (128 + r % 64).toNat = 128 + r.toNat % 64 by omega]
theorem encI_4 {r : Int} (h : 65536 ≤ r) (h1 : r ≤ 1114111) : encI r = [UInt8.ofNat (240 + r / 262144).toNat, UInt8.ofNat (128 + r / 4096 % 64).toNat, UInt8.ofNat (128 + r / 64 % 64).toNat, UInt8.ofNat (128 + r % 64).toNat] := by
  unfold encI enc okRune
  rw [if_neg (by omega), if_neg (by omega), if_neg (by omega), if_neg (by omega), if_neg (by omega), show (240 + r / 262144).toNat = 240 + r.toNat / 262144 by omega, show (128 + r / 4096 % 64).toNat = 128 + r.toNat / 4096 % 64 by omega, show (128 + r / 64 % 64).toNat = 128 + r.toNat / 64 % 64 by omega, show (128 + r % 64).toNat = 128 + r.toNat % 64 by omega]

set_option maxHeartbeats 1000000 in
theorem refEncode_any (r : Int) (w : World) :
    Calls Tryz.prog 117 #[.int .i64 r] w fun e w' => e = .returned (.string (S (encI r))) ∧ Below w.heap.size w w' := by
  by_cases h0 : r < 0 ∨ 1114111 < r ∨ (55296 ≤ r ∧ r ≤ 57343)
  · rw [encI_no h0]
    rcases h0 with h0 | h0 | h0
    all_goals
      go_enter Tryz.func117, Tryz.ntmps117
      go_wp2
      go_ret
      exact ⟨rfl, Below.refl _ _⟩
  · have hs : r < 55296 ∨ 57343 < r := by omega
    by_cases h1 : r < 128
    · rw [encI_1 (by omega) h1]
      have hr : 0 ≤ r := by omega
      have e := fun w => run_new1 w r (by omega)
      clear h0 hs
      go_enter Tryz.func117, Tryz.ntmps117
      go_wp2
      go_ret
      exact ⟨rfl, (Below.refl _ _).alloc (Nat.le_refl _) _⟩
    · by_cases h2 : r < 2048
      · rw [encI_2 (by omega) h2]
        have hr : 128 ≤ r := by omega
        have e := fun w => run_new2 w (192 + r / 64) (128 + r % 64) (by omega) (by omega)
        clear h0 hs h1
        go_enter Tryz.func117, Tryz.ntmps117
        go_wp2
        go_ret
        exact ⟨rfl, (Below.refl _ _).alloc (Nat.le_refl _) _⟩
      · by_cases h3 : r < 65536
        · rw [encI_3 (by omega) h3 hs]
          have hr : 2048 ≤ r := by omega
          have e := fun w => run_new3 w (224 + r / 4096) (128 + r / 64 % 64) (128 + r % 64) (by omega) (by omega) (by omega)
          clear h0 h1 h2
          rcases hs with hs | hs
          all_goals
            go_enter Tryz.func117, Tryz.ntmps117
            go_wp2
            go_ret
            exact ⟨rfl, (Below.refl _ _).alloc (Nat.le_refl _) _⟩
        · have hr : 65536 ≤ r := by omega
          have hr2 : r ≤ 1114111 := by omega
          rw [encI_4 hr hr2]
          have e := fun w => run_new4 w (240 + r / 262144) (128 + r / 4096 % 64) (128 + r / 64 % 64) (128 + r % 64) (by omega) (by omega) (by omega) (by omega)
          clear h0 h1 h2 h3 hs
          go_enter Tryz.func117, Tryz.ntmps117
          go_wp2
          go_ret
          exact ⟨rfl, (Below.refl _ _).alloc (Nat.le_refl _) _⟩

/-- What Decode gives at an offset. -/
def decAt (l : Bytes) (n : Int) : Nat × Nat := if 0 ≤ n ∧ n < l.length then dec (l.drop n.toNat) else (0, 0)
theorem decAt_nat {l : Bytes} {n : Nat} (h : n < l.length) : decAt l n = dec (l.drop n) := by
  unfold decAt
  rw [if_pos (by omega), Int.toNat_natCast]

theorem drop_getD (l : Bytes) (n i : Nat) (h : n + i < l.length) : (l.drop n).getD i 0 = l[n + i] := by
  rw [List.getD_eq_getElem?_getD, List.getElem?_drop, List.getElem?_eq_getElem h]
  rfl
theorem drop_getD0 (l : Bytes) (n : Nat) (h : n < l.length) : (l.drop n).getD 0 0 = l[n] := by
  have := drop_getD l n 0 (by omega)
  simpa using this

theorem rp0_is (l : Bytes) (n : Nat) (h : n < l.length) (m : Nat) :
    (m = 1 → ((rp0 (l.drop n) m : Nat) : Int) = l[n].toNat) ∧ (m = 2 → ((rp0 (l.drop n) m : Nat) : Int) = (l[n].toNat : Int) % 32) ∧ (m = 3 → ((rp0 (l.drop n) m : Nat) : Int) = (l[n].toNat : Int) % 16) ∧ (m = 4 → ((rp0 (l.drop n) m : Nat) : Int) = (l[n].toNat : Int) % 8) := by
  have h0 := drop_getD0 l n h
  refine ⟨?_, ?_, ?_, ?_⟩ <;> (rintro rfl; unfold rp0; rw [h0]; simp)
theorem rp_next (l : Bytes) (n i m : Nat) (h1 : 1 ≤ i) (h : n + i < l.length) : ((rp (l.drop n) m (i + 1 - 1) : Nat) : Int) = ((rp (l.drop n) m (i - 1) : Nat) : Int) * 64 + (l[n + i].toNat : Int) % 64 := by
  have hx := drop_getD l n i h
  obtain ⟨k, rfl⟩ : ∃ k, i = k + 1 := ⟨i - 1, by omega⟩
  simp only [Nat.add_sub_cancel, rp]
  rw [hx]
  omega
set_option maxHeartbeats 4000000 in
theorem refDecode_in (l : Bytes) (n : Nat) (w : World) (hl : l.length ≤ 4611686018427387904) (h : n < l.length) :
    Calls Tryz.prog 91 #[.string (S l), .int .i64 n] w fun e w' => e = .returned (.tuple #[.int .i64 (dec (l.drop n)).1, .int .i64 (dec (l.drop n)).2]) ∧ Below w.heap.size w w' := by
  have hL : (l.drop n).length = l.length - n := List.length_drop
  have h0 := drop_getD0 l n h
  have HL := Lib.hid hL
  have H0 := Lib.hid h0
  clear hL h0
  have d1 : decide ((n : Int) < 0) = false := by simp
  have d2 : decide (l.length ≤ n) = false := by simp; omega
  have hb0 := u8_lt l[n]
  go_enter Tryz.func91, Tryz.ntmps91
  go_wp2
  go_loopw [6, 7, 8] (fun n6 _ _ wr => ∃ m : Nat, 1 ≤ m ∧ m ≤ 5 ∧ n6 = .int .i64 m ∧ (∀ j, 1 ≤ j → j < m → j ≤ (l.drop n).length → enc (rv (l.drop n) j) ≠ (l.drop n).take j) ∧ Below w.heap.size w wr) (fun n6 _ _ _ => 5 - (intOf n6).toNat)
  case atStart => exact ⟨1, by omega, by omega, rfl, by omega, Below.refl _ _⟩
  case round =>
    obtain ⟨m, hm1, hm5, rfl, hj, hb⟩ := hrel
    have HJ := Lib.hid hj
    have HB := Lib.hid hb
    have hsz := hb.size
    clear hj hb
    by_cases hm : m ≤ 4
    · by_cases hml : m ≤ l.length - n
      · have hm' : m = 1 ∨ m = 2 ∨ m = 3 ∨ m = 4 := by omega
        have hmi : (m : Int) ≤ (l.length : Int) - n := by omega
        have hr : ∀ i, i ≤ 3 → rp (l.drop n) m i < 67108864 := fun i hi => rp_le _ _ _ hi
        have HR := Lib.hid hr
        clear hr
        have hr0 := rp0_is l n h m
        have HR0 := Lib.hid hr0
        clear hr0
        have t2 : ((m : Int) == 2) = decide (m = 2) := by rw [Bool.eq_iff_iff]; simp; omega
        have t3 : ((m : Int) == 3) = decide (m = 3) := by rw [Bool.eq_iff_iff]; simp; omega
        have t4 : ((m : Int) == 4) = decide (m = 4) := by rw [Bool.eq_iff_iff]; simp; omega
        have T : (m = 1 ∧ ((m : Int) == 2) = false ∧ ((m : Int) == 3) = false ∧ ((m : Int) == 4) = false) ∨ (m = 2 ∧ ((m : Int) == 2) = true ∧ ((m : Int) == 3) = false ∧ ((m : Int) == 4) = false) ∨
            (m = 3 ∧ ((m : Int) == 2) = false ∧ ((m : Int) == 3) = true ∧ ((m : Int) == 4) = false) ∨ (m = 4 ∧ ((m : Int) == 2) = false ∧ ((m : Int) == 3) = false ∧ ((m : Int) == 4) = true) := by
          rcases hm' with e | e | e | e <;> (rw [t2, t3, t4, e]; decide)
        clear t2 t3 t4 hm'
        rcases T with ⟨e, t2, t3, t4⟩ | ⟨e, t2, t3, t4⟩ | ⟨e, t2, t3, t4⟩ | ⟨e, t2, t3, t4⟩
        all_goals
          have E := Lib.hid e
          clear e
          go_wp2
          go_loopw [7, 8] (fun r7 i8 wx => ∃ i : Nat, 1 ≤ i ∧ i ≤ m ∧ i8 = .int .i64 i ∧ r7 = .int .i64 (rp (l.drop n) m (i - 1) : Nat) ∧ wr = wx) (fun _ i8 _ => m - (intOf i8).toNat)
          case atStart => exact ⟨1, by omega, by omega, rfl, val_int (by first | exact (HR0.out.1 E.out).symm | exact (HR0.out.2.1 E.out).symm | exact (HR0.out.2.2.1 E.out).symm | exact (HR0.out.2.2.2 E.out).symm), rfl⟩
          case round =>
            obtain ⟨i, hi1, him, rfl, rfl, rfl⟩ := hrel
            have hri := HR.out (i - 1) (by omega)
            by_cases hlt : i < m
            · have hni : (n : Int) + i < l.length := by omega
              have hstep := rp_next l n i m hi1 (by omega)
              have HS := Lib.hid hstep
              clear hstep
              generalize rp (l.drop n) m (i - 1) = q at *
              go_wp2
              go_roundw
              case rel => exact ⟨i + 1, by omega, by omega, by go_num, val_int HS.out.symm, by first | rfl | trivial⟩
              case measure => simp [intOf]; omega
            · obtain rfl : i = m := by omega
              have hq : rp (l.drop n) i (i - 1) = rv (l.drop n) i := rfl
              rw [hq] at *
              generalize hv : rv (l.drop n) i = v at *
              have HV := Lib.hid hv
              clear hq hv
              have hen := encI_nat v
              have s2 : (0 : Int) ≤ (n : Int) + i := by omega
              have s3 : ((n : Int) + i).toNat = n + i := by omega
              have s4 : (n : Int) ≤ (n : Int) + i := by omega
              have s5 : (n : Int) + i ≤ (l.length : Int) := by omega
              have s1 : IntKind.i64.wrap ((n : Int) + i) = (n : Int) + i := IntWalk.i64_in _ (by omega)
              go_wp2
              go_region_with (go_at_call 117; refine (refEncode_any _ _).mono ?_; rintro e w' ⟨rfl, hbe⟩)
              clear s1
              have hlen : i ≤ (l.drop n).length := by rw [HL.out]; exact hml
              have HN := Lib.hid hlen
              clear hlen
              go_wp2
              · rename_i hq
                have hhit := ref_hit hm1 HN.out (by rw [HV.out]; exact eq_of_beq hq)
                rw [HV.out] at hhit
                go_ret2
                exact ⟨by rw [hhit]; rfl, HB.out.trans ((below_drew hbe).mono hsz)⟩
              · rename_i hq
                have hqn : enc v ≠ (l.drop n).take i := fun e => by rw [e, beq_self_eq_true] at hq; exact absurd hq (by decide)
                go_roundw
                case rel =>
                  refine ⟨i + 1, by omega, by omega, by go_num, fun j h1 h2 h3 => ?_, HB.out.trans ((below_drew hbe).mono hsz)⟩
                  by_cases hji : j = i
                  · subst hji; rw [HV.out]; exact hqn
                  · exact HJ.out j h1 (by omega) h3
                case measure => simp [intOf]; omega
      · have hmi : (l.length : Int) - n < m := by omega
        have hz : dec (l.drop n) = (0, 0) := ref_miss fun j h1 h2 h3 => HJ.out j h1 (by rw [HL.out] at h3; omega) h3
        have HZ := Lib.hid hz
        clear hz
        go_wp2
        go_ret2
        exact ⟨by rw [HZ.out]; rfl, HB.out⟩
    · have hz : dec (l.drop n) = (0, 0) := ref_miss fun j h1 h2 h3 => HJ.out j h1 (by omega) h3
      have HZ := Lib.hid hz
      clear hz
      go_wp2
      go_ret2
      exact ⟨by rw [HZ.out]; rfl, HB.out⟩
end Go.Proofs.YtclhdppppgjgfaaGreatDoor
set_option linter.unusedVariables false
namespace Go.Proofs.YtclhdppppgjgfaaGreatDoor
open Go.RowKit

theorem dec_one (l : Bytes) (h : (dec l).2 = 1) : (dec l).1 < 128 := by
  unfold dec at h ⊢
  match l with
  | [] => simp
  | a :: t =>
    dsimp only at h ⊢
    by_cases h1 : a.toNat < 128
    · simp [h1]
    · simp only [h1, if_false] at h ⊢
      match t with
      | [] => simp
      | b :: t =>
        dsimp only at h ⊢
        repeat' split at h
        all_goals first | omega | (simp at h)
theorem decodeGo_S (l : Bytes) (h : l ≠ []) : Lib.decodeGo (S l) = if (dec l).2 = 0 then (65533, 1) else dec l := by
  unfold Lib.decodeGo
  rw [if_neg (by rw [S_size]; intro e; exact h (List.eq_nil_of_length_eq_zero e)), utf8_dec l h]

set_option maxHeartbeats 1000000 in
theorem decode_out (l : Bytes) (n : Int) (w : World) (hl : l.length ≤ 4611686018427387904) (h : n < 0 ∨ (l.length : Int) ≤ n) :
    Calls Tryz.prog 79 #[.string (S l), .int .i64 n] w fun e w' => e = .returned (.tuple #[.int .i32 0, .int .i64 0]) ∧ w = w' := by
  rcases h with h | h
  · go_enter Tryz.func79, Tryz.ntmps79
    go_wp2
    go_ret2
    exact ⟨rfl, rfl⟩
  · have h0 : 0 ≤ n := by omega
    go_enter Tryz.func79, Tryz.ntmps79
    go_wp2
    go_ret2
    exact ⟨rfl, rfl⟩

set_option maxHeartbeats 1000000 in
theorem decode_in (l : Bytes) (n : Nat) (w : World) (hT : Tabs w) (hl : l.length ≤ 4611686018427387904) (h : n < l.length) :
    Calls Tryz.prog 79 #[.string (S l), .int .i64 n] w fun e w' => e = .returned (.tuple #[.int .i32 (dec (l.drop n)).1, .int .i64 (dec (l.drop n)).2]) ∧ Below w.heap.size w w' := by
  have hne : l.drop n ≠ [] := fun e => by have := congrArg List.length e; simp at this; omega
  have hc := Tryz.utf8_DecodeRuneInString (S (l.drop n)) w hT.utf
  rw [decodeGo_S _ hne] at hc
  have HT := Lib.hid hT
  clear hT
  by_cases h0 : (dec (l.drop n)).2 = 0
  · have hz := dec_zero h0
    rw [if_pos h0] at hc
    rw [hz]
    have HC := Lib.hid hc
    clear hc h0 hz hne
    go_enter Tryz.func79, Tryz.ntmps79
    go_wp2_with (go_at_call 106; refine HC.out.mono ?_; rintro e w' ⟨rfl, hb⟩)
    go_ret2
    exact ⟨rfl, hb⟩
  · rw [if_neg h0] at hc
    have h1 := dec_one (l.drop n)
    generalize (dec (l.drop n)).1 = r at *
    generalize (dec (l.drop n)).2 = k at *
    have t : ((r : Int) == 65533) = false ∨ (((r : Int) == 65533) = true ∧ ((k : Int) == 1) = false) := by
      by_cases hr : r = 65533
      · right; subst hr; refine ⟨rfl, ?_⟩; rw [beq_eq_false_iff_ne]; intro hk; have := h1 (by omega); omega
      · left; rw [beq_eq_false_iff_ne]; omega
    have HC := Lib.hid hc
    clear hc h0 hne h1
    rcases t with t | ⟨t, t2⟩
    · go_enter Tryz.func79, Tryz.ntmps79
      go_wp2_with (go_at_call 106; refine HC.out.mono ?_; rintro e w' ⟨rfl, hb⟩)
      go_ret2
      exact ⟨rfl, hb⟩
    · go_enter Tryz.func79, Tryz.ntmps79
      go_wp2_with (go_at_call 106; refine HC.out.mono ?_; rintro e w' ⟨rfl, hb⟩)
      go_ret2
      exact ⟨rfl, hb⟩

theorem decode_any (l : Bytes) (n : Int) (w : World) (hT : Tabs w) (hl : l.length ≤ 4611686018427387904) :
    Calls Tryz.prog 79 #[.string (S l), .int .i64 n] w fun e w' => e = .returned (.tuple #[.int .i32 (decAt l n).1, .int .i64 (decAt l n).2]) ∧ Below w.heap.size w w' := by
  unfold decAt
  by_cases h : 0 ≤ n ∧ n < l.length
  · rw [if_pos h]
    obtain ⟨k, rfl⟩ := Int.eq_ofNat_of_zero_le h.1
    exact decode_in l k w hT hl (by omega)
  · rw [if_neg h]
    refine (decode_out l n w hl (by omega)).mono ?_
    rintro e w' ⟨rfl, rfl⟩
    exact ⟨rfl, Below.refl _ _⟩
theorem drop_ne {l : Bytes} {n : Nat} (h : n < l.length) : l.drop n ≠ [] := fun e => by have := congrArg List.length e; simp at this; omega
set_option maxHeartbeats 1000000 in
theorem check_any (l : Bytes) (w : World) (hT : Tabs w) (hl : l.length ≤ 4611686018427387904) :
    Calls Tryz.prog 58 #[.string (S l)] w fun e w' => e = .returned (.tuple #[.int .i64 (check l).1, .int .i64 (check l).2]) ∧ Below w.heap.size w w' := by
  have HT := Lib.hid hT
  clear hT
  obtain ⟨c, hc⟩ : ∃ c, check l = c := ⟨_, rfl⟩
  rw [hc]
  have HC := Lib.hid hc
  clear hc
  go_enter Tryz.func58, Tryz.ntmps58
  go_wp2
  go_loopw [4] (fun a4 wr => ∃ n : Nat, n ≤ l.length ∧ a4 = .int .i64 n ∧ chkS 0 (l.drop n) n = c ∧ Below w.heap.size w wr) (fun a4 _ => l.length - (intOf a4).toNat)
  case atStart => exact ⟨0, by omega, rfl, HC.out, Below.refl _ _⟩
  case round =>
    obtain ⟨n, hn, rfl, hch, hb⟩ := hrel
    have HB := Lib.hid hb
    have hsz := hb.size
    clear hb
    by_cases hlt : n < l.length
    · have hle := dec_le (l.drop n)
      have hne := drop_ne hlt
      have hd := decode_in l n wr (HT.out.next HB.out) hl hlt
      have HD := Lib.hid hd
      clear hd
      by_cases h0 : (dec (l.drop n)).2 = 0
      · have hcc := chk_bad (at_ := n) hne h0
        rw [hch] at hcc
        have t0 : (((dec (l.drop n)).2 : Int) == 0) = true := by rw [h0]; rfl
        have HCC := Lib.hid hcc
        clear hcc hch h0 hne
        generalize dec (l.drop n) = d at *
        obtain ⟨r, k⟩ := d
        go_wp2_with (go_at_call 79; refine HD.out.mono ?_; rintro e w' ⟨rfl, hb⟩)
        go_ret2
        exact ⟨by rw [HCC.out]; rfl, HB.out.trans (hb.mono hsz)⟩
      · have t0 : (((dec (l.drop n)).2 : Int) == 0) = false := by rw [beq_eq_false_iff_ne]; omega
        cases hi : isChar (dec (l.drop n)).1
        · have hcc := chk_char (at_ := n) hne h0 hi
          rw [hch] at hcc
          have HCC := Lib.hid hcc
          have HI := Lib.hid hi
          clear hcc hch h0 hne hi
          generalize dec (l.drop n) = d at *
          obtain ⟨r, k⟩ := d
          go_wp2_with (first | (go_at_call 79; refine HD.out.mono ?_; rintro e w' ⟨rfl, hb⟩) | (go_at_call 80; refine (isChar_any _ _).mono ?_; rintro e w2 ⟨rfl, rfl⟩; rw [HI.out]))
          go_ret2
          exact ⟨by rw [HCC.out]; rfl, HB.out.trans (hb.mono hsz)⟩
        · have hcc := chk_next (at_ := n) hne h0 hi
          rw [hch] at hcc
          have HCC := Lib.hid hcc
          have HI := Lib.hid hi
          have hle1 : n + (dec (l.drop n)).2 ≤ l.length := by have := hle.1; simp at this; omega
          have hpos : 1 ≤ (dec (l.drop n)).2 := by omega
          clear hcc hch h0 hne hi
          generalize hg : dec (l.drop n) = d at *
          have HG := Lib.hid hg
          clear hg
          obtain ⟨r, k⟩ := d
          go_wp2_with (first | (go_at_call 79; refine HD.out.mono ?_; rintro e w' ⟨rfl, hb⟩) | (go_at_call 80; refine (isChar_any _ _).mono ?_; rintro e w2 ⟨rfl, rfl⟩; rw [HI.out]))
          go_roundw
          case rel => exact ⟨n + k, by omega, by go_num, by rw [HCC.out, List.drop_drop], HB.out.trans (hb.mono hsz)⟩
          case measure => simp [intOf]; omega
    · obtain rfl : n = l.length := by omega
      rw [List.drop_length] at hch
      have HCH := Lib.hid hch
      clear hch
      go_wp2
      go_ret2
      exact ⟨by rw [← HCH.out]; rfl, HB.out⟩
end Go.Proofs.YtclhdppppgjgfaaGreatDoor
set_option linter.unusedVariables false
namespace Go.Proofs.YtclhdppppgjgfaaGreatDoor
open Go.RowKit

/-- Block b is a position: the document, the offset, the first error's offset and the error. -/
def Cur (w : World) (b : Nat) (l : Bytes) (n ea er : Int) : Prop :=
  w.heap[b]? = some (.cells #[.string (S l), .int .i64 n, .int .i64 ea, .int .i64 er] 94 (0, 0))
section
variable {w w' : World} {b : Nat} {l : Bytes} {n ea er : Int}
theorem Cur.lt (h : Cur w b l n ea er) : b < w.heap.size := heap_lt h
theorem Cur.c0 (h : Cur w b l n ea er) : w.cell? ⟨b, 0, none⟩ = some (.string (S l)) := by rw [Lib.cell_of_heap h]; rfl
theorem Cur.c1 (h : Cur w b l n ea er) : w.cell? ⟨b, 1, none⟩ = some (.int .i64 n) := by rw [Lib.cell_of_heap h]; rfl
theorem Cur.c2 (h : Cur w b l n ea er) : w.cell? ⟨b, 2, none⟩ = some (.int .i64 ea) := by rw [Lib.cell_of_heap h]; rfl
theorem Cur.c3 (h : Cur w b l n ea er) : w.cell? ⟨b, 3, none⟩ = some (.int .i64 er) := by rw [Lib.cell_of_heap h]; rfl
theorem Cur.free (h : Cur w b l n ea er) (i : Nat) : w.frozen? ⟨b, i, none⟩ = false := Lib.frozen_of_heap h i
theorem Cur.below (h : Cur w b l n ea er) (hb : Below w.heap.size w w') : Cur w' b l n ea er := (hb.block b h.lt).trans h
theorem Cur.drew (h : Cur w b l n ea er) : Cur w.drew b l n ea er := h
theorem Cur.alloc (h : Cur w b l n ea er) (o : Obj) : Cur (w.alloc o) b l n ea er := h.below ((Below.refl _ _).alloc (Nat.le_refl _) o)
theorem Cur.move (h : Cur w b l n ea er) (m : Int) : Cur (w.setCell ⟨b, 1, none⟩ (.int .i64 m)) b l m ea er := by
  unfold Cur at h ⊢
  simp [World.setCell, Array.getElem?_modify, h]
theorem Cur.new (w : World) (l : Bytes) (n ea er : Int) : Cur (w.alloc (.cells #[.string (S l), .int .i64 n, .int .i64 ea, .int .i64 er] 94)) w.heap.size l n ea er := heap_alloc_new w _
end
end Go.Proofs.YtclhdppppgjgfaaGreatDoor
set_option linter.unusedVariables false
namespace Go.Proofs.YtclhdppppgjgfaaGreatDoor

/-- May this rune stand in a tag's or attribute's name; 'f': at its head. -/
def qch (f : Bool) (r : Int) : Bool := decide (r = 58) || (!f && nameChar r) || nameStart r
/-- The length of the longest name at the head. -/
def nmS : Nat → Bool → Bytes → Nat
  | _, _, [] => 0
  | k + 1, f, _ :: t => 1 + nmS k f t
  | 0, f, a :: t =>
    if (dec (a :: t)).2 = 0 then 0
    else if qch f (dec (a :: t)).1 then 1 + nmS ((dec (a :: t)).2 - 1) false t
    else 0
def nameLen (l : Bytes) : Nat := nmS 0 true l
def isQName (l : Bytes) : Bool := l != [] && nameLen l == l.length

theorem nmS_skip : ∀ (k : Nat) (f : Bool) (l : Bytes), k ≤ l.length → nmS k f l = k + nmS 0 f (l.drop k)
  | 0, f, l, _ => by simp
  | k + 1, f, [], h => by simp at h
  | k + 1, f, a :: t, h => by
    rw [nmS, nmS_skip k f t (by simpa using h)]
    simp only [List.drop_succ_cons]
    omega
theorem nm_nil (f : Bool) : nmS 0 f [] = 0 := rfl
theorem nm_stop {l : Bytes} {f : Bool} (h : (dec l).2 = 0 ∨ qch f (dec l).1 = false) : nmS 0 f l = 0 := by
  cases l with
  | nil => rfl
  | cons a t =>
    rw [nmS]
    rcases h with h | h
    · rw [if_pos h]
    · simp [h]
theorem nm_next {l : Bytes} {f : Bool} (h : (dec l).2 ≠ 0) (hc : qch f (dec l).1 = true) : nmS 0 f l = (dec l).2 + nmS 0 false (l.drop (dec l).2) := by
  cases l with
  | nil => exact absurd rfl h
  | cons a t =>
    have hl := (dec_le (a :: t)).1
    rw [nmS, if_neg h, if_pos hc, nmS_skip _ _ _ (by simp at hl; omega)]
    obtain ⟨k, hk⟩ : ∃ k, (dec (a :: t)).2 = k + 1 := ⟨(dec (a :: t)).2 - 1, by omega⟩
    rw [hk]
    simp only [Nat.add_sub_cancel, List.drop_succ_cons]
    omega
theorem nmS_le : ∀ (l : Bytes) (k : Nat) (f : Bool), nmS k f l ≤ l.length
  | [], k, f => by cases k <;> simp [nmS]
  | a :: t, k + 1, f => by
    have := nmS_le t k f
    rw [nmS]; simp; omega
  | a :: t, 0, f => by
    rw [nmS]
    split
    · simp
    · split
      · have := nmS_le t ((dec (a :: t)).2 - 1) false
        simp; omega
      · simp
theorem nameLen_le (l : Bytes) : nameLen l ≤ l.length := nmS_le l 0 true
theorem isQName_iff (l : Bytes) : isQName l = true ↔ l ≠ [] ∧ nameLen l = l.length := by
  unfold isQName; simp
theorem qch_ref (f : Bool) (r : Int) : qch f r = ((decide (r = 58) || nameChar r) && (!f || decide (r = 58) || nameStart r)) := by
  have := @nameChar_of_start r
  unfold qch
  cases f <;> cases h1 : decide (r = 58) <;> cases h2 : nameChar r <;> cases h3 : nameStart r <;> simp_all
end Go.Proofs.YtclhdppppgjgfaaGreatDoor
