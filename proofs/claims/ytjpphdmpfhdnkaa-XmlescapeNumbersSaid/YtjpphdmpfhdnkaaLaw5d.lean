/-
  Walk of chapter 5's statement Numbers.
-/
import Derived.Test.YtjpphdmpfhdnkaaLaw5a
import Derived.Test.YtjpphdmpfhdnkaaPlain5d
import Derived.OpenShut
set_option linter.unusedVariables false
namespace Go.Proofs.Ytjpphdmpfhdnkaa
open Go.RowKit

def oneIfNone : Value → Nat
  | .string s => if s.size = 0 then 1 else 0
  | _ => 0
set_option maxHeartbeats 1000000 in
theorem decimal_any (N : Nat) (w : World) (hN : N ≤ 1200000) :
    Calls Try.prog 19 #[.int .i64 N] w fun e w' => e = .returned (.string (S (digs N))) ∧ Below w.heap.size w w' := by
  obtain ⟨r, hr⟩ : ∃ r, digs N = r := ⟨_, rfl⟩
  rw [hr]
  have hlen := digs_len N
  rw [hr] at hlen
  have HR := Lib.hid hr
  clear hr
  go_enter Try.func19, Try.ntmps19
  go_wp2_with fail
  go_loopw [0, 3] (fun n0 s3 wr => ∃ (m : Nat) (t : Bytes), m ≤ 1200000 ∧ n0 = .int .i64 m ∧ s3 = .string (S t) ∧ (0 < m ∨ t = [] → digs m ++ t = r) ∧ (m = 0 ∧ t ≠ [] → t = r) ∧ Below w.heap.size w wr) (fun n0 s3 _ => (intOf n0).toNat + oneIfNone s3)
  case atStart => exact ⟨N, [], hN, rfl, rfl, fun _ => by rw [List.append_nil]; exact HR.out, fun h => absurd rfl h.2, Below.refl _ _⟩
  case round =>
    obtain ⟨m, t, hm, rfl, rfl, h1, h2, hb⟩ := hrel
    have HB := Lib.hid hb
    have hsz := hb.size
    have H1 := Lib.hid h1
    have H2 := Lib.hid h2
    clear hb h1 h2
    have go : ∀ (t : Bytes), (digs m ++ t = r) → t.length + 1 ≤ r.length ∧ ((0 < m / 10 ∨ UInt8.ofNat (48 + m % 10) :: t = [] → digs (m / 10) ++ UInt8.ofNat (48 + m % 10) :: t = r) ∧ (m / 10 = 0 ∧ UInt8.ofNat (48 + m % 10) :: t ≠ [] → UInt8.ofNat (48 + m % 10) :: t = r)) := by
      intro t ht
      have hl := congrArg List.length ht
      have hne := List.length_pos_iff.2 (digs_ne m)
      rw [List.length_append] at hl
      refine ⟨by omega, ?_⟩
      by_cases h : m < 10
      · rw [digs_low h] at ht
        refine ⟨fun h' => ?_, fun _ => ?_⟩
        · rcases h' with h' | h'
          · omega
          · cases h'
        · rw [show m % 10 = m by omega]; exact ht
      · rw [digs_high h, List.append_assoc] at ht
        exact ⟨fun _ => ht, fun h' => by omega⟩
    by_cases hm0 : 0 < m
    · have hm0' : (0 : Int) < m := by omega
      have G := Lib.hid (go t (H1.out (.inl hm0)))
      have hl := G.out.1
      have hl' : 1 + t.length ≤ 9223372036854775807 := by omega
      have e := fun w => run_new1 w (48 + (m : Int) % 10) (by omega)
      rw [show UInt8.ofNat (48 + (m : Int) % 10).toNat = UInt8.ofNat (48 + m % 10) from rfl] at e
      generalize UInt8.ofNat (48 + m % 10) = d at *
      clear go H1 H2 HR hlen
      go_wp2
      go_roundw
      case rel => exact ⟨m / 10, d :: t, by omega, by go_num, rfl, G.out.2.1, G.out.2.2, HB.out.trans ((Below.refl _ _).alloc hsz _)⟩
      case measure => simp [intOf, oneIfNone, S, ByteArray.size]; omega
    · obtain rfl : m = 0 := by omega
      cases t with
      | nil =>
        have G := Lib.hid (go [] (H1.out (.inr rfl)))
        have e := fun w => run_new1 w 48 (by omega)
        clear go H1 H2 HR hlen
        go_wp2
        go_roundw
        case rel => exact ⟨0, [48], by omega, by go_num, rfl, G.out.2.1, G.out.2.2, HB.out.trans ((Below.refl _ _).alloc hsz _)⟩
        case measure => simp [intOf, oneIfNone, S, ByteArray.size]
      | cons c t =>
        have G := Lib.hid (H2.out ⟨rfl, by simp⟩)
        clear go H1 H2 HR hlen
        go_wp2
        go_ret
        exact ⟨ret_S G.out, HB.out⟩

set_option maxHeartbeats 4000000 in
theorem law5numbers_any (a0 a1 : Int) (w : World) (w0 : (Lit.int .u32 a0).wf = true) (w1 : (Lit.int .u8 a1).wf = true) :
    Calls Try.prog 8 #[.int .u32 a0, .int .u8 a1] w fun e w' => e = .returned (.bool true) ∧ Below w.heap.size w w' := by
  have hb0 := bounds_u32 w0
  have hb1 := bounds_u8 w1
  obtain ⟨n0, rfl⟩ := Int.eq_ofNat_of_zero_le hb0.1
  obtain ⟨z0, rfl⟩ := Int.eq_ofNat_of_zero_le hb1.1
  clear w0 w1
  obtain ⟨k, hkk⟩ : ∃ k, n0 % 1200000 = k := ⟨_, rfl⟩
  obtain ⟨z, hzz⟩ : ∃ z, z0 % 20 = z := ⟨_, rfl⟩
  have hk : (n0 : Int) % 1200000 = k := by omega
  have hz : (z0 : Int) % 20 = z := by omega
  have hk2 : k ≤ 1200000 := by omega
  have hz2 : z < 20 := by omega
  clear hkk hzz
  have c1 : ∀ w, Calls Try.prog 18 #[.string ⟨#[48]⟩, .int .i64 z] w fun e w' => e = .returned (.string (S (Lib.repeatL [48] z))) ∧ Below w.heap.size w w' := fun w => Try.strings_Repeat ⟨#[48]⟩ z w (by omega) (by show 1 * z ≤ _; omega)
  have c2 := fun w => decimal_any k w hk2
  have n1 := Lib.repeatL_length [48] z
  have n2 := digs_len k
  simp only [List.length_cons, List.length_nil] at n1
  have n3 := zref_len z k
  have n4 := zdigs_len z k
  have hs : S (38 :: 35 :: (Lib.repeatL [48] z ++ (digs k ++ [59]))) = S (zref z k) := by unfold zref zdigs; simp
  have c3 := fun w => reference_any (zref z k) 0 w (by omega)
  have c4 := fun w => unescape_any (zref z k ++ [120]) w (by rw [List.length_append]; simp only [List.length_cons, List.length_nil]; omega)
  have c5 := fun w => refIsChar_any (k : Int) w
  have c6 := fun w => refEncode_any (k : Int) w
  rw [encI_nat] at c6
  have C1 := Lib.hid c1
  have C2 := Lib.hid c2
  have C5 := Lib.hid c5
  have C6 := Lib.hid c6
  clear c1 c2 c5 c6
  have N1 : (Lib.repeatL [48] z).length < 20 := by omega
  clear n1
  cases hc : isChar k
  · rw [refAt_zref_no z k hc] at c3
    rw [unT_zref_no z k hc] at c4
    rw [hc] at C5
    have C3 := Lib.hid c3
    have C4 := Lib.hid c4
    clear c3 c4 hc
    generalize zref z k = R at *
    generalize digs k = D at *
    generalize Lib.repeatL [48] z = A at *
    go_enter Try.func8, Try.ntmps8
    go_wp2_with fail
    refine (C1.out _).mono ?_
    rintro e w1 ⟨rfl, hb1⟩
    go_wp2_with fail
    refine (C2.out _).mono ?_
    rintro e w2 ⟨rfl, hb2⟩
    have hb2' := hb1.trans (hb2.mono hb1.size)
    go_wp2_with fail
    refine (C3.out _).mono ?_
    rintro e w3 ⟨rfl, hb3⟩
    have hb3' := hb2'.trans (hb3.mono hb2'.size)
    go_wp2_with fail
    refine (C4.out _).mono ?_
    rintro e w4 ⟨rfl, hb4⟩
    have hb4' := hb3'.trans (hb4.mono hb3'.size)
    go_wp2_with fail
    refine (C5.out _).mono ?_
    rintro e w5 ⟨rfl, rfl⟩
    go_wp2_with fail
    refine (alive5_any _).mono ?_
    rintro e w6 ⟨rfl, hb6⟩
    go_wp2_with fail
    go_ret
    exact ⟨rfl, hb4'.trans (hb6.mono hb4'.size)⟩
  · rw [refAt_zref_yes z k hc] at c3
    rw [unT_zref_yes z k hc] at c4
    rw [hc] at C5
    have C3 := Lib.hid c3
    have C4 := Lib.hid c4
    clear c3 c4
    have n5 : (enc k).length ≤ 4 := (enc_len k (isChar_ok (by assumption))).2
    clear hc
    have q1 : ((k : Int) == (k : Int)) = true := by simp
    have q3 : (enc k ++ [120] == enc k ++ [120]) = true := by simp
    generalize enc k = E at *
    generalize zref z k = R at *
    generalize digs k = D at *
    generalize Lib.repeatL [48] z = A at *
    have q2 : ((R.length : Int) == (R.length : Int)) = true := by simp
    have q4 : ((R.length : Int) + 1 == (R.length : Int) + 1) = true := by simp
    go_enter Try.func8, Try.ntmps8
    go_wp2_with fail
    refine (C1.out _).mono ?_
    rintro e w1 ⟨rfl, hb1⟩
    go_wp2_with fail
    refine (C2.out _).mono ?_
    rintro e w2 ⟨rfl, hb2⟩
    have hb2' := hb1.trans (hb2.mono hb1.size)
    go_wp2_with fail
    refine (C3.out _).mono ?_
    rintro e w3 ⟨rfl, hb3⟩
    have hb3' := hb2'.trans (hb3.mono hb2'.size)
    go_wp2_with fail
    refine (C4.out _).mono ?_
    rintro e w4 ⟨rfl, hb4⟩
    have hb4' := hb3'.trans (hb4.mono hb3'.size)
    go_wp2_with fail
    refine (C5.out _).mono ?_
    rintro e w5 ⟨rfl, rfl⟩
    go_wp2_with fail
    refine (alive5_any _).mono ?_
    rintro e w6 ⟨rfl, hb6⟩
    have hb6' := hb4'.trans (hb6.mono hb4'.size)
    go_wp2_with fail
    refine (C6.out _).mono ?_
    rintro e w7 ⟨rfl, hb7⟩
    go_wp2_with fail
    go_ret
    exact ⟨rfl, hb6'.trans (hb7.mono hb6'.size)⟩
end Go.Proofs.Ytjpphdmpfhdnkaa
