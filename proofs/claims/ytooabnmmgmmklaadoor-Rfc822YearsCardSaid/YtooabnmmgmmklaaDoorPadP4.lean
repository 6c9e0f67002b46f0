/-
  Walks of chapter 3, what chapter 4 uses of it: the program's pad and Format.
-/
import Derived.Test.YtooabnmmgmmklaaDoorFmtR4
import Derived.Test.YtooabnmmgmmklaaDoorClkP4
import Derived.Test.YtooabnmmgmmklaaDoorApL
import Derived.Test.YtooabnmmgmmklaaDoorCol4
set_option linter.unusedVariables false
namespace Go.Proofs.YtooabnmmgmmklaaDoor
open Go.RowKit

theorem dgs_len : ∀ (k n : Nat), (dgs k n).length = k
  | 0, _ => rfl
  | k + 1, n => by rw [dgs, List.length_append, dgs_len k]; rfl
/-- Digits without zeros ahead, padded. -/
theorem dec_pad : ∀ (wd n : Nat), 1 ≤ wd → n < 10 ^ wd → ∃ k, (Lib.decDigits n).length + k = wd ∧ dgs wd n = List.replicate k 48 ++ Lib.decDigits n
  | 0, n, h, _ => absurd h (by decide)
  | wd + 1, n, _, hn => by
    rw [Lib.decDigits]
    by_cases h : n < 10
    · rw [dif_pos h]
      refine ⟨wd, by simp; omega, ?_⟩
      have hz : ∀ k, dgs k 0 = List.replicate k 48 := by
        intro k
        induction k with
        | zero => rfl
        | succ k ih => rw [dgs, Nat.zero_div, ih, List.replicate_succ']; rfl
      rw [dgs, show n / 10 = 0 by omega, hz]
      unfold dg
      rw [Nat.mod_eq_of_lt h]
    · rw [dif_neg h]
      have hw : 1 ≤ wd := by
        cases wd with
        | zero => simp at hn; omega
        | succ w => omega
      obtain ⟨k, h1, h2⟩ := dec_pad wd (n / 10) hw (by rw [Nat.pow_succ] at hn; omega)
      refine ⟨k, by simp; omega, ?_⟩
      rw [dgs, h2, List.append_assoc]
      rfl
theorem itoa4_any (n : Nat) (h : n < 10000) (w : World) (hT : Tab4 w) :
    Calls Tryd.prog 71 #[.int .i64 n] w fun e w' => e = .returned (.string (S (Lib.decDigits n))) ∧ Below w.heap.size w w' := by
  refine (Tryd.strconv_Itoa n (by omega) (by omega) w hT.pow).mono ?_
  rintro e w' ⟨rfl, k, os, rfl⟩
  refine ⟨?_, Lib.below_grow _ _ (Nat.le_refl _) k os⟩
  unfold Lib.itoa
  rw [if_neg (by omega), Int.toNat_natCast]
  rfl
set_option maxHeartbeats 2000000 in
set_option maxRecDepth 100000 in
theorem pad_any (n wd : Nat) (h : n < 10 ^ wd) (hw : 1 ≤ wd) (hw4 : wd ≤ 4) (w0 : World) (v : Value) (l : Bytes) (w : World) (hT0 : Tab4 w0) (hb0 : Below w0.heap.size w0 w) (hv : Own w0.heap.size v l w) (hl : l.length ≤ 1000) :
    Calls Tryd.prog 49 #[v, .int .i64 n, .int .i64 wd] w fun e w' => ∃ A k c, e = .returned (.slice A k c) ∧ Own w0.heap.size (.slice A k c) (l ++ dgs wd n) w' ∧ Below w0.heap.size w0 w' := by
  obtain ⟨k, hk1, hk2⟩ := dec_pad wd n hw h
  have hn : n < 10000 := Nat.lt_of_lt_of_le h (Nat.pow_le_pow_right (by decide) hw4)
  have hi := itoa4_any n hn w (hT0.next hb0)
  rw [hk2]
  generalize Lib.decDigits n = D at *
  obtain ⟨T, hTT⟩ : ∃ T, l ++ (List.replicate k 48 ++ D) = T := ⟨_, rfl⟩
  rw [hTT]
  have HTT := Lib.hid hTT
  clear hTT
  have HI := Lib.hid hi
  have HV := Lib.hid hv
  have HB0 := Lib.hid hb0
  have hsz0 := hb0.size
  obtain ⟨A0, c0, rfl⟩ := own_slice13 hv
  have HK1 := Lib.hid hk1
  clear hi hv hb0 hT0 h hk2
  generalize w0.heap.size = B at *
  go_enter Tryd.func49, Tryd.ntmps49
  go_wp2_with (go_at_call 71; refine HI.out.mono ?_; rintro e w1 ⟨rfl, hb1⟩)
  have hwd : ((wd : Int) - (D.length : Int)) = ((k : Nat) : Int) := by omega
  have HV1 := Lib.hid (HV.out.below hb1)
  have HB1 := Lib.hid (HB0.out.trans (hb1.mono hsz0))
  have hsz1 := Nat.le_trans hsz0 hb1.size
  clear hb1 HV HB0 HI
  rw [hwd]
  go_loopw [0, 14] (fun s0 s14 wr => ∃ i : Nat, i ≤ k ∧ s14 = .int .i64 (i : Int) ∧ Own B s0 (l ++ List.replicate i 48) wr ∧ Below B w0 wr ∧ B ≤ wr.heap.size) (fun _ s14 _ => k - (intOf s14).toNat)
  case atStart => exact ⟨0, by omega, rfl, by rw [List.replicate_zero, List.append_nil]; exact HV1.out, HB1.out, hsz1⟩
  case round =>
    obtain ⟨i, hik, rfl, hown, hbr, hszr⟩ := hrel
    obtain ⟨A1, c1, rfl⟩ := own_slice13 hown
    have HO := Lib.hid hown
    have HBR := Lib.hid hbr
    have hol : (l ++ List.replicate i 48).length ≤ 2000 := by rw [List.length_append, List.length_replicate]; omega
    have hnx : l ++ List.replicate (i + 1) 48 = (l ++ List.replicate i 48) ++ [48] := by rw [List.replicate_succ', List.append_assoc]
    have HNX := Lib.hid hnx
    clear hown hbr hnx HV1 HB1
    by_cases hlt : i < k
    · have hlt' : (i : Int) < (k : Int) := by omega
      generalize l ++ List.replicate i 48 = o at *
      go_wp2_with (at_builtin; refine own_append_byte (c := 48) rfl _ _ rfl B _ o rfl HO.out rfl (by omega) hszr ?_; intro v' w' hown' hb')
      go_roundw
      case rel => exact ⟨i + 1, by omega, by go_num, by rw [HNX.out]; exact hown', HBR.out.trans hb', Nat.le_trans hszr hb'.size⟩
      case measure => simp [intOf]; omega
    · obtain rfl : i = k := by omega
      have hlt' : ¬ (i : Int) < (i : Int) := by omega
      have htt : (l ++ List.replicate i 48) ++ D = T := by rw [List.append_assoc]; exact HTT.out
      have HT2 := Lib.hid htt
      clear htt HTT HNX
      generalize l ++ List.replicate i 48 = o at *
      have hD : D.length ≤ 4 := by have := HK1.out; omega
      go_wp2_with (at_builtin; refine own_append_str rfl _ _ rfl B _ o D rfl HO.out rfl (by omega) hszr ?_; intro v' w' hown' hb')
      rw [HT2.out] at hown'
      obtain ⟨A2, c2, rfl⟩ := own_slice13 hown'
      go_ret
      exact ⟨_, _, _, rfl, hown', HBR.out.trans hb'⟩
end Go.Proofs.YtooabnmmgmmklaaDoor
