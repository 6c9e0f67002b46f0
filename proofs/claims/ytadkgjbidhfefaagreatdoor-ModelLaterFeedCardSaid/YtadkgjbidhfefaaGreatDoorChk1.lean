/-
  Walk of chapter 1: the reference's check.
-/
import Derived.Test.YtadkgjbidhfefaaGreatDoorText4
set_option linter.unusedVariables false
namespace Go.Proofs.YtadkgjbidhfefaaGreatDoor
open Go.RowKit

set_option maxHeartbeats 1000000 in
theorem refCheck_any (l : Bytes) (w : World) (hl : l.length ≤ 4611686018427387904) :
    Calls Tryz.prog 47 #[.string (S l)] w fun e w' => e = .returned (.tuple #[.int .i64 (check l).1, .int .i64 (check l).2]) ∧ Below w.heap.size w w' := by
  obtain ⟨c, hc⟩ : ∃ c, check l = c := ⟨_, rfl⟩
  rw [hc]
  have HC := Lib.hid hc
  clear hc
  go_enter Tryz.func47, Tryz.ntmps47
  go_wp2
  go_loopw [4] (fun a4 wr => ∃ n : Nat, n ≤ l.length ∧ a4 = .int .i64 n ∧ chkS 0 (l.drop n) n = c ∧ Below w.heap.size w wr) (fun a4 _ => l.length - (intOf a4).toNat)
  case atStart => exact ⟨0, by omega, rfl, HC.out, Below.refl _ _⟩
  case round =>
    obtain ⟨n, hn, rfl, hch, hb⟩ := hrel
    have HB := Lib.hid hb
    have hsz := hb.size
    clear hb
    by_cases hlt : n < l.length
    · have hle := dec_le (l.drop n)
      have hne := drop_ne hlt
      have hd := refDecode_in l n wr hl hlt
      have HD := Lib.hid hd
      clear hd
      by_cases h0 : (dec (l.drop n)).2 = 0
      · have hcc := chk_bad (at_ := n) hne h0
        rw [hch] at hcc
        have t0 : (((dec (l.drop n)).2 : Int) == 0) = true := by rw [h0]; rfl
        have HCC := Lib.hid hcc
        clear hcc hch h0 hne
        generalize dec (l.drop n) = d at *
        obtain ⟨r, k⟩ := d
        go_wp2_with (go_at_call 61; refine HD.out.mono ?_; rintro e w' ⟨rfl, hb⟩)
        go_ret2
        exact ⟨by rw [HCC.out]; rfl, HB.out.trans (hb.mono hsz)⟩
      · have t0 : (((dec (l.drop n)).2 : Int) == 0) = false := by rw [beq_eq_false_iff_ne]; omega
        cases hi : isChar (dec (l.drop n)).1
        · have hcc := chk_char (at_ := n) hne h0 hi
          rw [hch] at hcc
          have HCC := Lib.hid hcc
          have HI := Lib.hid hi
          clear hcc hch h0 hne hi
          generalize dec (l.drop n) = d at *
          obtain ⟨r, k⟩ := d
          go_wp2_with (first | (go_at_call 61; refine HD.out.mono ?_; rintro e w' ⟨rfl, hb⟩) | (go_at_call 62; refine (refIsChar_any _ _).mono ?_; rintro e w2 ⟨rfl, rfl⟩; rw [HI.out]))
          go_ret2
          exact ⟨by rw [HCC.out]; rfl, HB.out.trans (hb.mono hsz)⟩
        · have hcc := chk_next (at_ := n) hne h0 hi
          rw [hch] at hcc
          have HCC := Lib.hid hcc
          have HI := Lib.hid hi
          have hle1 : n + (dec (l.drop n)).2 ≤ l.length := by have := hle.1; simp at this; omega
          have hpos : 1 ≤ (dec (l.drop n)).2 := by omega
          clear hcc hch h0 hne hi
          generalize hg : dec (l.drop n) = d at *
          have HG := Lib.hid hg
          clear hg
          obtain ⟨r, k⟩ := d
          go_wp2_with (first | (go_at_call 61; refine HD.out.mono ?_; rintro e w' ⟨rfl, hb⟩) | (go_at_call 62; refine (refIsChar_any _ _).mono ?_; rintro e w2 ⟨rfl, rfl⟩; rw [HI.out]))
          go_roundw
          case rel => exact ⟨n + k, by omega, by go_num, by rw [HCC.out, List.drop_drop], HB.out.trans (hb.mono hsz)⟩
          case measure => simp [intOf]; omega
    · obtain rfl : n = l.length := by omega
      rw [List.drop_length] at hch
      have HCH := Lib.hid hch
      clear hch
      go_wp2
      go_ret2
      exact ⟨by rw [← HCH.out]; rfl, HB.out⟩
end Go.Proofs.YtadkgjbidhfefaaGreatDoor
