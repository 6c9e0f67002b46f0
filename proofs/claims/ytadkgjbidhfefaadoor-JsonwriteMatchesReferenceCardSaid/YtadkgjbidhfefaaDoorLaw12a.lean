/-
  Walks of chapter 12's statements: MatchesReference.
-/
import Derived.Test.YtadkgjbidhfefaaDoorLaw12b
import Derived.Test.YtadkgjbidhfefaaDoorRefJ3
set_option linter.unusedVariables false
namespace Go.Proofs.YtadkgjbidhfefaaDoor
open Go.RowKit

set_option maxHeartbeats 4000000 in
set_option maxRecDepth 100000 in
theorem law12matches_any (n : JV) (v : Value) (w : World) (hT : TabJ w) (hf : JFit n) (hv : ValV w (· < w.heap.size) n v) :
    Calls Tryd.prog 3 #[v] w fun e w' => e = .returned (.bool true) ∧ Below w.heap.size w w' := by
  have htl := fun W => fun (hW : Below w.heap.size w W) => tooLarge12_any n v W hf (hv.keep (fun k hk => hW.block k hk) (fun k hk => Nat.lt_of_lt_of_le hk hW.size))
  have hal := fun W => fun (hW : Below w.heap.size w W) => alive12_any W (hT.next hW)
  have F1 : Hid (∀ o, Below w.heap.size w (w.alloc o)) := fun o => (Below.refl _ _).alloc (Nat.le_refl _) o
  rcases bigJ_cases n with h | ⟨h, hs⟩
  · rw [h] at htl
    obtain ⟨A, cap, K, kcap, rfl, ha, hk, hcap, hkcap⟩ := hv.open_
    have HTL := Lib.hid htl
    have HAL := Lib.hid hal
    clear htl hal hv ha hk hT hf h
    go_enter Tryd.func3, Tryd.ntmps3
    go_wp2_with (first
      | (go_at_call 12; refine (HTL.out _ (F1.out _)).mono ?_; rintro e w1 ⟨rfl, hb1⟩; have hb1' := (F1.out _).trans (hb1.mono (show w.heap.size ≤ (w.alloc _).heap.size by simp)))
      | (go_at_call 13; refine (HAL.out _ hb1').mono ?_; rintro e w2 ⟨rfl, hb2⟩))
    go_ret
    exact ⟨rfl, hb1'.trans (hb2.mono hb1'.size)⟩
  · rw [h] at htl
    have hwr := fun W => fun (hW : Below w.heap.size w W) => write12_any n v W (by omega) hf (hT.next hW) (hv.keep (fun k hk => hW.block k hk) (fun k hk => Nat.lt_of_lt_of_le hk hW.size))
    have hrw := fun W => fun (hW : Below w.heap.size w W) => refWrite12_any n v W (by omega) hf (hT.next hW) (hv.keep (fun k hk => hW.block k hk) (fun k hk => Nat.lt_of_lt_of_le hk hW.size))
    have hck := fun W => fun (hW : Below w.heap.size w W) => check12_any n v W (by omega) (hT.next hW) (hv.keep (fun k hk => hW.block k hk) (fun k hk => Nat.lt_of_lt_of_le hk hW.size))
    obtain ⟨A, cap, K, kcap, rfl, ha, hk, hcap, hkcap⟩ := hv.open_
    generalize jvd n 1 = E at *
    generalize outJ n E = O at *
    generalize errJ E = R at *
    have HTL := Lib.hid htl
    have HAL := Lib.hid hal
    have HWR := Lib.hid hwr
    have HRW := Lib.hid hrw
    have HCK := Lib.hid hck
    clear htl hal hwr hrw hck hv ha hk hT hf h hs
    go_enter Tryd.func3, Tryd.ntmps3
    go_wp2_with (first
      | (go_at_call 12; refine (HTL.out _ (F1.out _)).mono ?_; rintro e w1 ⟨rfl, hb1⟩; have hbx := (hb1.block w.heap.size (by simp)).trans (heap_alloc_new w (valBox n A cap K kcap)); obtain ⟨k0, k1, k2, k3, k4, k5, k6⟩ := cells7 hbx; have hb1' := (F1.out _).trans (hb1.mono (show w.heap.size ≤ (w.alloc _).heap.size by simp)))
      | (go_at_call 14; refine (HWR.out _ hb1').mono ?_; rintro e w2 ⟨rfl, hb2⟩; have hbx2 := (hb2.block w.heap.size (heap_lt hbx)).trans hbx; clear k0 k1 k2 k3 k4 k5 k6; obtain ⟨m0, m1, m2, m3, m4, m5, m6⟩ := cells7 hbx2; have hb2' := hb1'.trans (hb2.mono hb1'.size))
      | (go_at_call 15; refine (HRW.out _ hb2').mono ?_; rintro e w3 ⟨rfl, hb3⟩; have hbx3 := (hb3.block w.heap.size (heap_lt hbx2)).trans hbx2; clear m0 m1 m2 m3 m4 m5 m6; have hb3' := hb2'.trans (hb3.mono hb2'.size))
      | (go_at_call 13; refine (HAL.out _ hb3').mono ?_; rintro e w4 ⟨rfl, hb4⟩; have hbx4 := (hb4.block w.heap.size (heap_lt hbx3)).trans hbx3; obtain ⟨n0, n1, n2, n3, n4, n5, n6⟩ := cells7 hbx4; have hb4' := hb3'.trans (hb4.mono hb3'.size))
      | (go_at_call 16; refine (HCK.out _ hb4').mono ?_; rintro e w5 ⟨rfl, hb5⟩))
    go_ret
    exact ⟨rfl, hb4'.trans (hb5.mono hb4'.size)⟩
end Go.Proofs.YtadkgjbidhfefaaDoor
