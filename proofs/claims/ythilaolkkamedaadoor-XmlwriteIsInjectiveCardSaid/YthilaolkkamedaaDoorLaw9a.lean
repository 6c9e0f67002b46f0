/-
  Walks of chapter 9's statements: MatchesReference, IsInjective.
-/
import Derived.Test.YthilaolkkamedaaDoorAlive9
import Derived.Test.YthilaolkkamedaaDoorRefC
import Derived.Test.YthilaolkkamedaaDoorWeight
import Derived.Test.YthilaolkkamedaaDoorEqualF
set_option linter.unusedVariables false
namespace Go.Proofs.YthilaolkkamedaaDoor
open Go.RowKit

theorem tooLarge_cases (n : Node) : (tooLarge n = 1) ∨ (tooLarge n = 0 ∧ full n ≤ 5000) := by
  unfold tooLarge
  by_cases h : 5000 < wgt n 0
  · exact .inl (if_pos h)
  · exact .inr ⟨if_neg h, small_of (by omega)⟩

set_option maxHeartbeats 4000000 in
set_option maxRecDepth 100000 in
theorem law9matches_any (n : Node) (v : Value) (w : World) (hT : Tabs w) (hf : Fit n) (hv : NodeV w w.heap.size n v) :
    Calls Tryd.prog 3 #[v] w fun e w' => e = .returned (.bool true) ∧ Below w.heap.size w w' := by
  have htl := fun W => fun (hW : Below w.heap.size w W) => tooLarge_any n v W hf (hv.keep hW.block hW.size)
  have hal := fun W => fun (hW : Below w.heap.size w W) => alive9_any W (hT.next hW)
  have F1 : Hid (∀ o, Below w.heap.size w (w.alloc o)) := fun o => (Below.refl _ _).alloc (Nat.le_refl _) o
  rcases tooLarge_cases n with h | ⟨h, hs⟩
  · rw [h] at htl
    obtain ⟨A, cap, K, kcap, rfl, ha, hk, hcap, hkcap⟩ := hv.open_
    have HTL := Lib.hid htl
    have HAL := Lib.hid hal
    clear htl hal hv ha hk hT hf h
    go_enter Tryd.func3, Tryd.ntmps3
    go_wp2_with (first
      | (go_at_call 7; refine (HTL.out _ (F1.out _)).mono ?_; rintro e w1 ⟨rfl, hb1⟩; have hb1' := (F1.out _).trans (hb1.mono (show w.heap.size ≤ (w.alloc _).heap.size by simp)))
      | (go_at_call 8; refine (HAL.out _ hb1').mono ?_; rintro e w2 ⟨rfl, hb2⟩))
    go_ret
    exact ⟨rfl, hb1'.trans (hb2.mono hb1'.size)⟩
  · rw [h] at htl
    have hcl := canon_len n
    have hwr := fun W => fun (hW : Below w.heap.size w W) => write9_any n v W (by omega) (by omega) (hT.next hW) (hv.keep hW.block hW.size)
    have hrw := fun W => fun (hW : Below w.heap.size w W) => refWrite9_any n v W (by omega) (hv.keep hW.block hW.size)
    have hck := fun W => fun (hW : Below w.heap.size w W) => check9_any n v W (by omega) (hT.next hW) (hv.keep hW.block hW.size)
    obtain ⟨A, cap, K, kcap, rfl, ha, hk, hcap, hkcap⟩ := hv.open_
    generalize vld true n 1 = E at *
    generalize outOf n E = O at *
    generalize errOf E = R at *
    have HTL := Lib.hid htl
    have HAL := Lib.hid hal
    have HWR := Lib.hid hwr
    have HRW := Lib.hid hrw
    have HCK := Lib.hid hck
    clear htl hal hwr hrw hck hv ha hk hT hf h hcl hs
    go_enter Tryd.func3, Tryd.ntmps3
    go_wp2_with (first
      | (go_at_call 7; refine (HTL.out _ (F1.out _)).mono ?_; rintro e w1 ⟨rfl, hb1⟩; have hbx := (hb1.block w.heap.size (by simp)).trans (heap_alloc_new w (nodeBox n A cap K kcap)); obtain ⟨k0, k1, k2, k3, k4, k5, k6⟩ := cells7 hbx; have hb1' := (F1.out _).trans (hb1.mono (show w.heap.size ≤ (w.alloc _).heap.size by simp)))
      | (go_at_call 9; refine (HWR.out _ hb1').mono ?_; rintro e w2 ⟨rfl, hb2⟩; have hbx2 := (hb2.block w.heap.size (heap_lt hbx)).trans hbx; clear k0 k1 k2 k3 k4 k5 k6; obtain ⟨m0, m1, m2, m3, m4, m5, m6⟩ := cells7 hbx2; have hb2' := hb1'.trans (hb2.mono hb1'.size))
      | (go_at_call 10; refine (HRW.out _ hb2').mono ?_; rintro e w3 ⟨rfl, hb3⟩; have hbx3 := (hb3.block w.heap.size (heap_lt hbx2)).trans hbx2; clear m0 m1 m2 m3 m4 m5 m6; have hb3' := hb2'.trans (hb3.mono hb2'.size))
      | (go_at_call 8; refine (HAL.out _ hb3').mono ?_; rintro e w4 ⟨rfl, hb4⟩; have hbx4 := (hb4.block w.heap.size (heap_lt hbx3)).trans hbx3; obtain ⟨n0, n1, n2, n3, n4, n5, n6⟩ := cells7 hbx4; have hb4' := hb3'.trans (hb4.mono hb3'.size))
      | (go_at_call 11; refine (HCK.out _ hb4').mono ?_; rintro e w5 ⟨rfl, hb5⟩))
    go_ret
    exact ⟨rfl, hb4'.trans (hb5.mono hb4'.size)⟩
end Go.Proofs.YthilaolkkamedaaDoor
