/-
  Walks of chapter 12, the reference: Check.
-/
import Derived.Test.YthlppbpccldikaaGreatDoorH14
import Derived.Test.YthlppbpccldikaaGreatDoorZJwr3
set_option linter.unusedVariables false
namespace Go.Proofs.YthlppbpccldikaaGreatDoor
open Go.RowKit

set_option maxHeartbeats 2000000 in
set_option maxRecDepth 100000 in
theorem refCheck12_any (v : JV) (u : Value) (w : World) (hf : jful v ≤ 1000000) (hv : ValV w (· < w.heap.size) v u) (hT : TabJ w) :
    Calls Tryz.prog 14 #[u] w fun e w' => e = .returned (.int .i64 (errJ (jvd v 1))) ∧ Below w.heap.size w w' := by
  have keep := fun W => fun (hW : Below w.heap.size w W) => hv.keep (p' := (· < W.heap.size)) (fun k hk => hW.block k hk) (fun k hk => Nat.lt_of_lt_of_le hk hW.size)
  have hd := fun W => fun (hW : Below w.heap.size w W) => refDepth11_any _ v u W (Nat.le_refl _) hf (keep W hW)
  have hval := fun W => fun (hW : Below w.heap.size w W) => refValid12_any _ v u W (Nat.le_refl _) hf (keep W hW)
  have hdl := jdep_le v
  have e0 : jvd v 1 = (jrv v && decide (jdep v ≤ 100)) := by rw [jvd_eq]; congr 1; simp
  rw [e0]
  obtain ⟨IA, ic, MA, mc, rfl, hi, hm, hic, hmc⟩ := hv.open_
  have HD := Lib.hid hd
  have HV := Lib.hid hval
  have hX := Lib.hid (heap_alloc_new w (valBox v IA ic MA mc))
  have F1 : Hid (∀ o, Below w.heap.size w (w.alloc o)) := fun o => (Below.refl _ _).alloc (Nat.le_refl _) o
  clear hd hval hv hi hm keep e0
  generalize jdep v = D at *
  generalize jrv v = q at *
  cases q
  · rw [Bool.false_and]
    go_enter Tryz.func14, Tryz.ntmps14
    go_wp2_with (go_at_call 28; refine (HV.out _ (F1.out _)).mono ?_; rintro e w1 ⟨rfl, hb1⟩)
    go_ret
    exact ⟨rfl, (F1.out _).trans (hb1.mono (by simp))⟩
  · rw [Bool.true_and]
    by_cases h : D ≤ 100
    · have h' : ¬ (100 : Int) < D := by omega
      rw [decide_eq_true h]
      go_enter Tryz.func14, Tryz.ntmps14
      go_wp2_with (first
        | (go_at_call 28; refine (HV.out _ (F1.out _)).mono ?_; rintro e w1 ⟨rfl, hb1⟩; have hbx := (hb1.block w.heap.size (by simp)).trans hX.out; obtain ⟨k0, k1, k2, k3, k4, k5, k6⟩ := jbox_cells hbx; have hb1' := (F1.out _).trans (hb1.mono (show w.heap.size ≤ (w.alloc _).heap.size by simp)))
        | (go_at_call 11; refine (HD.out _ hb1').mono ?_; rintro e w2 ⟨rfl, hb2⟩))
      go_ret
      exact ⟨rfl, hb1'.trans (hb2.mono hb1'.size)⟩
    · have h' : (100 : Int) < D := by omega
      rw [decide_eq_false h]
      go_enter Tryz.func14, Tryz.ntmps14
      go_wp2_with (first
        | (go_at_call 28; refine (HV.out _ (F1.out _)).mono ?_; rintro e w1 ⟨rfl, hb1⟩; have hbx := (hb1.block w.heap.size (by simp)).trans hX.out; obtain ⟨k0, k1, k2, k3, k4, k5, k6⟩ := jbox_cells hbx; have hb1' := (F1.out _).trans (hb1.mono (show w.heap.size ≤ (w.alloc _).heap.size by simp)))
        | (go_at_call 11; refine (HD.out _ hb1').mono ?_; rintro e w2 ⟨rfl, hb2⟩))
      go_ret
      exact ⟨rfl, hb1'.trans (hb2.mono hb1'.size)⟩
end Go.Proofs.YthlppbpccldikaaGreatDoor
