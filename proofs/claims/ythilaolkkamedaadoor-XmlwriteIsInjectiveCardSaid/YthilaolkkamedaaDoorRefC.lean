/-
  Walks of chapter 9: the reference's Check and Write.
-/
import Derived.Test.YthilaolkkamedaaDoorRefV3
import Derived.Test.YthilaolkkamedaaDoorDepth
import Derived.Test.YthilaolkkamedaaDoorPlain9
import Derived.Test.YthilaolkkamedaaDoorWrite2
set_option linter.unusedVariables false
namespace Go.Proofs.YthilaolkkamedaaDoor
open Go.RowKit

set_option maxHeartbeats 2000000 in
set_option maxRecDepth 100000 in
theorem refCheck9_any (n : Node) (v : Value) (w : World) (hs : full n ≤ 1000000) (hv : NodeV w w.heap.size n v) :
    Calls Tryd.prog 18 #[v] w fun e w' => e = .returned (.int .i64 (errOf (vld true n 1))) ∧ Below w.heap.size w w' := by
  have hd := fun W => fun (hW : Below w.heap.size w W) => refDepth_any _ n v W (Nat.le_refl _) (by have := nsz_full n; omega) (hv.keep hW.block hW.size)
  have hval := fun W => fun (hW : Below w.heap.size w W) => refValid_any _ n v W (Nat.le_refl _) hs (hv.keep hW.block hW.size)
  rw [← refOk_eq, show refOk n = (n.kind == 0 && decide (depth n ≤ 100) && rvl n) from rfl]
  have hdf := depth_full n
  obtain ⟨A, cap, K, kcap, rfl, ha, hk, hcap, hkcap⟩ := hv.open_
  have HD := Lib.hid hd
  have HV := Lib.hid hval
  clear hd hval hv ha hk hs
  have F1 : Hid (∀ o, Below w.heap.size w (w.alloc o)) := fun o => (Below.refl _ _).alloc (Nat.le_refl _) o
  generalize depth n = D at *
  generalize rvl n = q at *
  cases t0 : (n.kind == 0)
  · have t1 : (n.kind != 0) = true := by rw [bne, t0]; rfl
    go_enter Tryd.func18, Tryd.ntmps18
    go_wp2_with fail
    go_ret
    exact ⟨rfl, F1.out _⟩
  · have t1 : (n.kind != 0) = false := by rw [bne, t0]; rfl
    by_cases h : D ≤ 100
    · have h' : (D : Int) ≤ 100 := by omega
      rw [show decide (D ≤ 100) = true from by simpa using h]
      cases q
      all_goals
        go_enter Tryd.func18, Tryd.ntmps18
        go_wp2_with (first
          | (go_at_call 28; refine (HD.out _ (F1.out _)).mono ?_; rintro e w1 ⟨rfl, hb1⟩; have hbx := (hb1.block w.heap.size (by simp)).trans (heap_alloc_new w (nodeBox n A cap K kcap)); obtain ⟨k0, k1, k2, k3, k4, k5, k6⟩ := box_cells hbx; have hb1' := (F1.out _).trans (hb1.mono (show w.heap.size ≤ (w.alloc _).heap.size by simp)))
          | (go_at_call 29; refine (HV.out _ hb1').mono ?_; rintro e w2 ⟨rfl, hb2⟩))
        go_ret
        exact ⟨rfl, hb1'.trans (hb2.mono hb1'.size)⟩
    · have h' : (100 : Int) < D := by omega
      rw [show decide (D ≤ 100) = false from by simpa using h]
      go_enter Tryd.func18, Tryd.ntmps18
      go_wp2_with (go_at_call 28; refine (HD.out _ (F1.out _)).mono ?_; rintro e w1 ⟨rfl, hb1⟩)
      go_ret
      exact ⟨rfl, (F1.out _).trans (hb1.mono (by simp))⟩

set_option maxHeartbeats 2000000 in
set_option maxRecDepth 100000 in
theorem refWrite9_any (n : Node) (v : Value) (w : World) (hs : full n ≤ 1000000) (hv : NodeV w w.heap.size n v) :
    Calls Tryd.prog 10 #[v] w fun e w' => e = .returned (.tuple #[.string (S (outOf n (vld true n 1))), .int .i64 (errOf (vld true n 1))]) ∧ Below w.heap.size w w' := by
  have hcl := canon_len n
  have hck := fun W => fun (hW : Below w.heap.size w W) => refCheck9_any n v W hs (hv.keep hW.block hW.size)
  have hnd := fun W => fun (hW : Below w.heap.size w W) => refNode_any _ n v W (Nat.le_refl _) hs (hv.keep hW.block hW.size) (by omega)
  have hcan : (canon n).length ≤ 6000000 := by omega
  obtain ⟨A, cap, K, kcap, rfl, ha, hk, hcap, hkcap⟩ := hv.open_
  have hhd : header.length = 39 := rfl
  have HC := Lib.hid hck
  have HN := Lib.hid hnd
  clear hck hnd hv ha hk hs hcl
  have F1 : Hid (∀ o, Below w.heap.size w (w.alloc o)) := fun o => (Below.refl _ _).alloc (Nat.le_refl _) o
  generalize vld true n 1 = E at *
  cases E
  · go_enter Tryd.func10, Tryd.ntmps10
    go_wp2_with (go_at_call 18; refine (HC.out _ (F1.out _)).mono ?_; rintro e w1 ⟨rfl, hb1⟩)
    go_ret2
    exact ⟨rfl, (F1.out _).trans (hb1.mono (by simp))⟩
  · have hd : outOf n true = header ++ canon n ++ [10] := rfl
    rw [hd]
    clear hd
    generalize canon n = N at *
    obtain ⟨L1, e1⟩ : ∃ L1 : Bytes, L1 = header ++ N := ⟨_, rfl⟩
    obtain ⟨L2, e2⟩ : ∃ L2 : Bytes, L2 = L1 ++ [10] := ⟨_, rfl⟩
    have g1 : ∀ W : World, (Op.stringOp .add ⟨header.toArray⟩ (S N)).run Tryd.prog W = .ok (.string (S L1)) W := run_cat header N L1 e1 (by rw [hhd]; omega)
    have g2 : ∀ W : World, (Op.stringOp .add (S L1) ⟨#[10]⟩).run Tryd.prog W = .ok (.string (S L2)) W := run_cat L1 [10] L2 e2 (by rw [e1]; simp only [List.length_append, List.length_cons, List.length_nil]; omega)
    unfold header at g1
    rw [← e1, ← e2]
    clear e1 e2 hhd
    go_enter Tryd.func10, Tryd.ntmps10
    go_wp2_with (first
      | (go_at_call 18; refine (HC.out _ (F1.out _)).mono ?_; rintro e w1 ⟨rfl, hb1⟩; have hbx := (hb1.block w.heap.size (by simp)).trans (heap_alloc_new w (nodeBox n A cap K kcap)); obtain ⟨k0, k1, k2, k3, k4, k5, k6⟩ := box_cells hbx; have hb1' := (F1.out _).trans (hb1.mono (show w.heap.size ≤ (w.alloc _).heap.size by simp)))
      | (go_at_call 26; refine (HN.out _ hb1').mono ?_; rintro e w2 ⟨rfl, hb2⟩))
    go_ret2
    exact ⟨rfl, hb1'.trans (hb2.mono hb1'.size)⟩
end Go.Proofs.YthilaolkkamedaaDoor
