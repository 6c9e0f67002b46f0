/-
  Walk of chapter 9: Check and Write (the program).
-/
import Derived.Test.YthilaolkkamedaaDoorWrite1
import Derived.Test.YthilaolkkamedaaDoorValid2
import Derived.Laws.EntriesVeiled
set_option linter.unusedVariables false
namespace Go.Proofs.YthilaolkkamedaaDoor
open Go.RowKit

def errOf (b : Bool) : Int := if b then 0 else 22
set_option maxHeartbeats 1000000 in
set_option maxRecDepth 100000 in
theorem check9_any (n : Node) (v : Value) (w : World) (hs : full n ≤ 1000000) (hT : Tabs w) (hv : NodeV w w.heap.size n v) :
    Calls Tryd.prog 11 #[v] w fun e w' => e = .returned (.int .i64 (errOf (vld true n 1))) ∧ Below w.heap.size w w' := by
  have hc := fun W => fun (hW : Below w.heap.size w W) => valid_any _ n v 1 W (Nat.le_refl _) hs (by omega) (hT.next hW) (hv.keep hW.block hW.size)
  have e1 : ((1 : Nat) : Int) = 1 := rfl
  rw [e1] at hc
  obtain ⟨A, cap, K, kcap, rfl, ha, hk, hcap, hkcap⟩ := hv.open_
  have HC := Lib.hid hc
  clear hc hv ha hk hs hT e1
  have F1 : Hid (∀ o, Below w.heap.size w (w.alloc o)) := fun o => (Below.refl _ _).alloc (Nat.le_refl _) o
  generalize vld true n 1 = E at *
  cases E
  · go_enter Tryd.func11, Tryd.ntmps11
    go_wp2_with (go_at_call 27; refine (HC.out _ (F1.out _)).mono ?_; rintro e w1 ⟨rfl, hb1⟩)
    go_ret
    exact ⟨rfl, (F1.out _).trans (hb1.mono (by simp))⟩
  · go_enter Tryd.func11, Tryd.ntmps11
    go_wp2_with (go_at_call 27; refine (HC.out _ (F1.out _)).mono ?_; rintro e w1 ⟨rfl, hb1⟩)
    go_ret
    exact ⟨rfl, (F1.out _).trans (hb1.mono (by simp))⟩

theorem wr_new (w : World) : Wr w.heap.size w.heap.size (w.heap.size + 1) [] ((w.alloc (.cells #[.pointer none, .slice none 0 0] 51)).alloc (.cells #[wFn w.heap.size (w.heap.size + 1)] 52)) := by
  refine ⟨(Bld.new w).alloc _, ?_, by omega, by simp; omega⟩
  have h := heap_alloc_new (w.alloc (.cells #[.pointer none, .slice none 0 0] 51)) (.cells #[wFn w.heap.size (w.heap.size + 1)] 52)
  simp only [World.size_alloc] at h
  exact h
theorem wr_cell0 (w : World) (z : Value) : ((w.alloc (.cells #[.pointer none, .slice none 0 0] 51)).alloc (.cells #[z] 52)).cell? ⟨w.heap.size + 1, 0, none⟩ = some z := by
  have h := heap_alloc_new (w.alloc (.cells #[.pointer none, .slice none 0 0] 51)) (.cells #[z] 52)
  simp only [World.size_alloc] at h
  rw [Lib.cell_of_heap h]; rfl
theorem wr_froz0 (w : World) (z : Value) : ((w.alloc (.cells #[.pointer none, .slice none 0 0] 51)).alloc (.cells #[z] 52)).frozen? ⟨w.heap.size + 1, 0, none⟩ = false := by
  have h := heap_alloc_new (w.alloc (.cells #[.pointer none, .slice none 0 0] 51)) (.cells #[z] 52)
  simp only [World.size_alloc] at h
  exact Lib.frozen_of_heap h 0
/-- What Write returns. -/
def outOf (n : Node) (b : Bool) : Bytes := if b then doc n else []
set_option maxHeartbeats 2000000 in
set_option maxRecDepth 100000 in
theorem write9_any (n : Node) (v : Value) (w : World) (hs : full n ≤ 1000000) (hc : (canon n).length ≤ 140737488355000) (hT : Tabs w) (hv : NodeV w w.heap.size n v) :
    Calls Tryd.prog 9 #[v] w fun e w' => e = .returned (.tuple #[.string (S (outOf n (vld true n 1))), .int .i64 (errOf (vld true n 1))]) ∧ Below w.heap.size w w' := by
  have hck := fun W => fun (hW : Below w.heap.size w W) => check9_any n v W hs (hT.next hW) (hv.keep hW.block hW.size)
  have hwr := fun W (B b cl : Nat) X => fun (h1 : Wr B b cl X W) (hW : Below w.heap.size w W) (hB : w.heap.size ≤ B) (h : (X ++ canon n).length ≤ 140737488355328) => write1_any _ n v B b cl X W (Nat.le_refl _) hs h1 (hv.keep hW.block hB) h
  obtain ⟨A, cap, K, kcap, rfl, ha, hk, hcap, hkcap⟩ := hv.open_
  have hhd : header.length = 39 := rfl
  have HC := Lib.hid hck
  have HW := Lib.hid hwr
  clear hck hwr hv ha hk hs hT
  have F1 : Hid (∀ o, Below w.heap.size w (w.alloc o)) := fun o => (Below.refl _ _).alloc (Nat.le_refl _) o
  generalize vld true n 1 = E at *
  cases E
  · go_enter Tryd.func9, Tryd.ntmps9
    go_wp2_with (go_at_call 11; refine (HC.out _ (F1.out _)).mono ?_; rintro e w1 ⟨rfl, hb1⟩)
    go_ret2
    exact ⟨rfl, (F1.out _).trans (hb1.mono (by simp))⟩
  · have hd : outOf n true = header ++ (canon n ++ [10]) := by show header ++ canon n ++ [10] = _; rw [List.append_assoc]
    rw [hd]
    clear hd
    generalize canon n = N at *
    go_enter Tryd.func9, Tryd.ntmps9
    have hmf : ∀ (fn : Fn) (first cap : Array Value) (w : World), (Instr.makeFunc fn first cap).run Tryd.prog w = .ok (.func fn first cap) w := fun _ _ _ _ => rfl
    go_wp2_with (first
      | (go_at_call 11; refine (HC.out _ (F1.out _)).mono ?_; rintro e w1 ⟨rfl, hb1⟩; have q1 := wr_cell0 w1 .nilFunc; have q2 := wr_froz0 w1 .nilFunc; have hbx := (hb1.block w.heap.size (by simp)).trans (heap_alloc_new w (nodeBox n A cap K kcap)); have hz1 : w.heap.size + 1 ≤ w1.heap.size := by simpa using hb1.size)
      | (go_at_call 21; refine (wr_str header (wr_new w1) (by rw [hhd]; decide)).mono ?_; rintro e w2 ⟨rfl, h2, f2⟩; have d2 := h2.cell; have fb : Below w1.heap.size w1 w2 := (((Below.refl _ w1).alloc (Nat.le_refl _) _).alloc (by simp) _).trans f2.below; have hbx2 := (fb.block w.heap.size (by omega)).trans hbx; obtain ⟨k0, k1, k2, k3, k4, k5, k6⟩ := box_cells hbx2; have hb2 := ((F1.out _).trans (hb1.mono (by simp))).trans (fb.mono (show w.heap.size ≤ w1.heap.size by omega)))
      | (go_at_call 20; refine (HW.out _ _ _ _ _ h2 hb2 (by omega) (by rw [List.nil_append, List.length_append, hhd]; omega)).mono ?_; rintro e w3 ⟨rfl, h3, f3⟩)
      | (go_at_call 24; refine (wr_byte 10 h3 (by omega) (by rw [List.nil_append, List.length_append, hhd]; omega)).mono ?_; rintro e w4 ⟨rfl, h4, f4⟩)
      | (go_at_call 25; refine (builderString_any _ _ _ _ h4.bld h4.le).mono ?_; rintro e w5 ⟨rfl, h5, f5, _⟩))
    go_ret2
    exact ⟨rfl, hb2.trans ((f3.below.trans (f4.below.trans f5)).mono (by omega))⟩
end Go.Proofs.YthilaolkkamedaaDoor
