/-
  Walks of chapter 12's statements: IsInjective.
-/
import Derived.Test.YtadkgjbidhfefaaDoorLaw12d
import Derived.Test.YtadkgjbidhfefaaDoorWei12
import Derived.Test.YtadkgjbidhfefaaDoorRefJC
import Derived.Test.YtadkgjbidhfefaaDoorEqJ2
import Derived.Test.YtadkgjbidhfefaaDoorInj12
set_option linter.unusedVariables false
namespace Go.Proofs.YtadkgjbidhfefaaDoor
open Go.RowKit

theorem bigJ_cases (v : JV) : bigJ v = 1 ∨ (bigJ v = 0 ∧ jful v ≤ 5000) := by
  unfold bigJ
  split
  · exact .inl rfl
  · exact .inr ⟨rfl, by have := jful_le v 0 (by omega); omega⟩
/-- Two parameters' boxes. -/
structure Box2 (w : World) (b : Nat) (x y : Obj) : Prop where
  one : w.heap[b]? = some x
  two : w.heap[b + 1]? = some y
theorem Box2.new (w : World) (x y : Obj) : Box2 ((w.alloc x).alloc y) w.heap.size x y :=
  ⟨(Below.heap_alloc _ _ _ (by simp)).trans (heap_alloc_new w x), by have := heap_alloc_new (w.alloc x) y; simpa using this⟩
theorem Box2.next {w w' : World} {b : Nat} {x y : Obj} (h : Box2 w b x y) (hb : Below w.heap.size w w') : Box2 w' b x y :=
  ⟨(hb.block _ (heap_lt h.one)).trans h.one, (hb.block _ (heap_lt h.two)).trans h.two⟩
theorem Box2.lt {w : World} {b : Nat} {x y : Obj} (h : Box2 w b x y) : b + 2 ≤ w.heap.size := heap_lt h.two
theorem Box2.cells {w : World} {b : Nat} {c0 c1 c2 c3 c4 c5 c6 d0 d1 d2 d3 d4 d5 d6 : Value} {t : TypeId} {fr : Nat × Nat} (h : Box2 w b (.cells #[c0, c1, c2, c3, c4, c5, c6] t fr) (.cells #[d0, d1, d2, d3, d4, d5, d6] t fr)) :
    (w.cell? ⟨b, 0, none⟩ = some c0 ∧ w.cell? ⟨b, 1, none⟩ = some c1 ∧ w.cell? ⟨b, 2, none⟩ = some c2 ∧ w.cell? ⟨b, 3, none⟩ = some c3 ∧ w.cell? ⟨b, 4, none⟩ = some c4 ∧ w.cell? ⟨b, 5, none⟩ = some c5 ∧ w.cell? ⟨b, 6, none⟩ = some c6) ∧
    (w.cell? ⟨b + 1, 0, none⟩ = some d0 ∧ w.cell? ⟨b + 1, 1, none⟩ = some d1 ∧ w.cell? ⟨b + 1, 2, none⟩ = some d2 ∧ w.cell? ⟨b + 1, 3, none⟩ = some d3 ∧ w.cell? ⟨b + 1, 4, none⟩ = some d4 ∧ w.cell? ⟨b + 1, 5, none⟩ = some d5 ∧ w.cell? ⟨b + 1, 6, none⟩ = some d6) :=
  ⟨cells7 h.one, cells7 h.two⟩

set_option maxHeartbeats 4000000 in
set_option maxRecDepth 100000 in
theorem law12injective_any (n m : JV) (v u : Value) (w : World) (hT : TabJ w) (hf : JFit n) (hg : JFit m) (hv : ValV w (· < w.heap.size) n v) (hu : ValV w (· < w.heap.size) m u) :
    Calls Tryd.prog 5 #[v, u] w fun e w' => e = .returned (.bool true) ∧ Below w.heap.size w w' := by
  have htl := fun W => fun (hW : Below w.heap.size w W) => tooLarge12_any n v W hf (hv.keep (fun k hk => hW.block k hk) (fun k hk => Nat.lt_of_lt_of_le hk hW.size))
  have htm := fun W => fun (hW : Below w.heap.size w W) => tooLarge12_any m u W hg (hu.keep (fun k hk => hW.block k hk) (fun k hk => Nat.lt_of_lt_of_le hk hW.size))
  have hal := fun W => fun (hW : Below w.heap.size w W) => alive12_any W (hT.next hW)
  have heq := fun W => fun (hW : Below w.heap.size w W) => refEqual11_any _ false n m v u W (Nat.le_refl _) hf hg (hv.keep (fun k hk => hW.block k hk) (fun k hk => Nat.lt_of_lt_of_le hk hW.size)) (hu.keep (fun k hk => hW.block k hk) (fun k hk => Nat.lt_of_lt_of_le hk hW.size))
  have HAL := Lib.hid hal
  rcases bigJ_cases n with h | ⟨h, hs⟩
  · rw [h] at htl
    obtain ⟨A, cap, K, kcap, rfl, ha, hk, hcap, hkcap⟩ := hv.open_
    obtain ⟨A2, cap2, K2, kcap2, rfl, ha2, hk2, hcap2, hkcap2⟩ := hu.open_
    have HTL := Lib.hid htl
    have F2 : Hid (∀ x y, Below w.heap.size w ((w.alloc x).alloc y)) := fun x y => ((Below.refl _ _).alloc (Nat.le_refl _) x).alloc (by simp) y
    clear htl htm hal heq hv hu ha hk ha2 hk2 hT hf hg h
    go_enter Tryd.func5, Tryd.ntmps5
    go_wp2_with (first
      | (go_at_call 12; refine (HTL.out _ (F2.out _ _)).mono ?_; rintro e w1 ⟨rfl, hb1⟩; have hb1' := (F2.out _ _).trans (hb1.mono (show w.heap.size ≤ ((w.alloc _).alloc _).heap.size by simp; omega)))
      | (go_at_call 13; refine (HAL.out _ hb1').mono ?_; rintro e w2 ⟨rfl, hb2⟩))
    go_ret
    exact ⟨rfl, hb1'.trans (hb2.mono hb1'.size)⟩
  rcases bigJ_cases m with h2 | ⟨h2, hs2⟩
  · rw [h] at htl
    rw [h2] at htm
    obtain ⟨A, cap, K, kcap, rfl, ha, hk, hcap, hkcap⟩ := hv.open_
    obtain ⟨A2, cap2, K2, kcap2, rfl, ha2, hk2, hcap2, hkcap2⟩ := hu.open_
    have HTL := Lib.hid htl
    have HTM := Lib.hid htm
    have F2 : Hid (∀ x y, Below w.heap.size w ((w.alloc x).alloc y)) := fun x y => ((Below.refl _ _).alloc (Nat.le_refl _) x).alloc (by simp) y
    have B0 := Lib.hid (Box2.new w (valBox n A cap K kcap) (valBox m A2 cap2 K2 kcap2))
    clear htl htm hal heq hv hu ha hk ha2 hk2 hT hf hg h h2 hs
    go_enter Tryd.func5, Tryd.ntmps5
    go_wp2_with fail
    refine (HTL.out _ (F2.out _ _)).mono ?_
    rintro e w1 ⟨rfl, hb1⟩
    have hb1' := (F2.out _ _).trans (hb1.mono (show w.heap.size ≤ ((w.alloc _).alloc _).heap.size by simp; omega))
    obtain ⟨⟨k0, k1, k2, k3, k4, k5, k6⟩, l0, l1, l2, l3, l4, l5, l6⟩ := (B0.out.next hb1).cells
    go_wp2_with fail
    refine (HTM.out _ hb1').mono ?_
    rintro e w2 ⟨rfl, hb2⟩
    have hb2' := hb1'.trans (hb2.mono hb1'.size)
    go_wp2_with (go_at_call 13; refine (HAL.out _ hb2').mono ?_; rintro e w3 ⟨rfl, hb3⟩)
    go_ret
    exact ⟨rfl, hb2'.trans (hb3.mono hb2'.size)⟩
  rw [h] at htl
  rw [h2] at htm
  have hwn := fun W => fun (hW : Below w.heap.size w W) => write12_any n v W (by omega) hf (hT.next hW) (hv.keep (fun k hk => hW.block k hk) (fun k hk => Nat.lt_of_lt_of_le hk hW.size))
  have hwm := fun W => fun (hW : Below w.heap.size w W) => write12_any m u W (by omega) hg (hT.next hW) (hu.keep (fun k hk => hW.block k hk) (fun k hk => Nat.lt_of_lt_of_le hk hW.size))
  have hcn := fun W => fun (hW : Below w.heap.size w W) => refCheck12_any n v W (by omega) (hv.keep (fun k hk => hW.block k hk) (fun k hk => Nat.lt_of_lt_of_le hk hW.size)) (hT.next hW)
  have hcm := fun W => fun (hW : Below w.heap.size w W) => refCheck12_any m u W (by omega) (hu.keep (fun k hk => hW.block k hk) (fun k hk => Nat.lt_of_lt_of_le hk hW.size)) (hT.next hW)
  have hdoc : jvd n 1 = true → jvd m 1 = true → (jtx n == jtx m) = jeq false n m := fun h1 h2 => by
    rw [jvd_eq, Bool.and_eq_true] at h1 h2; exact jtx_inj h1.1 h2.1
  obtain ⟨A, cap, K, kcap, rfl, ha, hk, hcap, hkcap⟩ := hv.open_
  obtain ⟨A2, cap2, K2, kcap2, rfl, ha2, hk2, hcap2, hkcap2⟩ := hu.open_
  have HTL := Lib.hid htl
  have HTM := Lib.hid htm
  have F2 : Hid (∀ x y, Below w.heap.size w ((w.alloc x).alloc y)) := fun x y => ((Below.refl _ _).alloc (Nat.le_refl _) x).alloc (by simp) y
  have B0 := Lib.hid (Box2.new w (valBox n A cap K kcap) (valBox m A2 cap2 K2 kcap2))
  clear htl htm hal hv hu ha hk ha2 hk2 hT hf hg h h2 hs hs2
  cases E : jvd n 1
  · rw [E] at hcn
    have HCN := Lib.hid hcn
    clear hcn hcm hwn hwm hdoc heq E
    go_enter Tryd.func5, Tryd.ntmps5
    go_wp2_with fail
    refine (HTL.out _ (F2.out _ _)).mono ?_
    rintro e w1 ⟨rfl, hb1⟩
    have hb1' := (F2.out _ _).trans (hb1.mono (show w.heap.size ≤ ((w.alloc _).alloc _).heap.size by simp; omega))
    have B1 := Lib.hid (B0.out.next hb1)
    obtain ⟨⟨k0, k1, k2, k3, k4, k5, k6⟩, l0, l1, l2, l3, l4, l5, l6⟩ := B1.out.cells
    go_wp2_with fail
    refine (HTM.out _ hb1').mono ?_
    rintro e w2 ⟨rfl, hb2⟩
    have hb2' := hb1'.trans (hb2.mono hb1'.size)
    have B2 := Lib.hid (B1.out.next hb2)
    clear k0 k1 k2 k3 k4 k5 k6 l0 l1 l2 l3 l4 l5 l6
    obtain ⟨⟨k0, k1, k2, k3, k4, k5, k6⟩, l0, l1, l2, l3, l4, l5, l6⟩ := B2.out.cells
    go_wp2_with fail
    refine (HCN.out _ hb2').mono ?_
    rintro e w3 ⟨rfl, hb3⟩
    have hb3' := hb2'.trans (hb3.mono hb2'.size)
    go_wp2_with (go_at_call 13; refine (HAL.out _ hb3').mono ?_; rintro e w4 ⟨rfl, hb4⟩)
    go_ret
    exact ⟨rfl, hb3'.trans (hb4.mono hb3'.size)⟩
  cases E2 : jvd m 1
  · rw [E] at hcn
    rw [E2] at hcm
    have HCN := Lib.hid hcn
    have HCM := Lib.hid hcm
    clear hcn hcm hwn hwm hdoc heq E E2
    go_enter Tryd.func5, Tryd.ntmps5
    go_wp2_with fail
    refine (HTL.out _ (F2.out _ _)).mono ?_
    rintro e w1 ⟨rfl, hb1⟩
    have hb1' := (F2.out _ _).trans (hb1.mono (show w.heap.size ≤ ((w.alloc _).alloc _).heap.size by simp; omega))
    have B1 := Lib.hid (B0.out.next hb1)
    obtain ⟨⟨k0, k1, k2, k3, k4, k5, k6⟩, l0, l1, l2, l3, l4, l5, l6⟩ := B1.out.cells
    go_wp2_with fail
    refine (HTM.out _ hb1').mono ?_
    rintro e w2 ⟨rfl, hb2⟩
    have hb2' := hb1'.trans (hb2.mono hb1'.size)
    have B2 := Lib.hid (B1.out.next hb2)
    clear k0 k1 k2 k3 k4 k5 k6 l0 l1 l2 l3 l4 l5 l6
    obtain ⟨⟨k0, k1, k2, k3, k4, k5, k6⟩, l0, l1, l2, l3, l4, l5, l6⟩ := B2.out.cells
    go_wp2_with fail
    refine (HCN.out _ hb2').mono ?_
    rintro e w3 ⟨rfl, hb3⟩
    have hb3' := hb2'.trans (hb3.mono hb2'.size)
    have B3 := Lib.hid (B2.out.next hb3)
    clear k0 k1 k2 k3 k4 k5 k6 l0 l1 l2 l3 l4 l5 l6
    obtain ⟨⟨k0, k1, k2, k3, k4, k5, k6⟩, l0, l1, l2, l3, l4, l5, l6⟩ := B3.out.cells
    go_wp2_with fail
    refine (HCM.out _ hb3').mono ?_
    rintro e w4 ⟨rfl, hb4⟩
    have hb4' := hb3'.trans (hb4.mono hb3'.size)
    go_wp2_with (go_at_call 13; refine (HAL.out _ hb4').mono ?_; rintro e w5 ⟨rfl, hb5⟩)
    go_ret
    exact ⟨rfl, hb4'.trans (hb5.mono hb4'.size)⟩
  have hxy := hdoc E E2
  rw [E] at hcn hwn
  rw [E2] at hcm hwm
  rw [show outJ n true = jtx n from rfl] at hwn
  rw [show outJ m true = jtx m from rfl] at hwm
  generalize jtx n = X at *
  generalize jtx m = Y at *
  generalize jeq false n m = q at *
  have HCN := Lib.hid hcn
  have HCM := Lib.hid hcm
  have HWN := Lib.hid hwn
  have HWM := Lib.hid hwm
  have HEQ := Lib.hid heq
  clear hcn hcm hwn hwm hdoc heq E E2
  go_enter Tryd.func5, Tryd.ntmps5
  go_wp2_with fail
  refine (HTL.out _ (F2.out _ _)).mono ?_
  rintro e w1 ⟨rfl, hb1⟩
  have hb1' := (F2.out _ _).trans (hb1.mono (show w.heap.size ≤ ((w.alloc _).alloc _).heap.size by simp; omega))
  have B1 := Lib.hid (B0.out.next hb1)
  obtain ⟨⟨k0, k1, k2, k3, k4, k5, k6⟩, l0, l1, l2, l3, l4, l5, l6⟩ := B1.out.cells
  go_wp2_with fail
  refine (HTM.out _ hb1').mono ?_
  rintro e w2 ⟨rfl, hb2⟩
  have hb2' := hb1'.trans (hb2.mono hb1'.size)
  have B2 := Lib.hid (B1.out.next hb2)
  clear k0 k1 k2 k3 k4 k5 k6 l0 l1 l2 l3 l4 l5 l6
  obtain ⟨⟨k0, k1, k2, k3, k4, k5, k6⟩, l0, l1, l2, l3, l4, l5, l6⟩ := B2.out.cells
  go_wp2_with fail
  refine (HCN.out _ hb2').mono ?_
  rintro e w3 ⟨rfl, hb3⟩
  have hb3' := hb2'.trans (hb3.mono hb2'.size)
  have B3 := Lib.hid (B2.out.next hb3)
  clear k0 k1 k2 k3 k4 k5 k6 l0 l1 l2 l3 l4 l5 l6
  obtain ⟨⟨k0, k1, k2, k3, k4, k5, k6⟩, l0, l1, l2, l3, l4, l5, l6⟩ := B3.out.cells
  go_wp2_with fail
  refine (HCM.out _ hb3').mono ?_
  rintro e w4 ⟨rfl, hb4⟩
  have hb4' := hb3'.trans (hb4.mono hb3'.size)
  have B4 := Lib.hid (B3.out.next hb4)
  clear k0 k1 k2 k3 k4 k5 k6 l0 l1 l2 l3 l4 l5 l6 hb1 hb2 hb3 hb1' hb2' hb3'
  obtain ⟨⟨k0, k1, k2, k3, k4, k5, k6⟩, l0, l1, l2, l3, l4, l5, l6⟩ := B4.out.cells
  go_wp2_with fail
  refine (HWN.out _ hb4').mono ?_
  rintro e w5 ⟨rfl, hb5⟩
  have hb5' := hb4'.trans (hb5.mono hb4'.size)
  have B5 := Lib.hid (B4.out.next hb5)
  clear k0 k1 k2 k3 k4 k5 k6 l0 l1 l2 l3 l4 l5 l6
  obtain ⟨⟨k0, k1, k2, k3, k4, k5, k6⟩, l0, l1, l2, l3, l4, l5, l6⟩ := B5.out.cells
  go_wp2_with fail
  refine (HWM.out _ hb5').mono ?_
  rintro e w6 ⟨rfl, hb6⟩
  have hb6' := hb5'.trans (hb6.mono hb5'.size)
  have B6 := Lib.hid (B5.out.next hb6)
  clear k0 k1 k2 k3 k4 k5 k6 l0 l1 l2 l3 l4 l5 l6
  go_wp2_with fail
  refine (HAL.out _ hb6').mono ?_
  rintro e w7 ⟨rfl, hb7⟩
  have hb7' := hb6'.trans (hb7.mono hb6'.size)
  have B7 := Lib.hid (B6.out.next hb7)
  obtain ⟨⟨k0, k1, k2, k3, k4, k5, k6⟩, l0, l1, l2, l3, l4, l5, l6⟩ := B7.out.cells
  go_wp2_with (go_at_call 20; refine (HEQ.out _ hb7').mono ?_; rintro e w8 ⟨rfl, hb8⟩)
  all_goals go_ret
  all_goals refine ⟨?_, hb7'.trans (hb8.mono hb7'.size)⟩
  all_goals first | rfl | (exact ret_bool (by simp [hxy]))
end Go.Proofs.YtadkgjbidhfefaaDoor
