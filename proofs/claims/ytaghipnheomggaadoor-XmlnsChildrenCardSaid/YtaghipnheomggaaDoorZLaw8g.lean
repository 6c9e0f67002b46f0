/-
  Walk of chapter 8's statement Children.
-/
import Derived.Test.YtaghipnheomggaaDoorZKid8
import Derived.Test.YtaghipnheomggaaDoorG1
import Derived.Test.YtaghipnheomggaaDoorEqualT
import Derived.Test.YtaghipnheomggaaDoorWeight
import Derived.Deep.RegionHeld3
set_option linter.unusedVariables false
namespace Go.Proofs.YtaghipnheomggaaDoor
open Go.RowKit

theorem tooLarge_cases8 (n : Node) : (tooLarge n = 1) ∨ (tooLarge n = 0 ∧ full n ≤ 5000) := by
  unfold tooLarge
  by_cases h : 5000 < wgt n 0
  · exact .inl (if_pos h)
  · exact .inr ⟨if_neg h, small_of (by omega)⟩

set_option maxHeartbeats 4000000 in
set_option maxRecDepth 100000 in
theorem law8children_any (n : Node) (v : Value) (sp nm : Bytes) (w : World) (hT : Tabs w) (hf : Fit n) (hv : NodeV w w.heap.size n v) :
    Calls Tryd.prog 7 #[v, .string (S sp), .string (S nm)] w fun e w' => e = .returned (.bool true) ∧ Below w.heap.size w w' := by
  have htl := fun W => fun (hW : Below w.heap.size w W) => tooLarge_any n v W hf (hv.keep hW.block hW.size)
  have hal := fun W => fun (hW : Below w.heap.size w W) => alive8_any W (hT.next hW)
  have F1 : Hid (∀ o, Below w.heap.size w (w.alloc o)) := fun o => (Below.refl _ _).alloc (Nat.le_refl _) o
  rcases tooLarge_cases8 n with h | ⟨h, hs⟩
  · rw [h] at htl
    obtain ⟨A, cap, K, kcap, rfl, ha, hk, hcap, hkcap⟩ := hv.open_
    have HTL := Lib.hid htl
    have HAL := Lib.hid hal
    clear htl hal hv ha hk hT hf h
    go_enter Tryd.func7, Tryd.ntmps7
    go_wp2_with (first
      | (go_at_call 16; refine (HTL.out _ (F1.out _)).mono ?_; rintro e w1 ⟨rfl, hb1⟩; have hb1' := (F1.out _).trans (hb1.mono (show w.heap.size ≤ (w.alloc _).heap.size by simp)))
      | (go_at_call 9; refine (HAL.out _ hb1').mono ?_; rintro e w2 ⟨rfl, hb2⟩))
    go_ret
    exact ⟨rfl, hb1'.trans (hb2.mono hb1'.size)⟩
  · rw [h] at htl
    have hff := full_form n
    have hkl := fullL_len n.kids
    have hal' := attsF_len n.attrs
    have hch := fun W => fun (hW : Below w.heap.size w W) => children8_any n v sp nm W (hv.keep hW.block hW.size) (by omega)
    have hrc := fun W => fun (hW : Below w.heap.size w W) => refChildren8_any n v sp nm W (hv.keep hW.block hW.size) (by omega)
    have hat := fun W => fun (hW : Below w.heap.size w W) => attr8_any n v sp nm W (hv.keep hW.block hW.size) (by omega)
    have hra := fun W => fun (hW : Below w.heap.size w W) => refAttr8_any n v sp nm W (hv.keep hW.block hW.size) (by omega)
    have hkf : ∀ k ∈ pickK sp nm n.kids, Fit k := fun k hk => hf.form.2.2 k (List.mem_filter.1 hk).1
    have hL : (pickK sp nm n.kids).length ≤ 5000 := by
      have := List.length_filter_le (isKid sp nm) n.kids
      unfold pickK
      omega
    obtain ⟨A, cap, K, kcap, rfl, ha, hk, hcap, hkcap⟩ := hv.open_
    generalize pickK sp nm n.kids = L at *
    generalize findStr (findA sp nm n.attrs) = rs at *
    generalize findHas (findA sp nm n.attrs) = rb at *
    have HTL := Lib.hid htl
    have HAL := Lib.hid hal
    have HCH := Lib.hid hch
    have HRC := Lib.hid hrc
    have HAT := Lib.hid hat
    have HRA := Lib.hid hra
    have HKF := Lib.hid hkf
    clear htl hal hch hrc hat hra hkf hv ha hk hT hf h hs hff hkl hal'
    go_enter Tryd.func7, Tryd.ntmps7
    go_wp2_with (go_at_call 16; refine (HTL.out _ (F1.out _)).mono ?_; rintro e w1 ⟨rfl, hb1⟩; have hbx := (hb1.block w.heap.size (by simp)).trans (heap_alloc_new w (nodeBox n A cap K kcap)); have hb1' := (F1.out _).trans (hb1.mono (show w.heap.size ≤ (w.alloc _).heap.size by simp)))
    have HX := Lib.hid hbx
    have HB1 := Lib.hid hb1'
    have KEEP : Hid (∀ x, Below w1.heap.size w1 x → (x.cell? ⟨w.heap.size, 0, none⟩ = some (.int .i64 n.kind) ∧ x.cell? ⟨w.heap.size, 1, none⟩ = some (.string (S n.space)) ∧ x.cell? ⟨w.heap.size, 2, none⟩ = some (.string (S n.name)) ∧ x.cell? ⟨w.heap.size, 3, none⟩ = some (.slice A n.attrs.length cap) ∧ x.cell? ⟨w.heap.size, 4, none⟩ = some (.slice K n.kids.length kcap) ∧ x.cell? ⟨w.heap.size, 5, none⟩ = some (.string (S n.text)) ∧ x.cell? ⟨w.heap.size, 6, none⟩ = some (.int .i64 n.pos))) := fun x hx => cells7 ((hx.block _ (heap_lt HX.out)).trans HX.out)
    have CC : Hid (∀ W, Below w1.heap.size w1 W → Calls Tryd.prog 17 #[.agg #[.int .i64 n.kind, .string (S n.space), .string (S n.name), .slice A n.attrs.length cap, .slice K n.kids.length kcap, .string (S n.text), .int .i64 n.pos], .string (S sp), .string (S nm)] W fun e w' => KidRes W w' L e) := fun W hW => HCH.out W (HB1.out.trans (hW.mono HB1.out.size))
    have CR : Hid (∀ W, Below w1.heap.size w1 W → Calls Tryd.prog 18 #[.agg #[.int .i64 n.kind, .string (S n.space), .string (S n.name), .slice A n.attrs.length cap, .slice K n.kids.length kcap, .string (S n.text), .int .i64 n.pos], .string (S sp), .string (S nm)] W fun e w' => KidRes W w' L e) := fun W hW => HRC.out W (HB1.out.trans (hW.mono HB1.out.size))
    clear hb1 hbx hb1' HTL HCH HRC
    go_region_held3 (fun x => (x.cell? ⟨w.heap.size, 0, none⟩ = some (.int .i64 n.kind) ∧ x.cell? ⟨w.heap.size, 1, none⟩ = some (.string (S n.space)) ∧ x.cell? ⟨w.heap.size, 2, none⟩ = some (.string (S n.name)) ∧ x.cell? ⟨w.heap.size, 3, none⟩ = some (.slice A n.attrs.length cap) ∧ x.cell? ⟨w.heap.size, 4, none⟩ = some (.slice K n.kids.length kcap) ∧ x.cell? ⟨w.heap.size, 5, none⟩ = some (.string (S n.text)) ∧ x.cell? ⟨w.heap.size, 6, none⟩ = some (.int .i64 n.pos)))
      (first | exact KEEP.out _ (Below.refl _ _).drew | exact KEEP.out _ r4 | exact KEEP.out _ r5)
      (first
        | ((go_at_call 17; (with_reducible refine (CC.out _ (Below.refl _ _).drew).mono ?_); rintro e w4 ⟨⟨u4, rfl, hu4⟩, hb4⟩; obtain ⟨A4, c4, rfl, _⟩ := hu4.slice; have r4 := (Below.refl w1.heap.size w1).drew.trans hb4))
        | ((go_at_call 18; (with_reducible refine (CR.out _ r4).mono ?_); rintro e w5 ⟨⟨u5, rfl, hu5⟩, hb5⟩; obtain ⟨A5, c5, rfl, _⟩ := hu5.slice; have r5 := r4.trans (hb5.mono r4.size))))
    have HU4 := Lib.hid (hu4.keep hb5.block hb5.size)
    have HU5 := Lib.hid hu5
    have HB5 := Lib.hid (HB1.out.trans (r5.mono HB1.out.size))
    obtain ⟨k0, k1, k2, k3, k4, k5, k6⟩ := KEEP.out _ r5
    have HX5 := Lib.hid ((r5.block _ (heap_lt HX.out)).trans HX.out)
    clear hu4 hu5 hb4 hb5 r4 r5 KEEP CC CR HB1 HX
    go_wp2_with (first
      | (go_at_call 19; refine (HAT.out _ HB5.out).mono ?_; rintro e w6 ⟨rfl, hb6⟩; have X6 := (hb6.block _ (heap_lt HX5.out)).trans HX5.out; clear k0 k1 k2 k3 k4 k5 k6; obtain ⟨m0, m1, m2, m3, m4, m5, m6⟩ := cells7 X6; have B6 := HB5.out.trans (hb6.mono HB5.out.size))
      | (go_at_call 20; refine (HRA.out _ B6).mono ?_; rintro e w7 ⟨rfl, hb7⟩))
    have U4 := Lib.hid ((HU4.out.keep hb6.block hb6.size).keep hb7.block hb7.size)
    have U5 := Lib.hid ((HU5.out.keep hb6.block hb6.size).keep hb7.block hb7.size)
    have B7 := Lib.hid (B6.trans (hb7.mono B6.size))
    clear HU4 HU5 HB5 HX5 X6 B6 hb6 hb7 m0 m1 m2 m3 m4 m5 m6
    go_loopw [57] (fun i57 wr => ∃ i : Nat, i ≤ L.length ∧ i57 = .int .i64 i ∧ Below w7.heap.size w7 wr) (fun i57 _ => L.length - (intOf i57).toNat)
    case atStart => exact ⟨0, Nat.zero_le _, rfl, Below.refl _ _⟩
    case round =>
      obtain ⟨i, hi, rfl, hb⟩ := hrel
      have HB := Lib.hid hb
      clear hb
      by_cases hlt : i < L.length
      · have hi0 : (i : Int) < L.length := by omega
        have hfi := HKF.out _ (List.getElem_mem hlt)
        obtain ⟨b, off, cs, rfl, hbl, hr, hcs⟩ := U4.out.at_ hlt
        obtain ⟨b', off', cs', rfl, hbl', hr', hcs'⟩ := U5.out.at_ hlt
        have HR3 := Lib.hid (show wr.drew.rangeAt b (off + i * 7) cs from rangeAt_keep hr (HB.out.block b hbl))
        have HR4 := Lib.hid (show wr.drew.rangeAt b' (off' + i * 7) cs' from rangeAt_keep hr' (HB.out.block b' hbl'))
        have hnv : NodeV wr.drew wr.drew.heap.size L[i] (.agg cs.toArray) := NodeV.keep (w := w7) (B := w7.heap.size) ⟨cs, rfl, hcs⟩ HB.out.block HB.out.size
        have hmv : NodeV wr.drew wr.drew.heap.size L[i] (.agg cs'.toArray) := NodeV.keep (w := w7) (B := w7.heap.size) ⟨cs', rfl, hcs'⟩ HB.out.block HB.out.size
        have hcall := refEqual_any true L[i] L[i] _ _ wr.drew hnv hmv hfi hfi
        rw [eqv_refl8] at hcall
        obtain ⟨A1, c1, K1, d1, rfl, _, _, _, _⟩ := hcs.open_
        obtain ⟨A2, c2, K2, d2, rfl, _, _, _, _⟩ := hcs'.open_
        have HC := Lib.hid hcall
        clear hr hr' hcs hcs' hnv hmv hcall hfi
        generalize L[i] = k at *
        go_wp2_with fail
        go_still_tail 8, (by kernel_rfl)
        refine still_load_node rfl _ rfl b (off + i * 7) rfl _ rfl HR3.out ?_
        repeat still_step
        refine still_load_node rfl _ rfl b' (off' + i * 7) rfl _ rfl HR4.out ?_
        repeat still_step
        refine wpStill_nil ?_
        change wpList _ _ _ _ _ wr.drew
        go_wp2_with (go_at_call 15; refine HC.out.mono ?_; rintro e w' ⟨rfl, hb'⟩)
        go_roundw
        case rel => exact ⟨i + 1, by omega, by go_num, HB.out.trans ((below_undrew' hb').mono (show w7.heap.size ≤ wr.heap.size from HB.out.size))⟩
        case measure => simp [intOf]; omega
      · have hil : i = L.length := by omega
        subst hil
        have hlt' : ¬ ((L.length : Int) < L.length) := by omega
        have B8 := Lib.hid (B7.out.trans (HB.out.mono B7.out.size))
        clear hlt
        go_wp2_with (go_at_call 9; refine (HAL.out _ B8.out).mono ?_; rintro e w9 ⟨rfl, hb9⟩)
        go_ret
        exact ⟨rfl, B8.out.trans (hb9.mono B8.out.size)⟩
end Go.Proofs.YtaghipnheomggaaDoor
