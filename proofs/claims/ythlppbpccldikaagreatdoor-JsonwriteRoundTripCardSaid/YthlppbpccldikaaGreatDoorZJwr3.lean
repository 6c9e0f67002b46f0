/-
  Walks of chapter 12: writing (the program): value, Check, Write.
-/
import Derived.Test.YthlppbpccldikaaGreatDoorZJwr2
import Derived.Test.YthlppbpccldikaaGreatDoorH12
import Derived.Laws.EntriesVeiled
set_option linter.unusedVariables false
namespace Go.Proofs.YthlppbpccldikaaGreatDoor
open Go.RowKit

theorem jrvM_all : ∀ {l : List JM} {q : List Bytes}, jrvM q l = true → ∀ m ∈ l, jrv m.val = true ∧ utf8J m.key = true
  | .mk k v p :: l, q, h, m, hm => by
    rw [jrvM] at h
    simp only [Bool.and_eq_true] at h
    rcases List.mem_cons.1 hm with rfl | hm
    · exact ⟨h.1.1.1, h.1.1.2⟩
    · exact jrvM_all h.2 m hm
theorem jrvL_all : ∀ {l : List JV}, jrvL l = true → ∀ v ∈ l, jrv v = true
  | v :: l, h, x, hx => by
    rw [jrvL, Bool.and_eq_true] at h
    rcases List.mem_cons.1 hx with rfl | hx
    · exact h.1
    · exact jrvL_all h.2 x hx
theorem formatInt_any (n : Int) (h0 : -9223372036854775808 ≤ n) (h1 : n ≤ 9223372036854775807) (w : World) (hT : TabJ w) :
    Calls Tryz.prog 65 #[.int .i64 n, .int .i64 10] w fun e w' => e = .returned (.string (S (Lib.itoa n))) ∧ Below w.heap.size w w' := by
  refine (Tryz.strconv_FormatInt_10 n h0 h1 w hT.pow).mono ?_
  rintro e w' ⟨rfl, k, os, rfl⟩
  exact ⟨rfl, Lib.below_grow _ _ (Nat.le_refl _) k os⟩
theorem formatBool_any (b : Bool) (w : World) :
    Calls Tryz.prog 64 #[.bool b] w fun e w' => e = .returned (.string (S (if b = true then [116, 114, 117, 101] else [102, 97, 108, 115, 101]))) ∧ Below w.heap.size w w' := by
  refine (Tryz.strconv_FormatBool b w).mono ?_
  rintro e w' ⟨rfl, rfl⟩
  exact ⟨by cases b <;> rfl, Below.refl _ _⟩
set_option maxHeartbeats 4000000 in
set_option maxRecDepth 100000 in
theorem value12_any (s : Nat) : ∀ v : JV, jsz v ≤ s → VW v := by
  induction s with
  | zero => intro v h; have := jsz_pos v; omega
  | succ s ih =>
    intro v hs u B b X w w0 hf hfit hv hw hva hl
    have hfm := jful_form v
    have hff := hfit.form
    have hok := jrv_ok hv
    have hjo := jhOk_form hok.1
    have hi1 : ∀ x ∈ v.items, VW x := fun x hx => ih x (by have := jsz_item hx; omega)
    have hm1 : ∀ x ∈ v.mems, MW x := fun x hx => member12_any x (ih x.val (by have := jsz_mem hx; omega))
    obtain ⟨IA, ic, MA, mc, rfl, hi, hm, hic, hmc⟩ := hva.open_
    have hle := hw.le
    have hblt : b < w.heap.size := hw.bld.lt
    have hX0 := heap_alloc_new w (valBox v IA ic MA mc)
    have HWA := Lib.hid (hw.alloc (valBox v IA ic MA mc))
    have F0 := Lib.hid ((W12.Fr.refl B b w).alloc hle (valBox v IA ic MA mc))
    obtain ⟨E, hE⟩ : ∃ E, jtx v = E := ⟨_, rfl⟩
    rw [hE] at hl ⊢
    rw [jtx_form] at hE
    have hkk : v.kind = 0 ∨ v.kind = 1 ∨ v.kind = 2 ∨ v.kind = 3 ∨ v.kind = 4 ∨ v.kind = 5 := by omega
    rcases hkk with h | h | h | h | h | h
    · -- null
      have t1 : (v.kind == 1) = false := by rw [h]; rfl
      have t2 : (v.kind == 2) = false := by rw [h]; rfl
      have t3 : (v.kind == 3) = false := by rw [h]; rfl
      have t4 : (v.kind == 4) = false := by rw [h]; rfl
      have t5 : (v.kind == 5) = false := by rw [h]; rfl
      rw [h] at hE
      simp at hE
      subst hE
      have hst := ws_str [110, 117, 108, 108] HWA.out hl
      have HST := Lib.hid hst
      clear hst hi1 hm1 hi hm hva hfit hff hok hjo hv ih hw h
      go_enter Tryz.func37, Tryz.ntmps37
      go_wp2_with (go_at_call 63; refine HST.out.mono ?_; rintro e w1 ⟨rfl, h1, f1⟩)
      go_end0
      exact ⟨rfl, h1, F0.out.trans f1⟩
    · -- Boolean
      have t1 : (v.kind == 1) = true := by rw [h]; rfl
      rw [h] at hE
      simp only [if_true] at hE
      have hfb := fun W => formatBool_any v.b W
      rw [hE] at hfb
      have hc1 : (w.alloc (valBox v IA ic MA mc)).cell? ⟨w.heap.size, 1, none⟩ = some (.bool v.b) := (jbox_cells hX0).2.1
      have hst := fun (W : World) (hW : Below (w.heap.size + 1) (w.alloc (valBox v IA ic MA mc)).drew W) => ws_str E (HWA.out.drew.next (w' := W) (by simpa using hW)) hl
      have HST := Lib.hid hst
      have HFB := Lib.hid hfb
      have hz : (w.alloc (valBox v IA ic MA mc)).drew.heap.size = w.heap.size + 1 := by simp
      have HX0 := Lib.hid (show (w.alloc (valBox v IA ic MA mc)).drew.heap[w.heap.size]? = some (valBox v IA ic MA mc) from hX0)
      clear hst hfb hi1 hm1 hi hm hva hfit hff hok hjo hv ih hw hX0 h hE
      go_enter Tryz.func37, Tryz.ntmps37
      go_wp2_with fail
      go_region_held3 (fun x => x.cell? ⟨w.heap.size, 1, none⟩ = some (.bool v.b)) (first | exact hc1 | exact hc2 | exact hc3)
        (first
          | ((go_at_call 64; refine (HFB.out _).mono ?_; rintro e w1 ⟨rfl, hb1⟩; have hc2 := (hb1.cell (p := ⟨w.heap.size, 1, none⟩) (by rw [hz]; simp)).trans hc1))
          | ((go_at_call 63; refine (HST.out _ (by rw [← hz]; exact hb1)).mono ?_; rintro e w2 ⟨rfl, h2, f2⟩; have hc3 : w2.cell? ⟨w.heap.size, 1, none⟩ = some (.bool v.b) := (jbox_cells (f2.block (k := w.heap.size) (by omega) neU8V ((hb1.block _ (by rw [hz]; omega)).trans HX0.out))).2.1)))
      go_wp2_with fail
      go_end0
      exact ⟨rfl, h2, (F0.out.drew.next (by simp; omega) hb1).trans f2⟩
    · -- number
      have t1 : (v.kind == 1) = false := by rw [h]; rfl
      have t2 : (v.kind == 2) = true := by rw [h]; rfl
      rw [h] at hE
      simp at hE
      have hfi := fun (W : World) (hW : TabJ W) => formatInt_any v.n hff.1.2.2.1 hff.1.2.2.2 W hW
      rw [hE] at hfi
      have hc1 : (w.alloc (valBox v IA ic MA mc)).cell? ⟨w.heap.size, 2, none⟩ = some (.int .i64 v.n) := (jbox_cells hX0).2.2.1
      have hst := fun (W : World) (hW : Below (w.heap.size + 1) (w.alloc (valBox v IA ic MA mc)).drew W) => ws_str E (HWA.out.drew.next (w' := W) (by simpa using hW)) hl
      have HST := Lib.hid hst
      have HFB := Lib.hid (hfi _ HWA.out.drew.tabs)
      have hz : (w.alloc (valBox v IA ic MA mc)).drew.heap.size = w.heap.size + 1 := by simp
      have HX0 := Lib.hid (show (w.alloc (valBox v IA ic MA mc)).drew.heap[w.heap.size]? = some (valBox v IA ic MA mc) from hX0)
      clear hst hfi hi1 hm1 hi hm hva hfit hff hok hjo hv ih hw hX0 h hE
      go_enter Tryz.func37, Tryz.ntmps37
      go_wp2_with fail
      go_region_held3 (fun x => x.cell? ⟨w.heap.size, 2, none⟩ = some (.int .i64 v.n)) (first | exact hc1 | exact hc2 | exact hc3)
        (first
          | ((go_at_call 65; refine HFB.out.mono ?_; rintro e w1 ⟨rfl, hb1⟩; have hc2 := (hb1.cell (p := ⟨w.heap.size, 2, none⟩) (by rw [hz]; simp)).trans hc1))
          | ((go_at_call 63; refine (HST.out _ (by rw [← hz]; exact hb1)).mono ?_; rintro e w2 ⟨rfl, h2, f2⟩; have hc3 : w2.cell? ⟨w.heap.size, 2, none⟩ = some (.int .i64 v.n) := (jbox_cells (f2.block (k := w.heap.size) (by omega) neU8V ((hb1.block _ (by rw [hz]; omega)).trans HX0.out))).2.2.1)))
      go_wp2_with fail
      go_end0
      exact ⟨rfl, h2, (F0.out.drew.next (by simp; omega) hb1).trans f2⟩
    · -- string
      have t1 : (v.kind == 1) = false := by rw [h]; rfl
      have t2 : (v.kind == 2) = false := by rw [h]; rfl
      have t3 : (v.kind == 3) = true := by rw [h]; rfl
      rw [h] at hE
      simp at hE
      subst hE
      have hst := str12_any v.s _ HWA.out hjo.2.2.2.2.2.2.2 (by omega) hl
      have HST := Lib.hid hst
      clear hst hi1 hm1 hi hm hva hfit hff hok hjo hv ih hw h
      go_enter Tryz.func37, Tryz.ntmps37
      go_wp2_with (go_at_call 66; refine HST.out.mono ?_; rintro e w1 ⟨rfl, h1, f1⟩)
      go_end0
      exact ⟨rfl, h1, F0.out.trans f1⟩
    · -- array
      have t1 : (v.kind == 1) = false := by rw [h]; rfl
      have t2 : (v.kind == 2) = false := by rw [h]; rfl
      have t3 : (v.kind == 3) = false := by rw [h]; rfl
      have t4 : (v.kind == 4) = true := by rw [h]; rfl
      rw [h] at hE
      simp at hE
      subst hE
      have hil := jfulL_len v.items
      have hst := joinV_any v.items hi1 IA v.items.length ic B b X _ w0 (fun x hx => ⟨by have := jfulL_mem hx; omega, hff.2.1 x hx, jrvL_all hok.2.1 x hx⟩) (by omega) HWA.out (hi.keep valE_ok (fun k hk => Below.heap_alloc _ _ _ (Nat.lt_of_lt_of_le hk hle)) (fun _ h => h)) (by simp only [List.length_cons, List.length_append, List.length_nil] at hl; omega)
      have HST := Lib.hid hst
      have hmf : ∀ (fn : Fn) (first cap : Array Value) (w : World), (Instr.makeFunc fn first cap).run Tryz.prog w = .ok (.func fn first cap) w := fun _ _ _ _ => rfl
      clear hst hi1 hm1 hi hm hva hfit hff hok hjo hv ih hw h
      go_enter Tryz.func37, Tryz.ntmps37
      go_wp2_with (go_at_call 67; refine HST.out.mono ?_; rintro e w1 ⟨rfl, h1, f1⟩)
      go_end0
      exact ⟨rfl, h1, F0.out.trans f1⟩
    · -- object
      have t1 : (v.kind == 1) = false := by rw [h]; rfl
      have t2 : (v.kind == 2) = false := by rw [h]; rfl
      have t3 : (v.kind == 3) = false := by rw [h]; rfl
      have t4 : (v.kind == 4) = false := by rw [h]; rfl
      have t5 : (v.kind == 5) = true := by rw [h]; rfl
      rw [h] at hE
      simp at hE
      subst hE
      have hil := jfulM_len v.mems
      have hst := joinM_any v.mems hm1 MA v.mems.length mc B b X _ w0 (fun x hx => ⟨⟨by have := jfulM_mem hx; omega, hff.2.2 x hx⟩, (jrvM_all hok.2.2 x hx).1, (jrvM_all hok.2.2 x hx).2⟩) (by omega) HWA.out (hm.keep memE_ok (fun k hk => Below.heap_alloc _ _ _ (Nat.lt_of_lt_of_le hk hle)) (fun _ h => h)) (by simp only [List.length_cons, List.length_append, List.length_nil] at hl; omega)
      have HST := Lib.hid hst
      have hmf : ∀ (fn : Fn) (first cap : Array Value) (w : World), (Instr.makeFunc fn first cap).run Tryz.prog w = .ok (.func fn first cap) w := fun _ _ _ _ => rfl
      clear hst hi1 hm1 hi hm hva hfit hff hok hjo hv ih hw h
      go_enter Tryz.func37, Tryz.ntmps37
      go_wp2_with (go_at_call 68; refine HST.out.mono ?_; rintro e w1 ⟨rfl, h1, f1⟩)
      go_end0
      exact ⟨rfl, h1, F0.out.trans f1⟩

/-- The error of Check. -/
def errJ (b : Bool) : Int := if b = true then 0 else 22
set_option maxHeartbeats 1000000 in
set_option maxRecDepth 100000 in
theorem check12_any (v : JV) (u : Value) (w : World) (hf : jful v ≤ 1000000) (hT : TabJ w) (hv : ValV w (· < w.heap.size) v u) :
    Calls Tryz.prog 36 #[u] w fun e w' => e = .returned (.int .i64 (errJ (jvd v 1))) ∧ Below w.heap.size w w' := by
  have hc := fun W => fun (hW : Below w.heap.size w W) => valid12_any _ v u 1 W (Nat.le_refl _) hf (by omega) (hT.next hW) (hv.keep (fun k hk => hW.block k hk) (fun k hk => Nat.lt_of_lt_of_le hk hW.size))
  have e1 : ((1 : Nat) : Int) = 1 := rfl
  rw [e1] at hc
  obtain ⟨IA, ic, MA, mc, rfl, hi, hm, hic, hmc⟩ := hv.open_
  have HC := Lib.hid hc
  clear hc hv hi hm hT e1 hf
  have F1 : Hid (∀ o, Below w.heap.size w (w.alloc o)) := fun o => (Below.refl _ _).alloc (Nat.le_refl _) o
  generalize jvd v 1 = E at *
  cases E
  · go_enter Tryz.func36, Tryz.ntmps36
    go_wp2_with (go_at_call 62; refine (HC.out _ (F1.out _)).mono ?_; rintro e w1 ⟨rfl, hb1⟩)
    go_ret
    exact ⟨rfl, (F1.out _).trans (hb1.mono (by simp))⟩
  · go_enter Tryz.func36, Tryz.ntmps36
    go_wp2_with (go_at_call 62; refine (HC.out _ (F1.out _)).mono ?_; rintro e w1 ⟨rfl, hb1⟩)
    go_ret
    exact ⟨rfl, (F1.out _).trans (hb1.mono (by simp))⟩
/-- What Write returns. -/
def outJ (v : JV) (b : Bool) : Bytes := if b = true then jtx v else []
theorem jtx_ne {v : JV} (h : jrv v = true) : jtx v ≠ [] := by
  have hf := jhOk_form (jrv_ok h).1
  obtain ⟨c, l, hc, _⟩ := jtx_head v hf.1 hf.2.1
  rw [hc]; simp
set_option maxHeartbeats 2000000 in
set_option maxRecDepth 100000 in
theorem write12_any (v : JV) (u : Value) (w : World) (hf : jful v ≤ 1000000) (hfit : JFit v) (hT : TabJ w) (hv : ValV w (· < w.heap.size) v u) :
    Calls Tryz.prog 16 #[u] w fun e w' => e = .returned (.tuple #[.string (S (outJ v (jvd v 1))), .int .i64 (errJ (jvd v 1))]) ∧ Below w.heap.size w w' := by
  have hck := fun W => fun (hW : Below w.heap.size w W) => check12_any v u W hf (hT.next hW) (hv.keep (fun k hk => hW.block k hk) (fun k hk => Nat.lt_of_lt_of_le hk hW.size))
  cases hj : jvd v 1 with
  | false =>
    rw [hj] at hck
    obtain ⟨IA, ic, MA, mc, rfl, hi, hm, hic, hmc⟩ := hv.open_
    have HC := Lib.hid hck
    clear hck hv hi hm hT hf hfit hj
    have F1 : Hid (∀ o, Below w.heap.size w (w.alloc o)) := fun o => (Below.refl _ _).alloc (Nat.le_refl _) o
    go_enter Tryz.func16, Tryz.ntmps16
    go_wp2_with (go_at_call 36; refine (HC.out _ (F1.out _)).mono ?_; rintro e w1 ⟨rfl, hb1⟩)
    go_ret2
    exact ⟨rfl, (F1.out _).trans (hb1.mono (by simp))⟩
  | true =>
    rw [hj, show errJ true = 0 from rfl] at hck
    have hjr : jrv v = true := by rw [jvd_eq, Bool.and_eq_true] at hj; exact hj.1
    have hne := jtx_ne hjr
    have hlen := jtx_len v hfit
    have hwr := fun (W0 W : World) (hW0 : Below w.heap.size w W0) (hs : WS W0 W0.heap.size W0.heap.size [] W) => value12_any _ v (Nat.le_refl _) u W0.heap.size W0.heap.size [] W W0 hf hfit hjr hs (hv.keep (fun k hk => (hs.bel.block k (Nat.lt_of_lt_of_le hk hW0.size)).trans (hW0.block k hk)) (fun k hk => Nat.lt_of_lt_of_le hk hW0.size)) (by simp only [List.length_nil]; omega)
    obtain ⟨IA, ic, MA, mc, rfl, hi, hm, hic, hmc⟩ := hv.open_
    have HC := Lib.hid hck
    have HW := Lib.hid hwr
    have HT := Lib.hid hT
    have HNE := Lib.hid hne
    clear hck hwr hv hi hm hT hf hfit hj hjr hne hlen
    have F1 : Hid (∀ o, Below w.heap.size w (w.alloc o)) := fun o => (Below.refl _ _).alloc (Nat.le_refl _) o
    show Calls _ _ _ _ fun e w' => e = .returned (.tuple #[.string (S (jtx v)), .int .i64 0]) ∧ Below w.heap.size w w'
    generalize jtx v = N at *
    go_enter Tryz.func16, Tryz.ntmps16
    go_wp2_with (first
      | (go_at_call 36; refine (HC.out _ (F1.out _)).mono ?_; rintro e w1 ⟨rfl, hb1⟩; have hbx := (hb1.block w.heap.size (by simp)).trans (heap_alloc_new w (valBox v IA ic MA mc)); have B1 := (F1.out (valBox v IA ic MA mc)).trans (hb1.mono (by simp)); obtain ⟨k0, k1, k2, k3, k4, k5, k6⟩ := jbox_cells ((Below.heap_alloc w1 (.cells #[.pointer none, .slice none 0 0] 73) _ (heap_lt hbx)).trans hbx); have hz1 : w.heap.size + 1 ≤ w1.heap.size := by simpa using hb1.size)
      | (go_at_call 37; refine (HW.out w1 _ B1 ⟨W12.Bld.new w1, by simp, HT.out.next B1, (Below.refl _ _).alloc (Nat.le_refl _) _, Nat.le_refl _⟩).mono ?_; rintro e w2 ⟨rfl, h2, f2⟩)
      | (go_at_call 38; refine (W12.builderString_any _ _ _ _ h2.bld (by simpa using HNE.out)).mono ?_; rintro e w3 ⟨rfl, h3, hb3, _⟩))
    go_ret2
    exact ⟨rfl, B1.trans (((((Below.refl _ w1).alloc (Nat.le_refl _) _).trans f2.below).trans hb3).mono B1.size)⟩
end Go.Proofs.YthlppbpccldikaaGreatDoor
