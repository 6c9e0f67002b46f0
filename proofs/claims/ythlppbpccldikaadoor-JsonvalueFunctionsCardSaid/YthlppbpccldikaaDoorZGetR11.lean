/-
  Walks of chapter 11, the reference: Get.
-/
import Derived.Test.YthlppbpccldikaaDoorH15
set_option linter.unusedVariables false
set_option linter.unusedSimpArgs false
namespace Go.Proofs.YthlppbpccldikaaDoor
open Go.RowKit
set_option maxHeartbeats 4000000 in
set_option maxRecDepth 100000 in
theorem refGet11_any (v : JV) (key : Bytes) (u : Value) (w : World) (hl : v.mems.length ≤ 1000000000) (hv : ValV w (· < w.heap.size) v u) :
    Calls Tryd.prog 9 #[u, .string (S key)] w fun e w' => GetR w (getJ v key) e ∧ Below w.heap.size w w' := by
  obtain ⟨IA, ic, MA, mc, rfl, hi, hm, hic, hmc⟩ := hv.open_
  obtain ⟨W0, hW0⟩ : ∃ W0, (w.alloc (valBox v IA ic MA mc)).alloc (.cells (valCells 0 false 0) 25) = W0 := ⟨_, rfl⟩
  have hb0 : Below w.heap.size w W0 := by rw [← hW0]; exact ((Below.refl _ _).alloc (Nat.le_refl _) _).alloc (by simp) _
  have hg0 : W0.heap[w.heap.size]? = some (valBox v IA ic MA mc) := by rw [← hW0]; exact alloc_old (heap_alloc_new _ _)
  have hr0 : W0.heap[w.heap.size + 1]? = some (.cells (valCells 0 false 0) 25 (0, 0)) := by rw [← hW0]; exact alloc_at (by simp)
  obtain ⟨R, hR⟩ : ∃ R, getJ v key = R := ⟨_, rfl⟩
  rw [hR]
  unfold getJ at hR
  have HM := Lib.hid hm
  have HB0 := Lib.hid hb0
  have HG0 := Lib.hid hg0
  have HR0 := Lib.hid hr0
  have HW0 := Lib.hid hW0
  have HR := Lib.hid hR
  clear hi hm hv hb0 hg0 hr0 hR
  go_enter Tryd.func9, Tryd.ntmps9
  go_wp2_with fail
  go_loopw [6] (fun i6 wr => ∃ i : Nat, i ≤ v.mems.length ∧ i6 = .int .i64 i ∧ (if v.kind = 5 then ((v.mems.drop i).find? fun m => m.key == key).map JM.val else none) = R ∧ Below w.heap.size w wr ∧ wr.heap[w.heap.size]? = some (valBox v IA ic MA mc) ∧ wr.heap[w.heap.size + 1]? = some (.cells (valCells 0 false 0) 25 (0, 0))) (fun i6 _ => v.mems.length - (intOf i6).toNat)
  case atStart => exact ⟨0, Nat.zero_le _, rfl, HR.out, by have h := HB0.out; rw [← HW0.out] at h; exact h, by have h := HG0.out; rw [← HW0.out] at h; exact h, by have h := HR0.out; rw [← HW0.out] at h; exact h⟩
  case round =>
    obtain ⟨i, hi, rfl, hres, hb, hg, hr⟩ := hrel
    have HB := Lib.hid hb
    have HGW := Lib.hid hg
    have HRW := Lib.hid hr
    have hrl := heap_lt hr
    obtain ⟨k0, k1, k2, k3, k4, k5, k6⟩ := jbox_cells hg
    clear hb hr hg
    by_cases hgo : i < v.mems.length ∧ v.kind = 5
    · obtain ⟨hlt, h5⟩ := hgo
      have t5 : (v.kind == 5) = true := by rw [h5]; rfl
      have hlt' : (i : Int) < v.mems.length := by omega
      rw [if_pos h5] at hres
      obtain ⟨b, off, cs, rfl, hbl, hr, hcs⟩ := HM.out.at_ hlt
      have hr1 := rangeAt_keep hr (HB.out.block b hbl)
      have hcs1 := MemP.keep (fun k hk => HB.out.block k hk) (fun k hk => hk) hcs
      rw [List.drop_eq_getElem_cons hlt, List.find?_cons] at hres
      have h5b := Lib.hid h5
      generalize v.mems[i] = x at *
      obtain ⟨vs, hvs, hcse⟩ := hcs1
      obtain ⟨NA, nc, NM, nd, hvse, _, _, _, _⟩ := hvs.open_
      subst hvse
      simp only [List.cons_append, List.nil_append] at hcse
      subst hcse
      have z0 : wr.cell? ⟨b, off + i * 9, none⟩ = some (.string (S x.key)) := hr1 0 _ rfl
      have hg5 := mem_cells_val hr1
      have HG5 := Lib.hid hg5
      have HVS := Lib.hid hvs
      clear hr hr1 hcs hvs hg5 h5
      cases hk : (x.key == key) with
      | true =>
        rw [hk] at hres
        have HRS : Hid (some x.val = R) := hres
        clear hres
        go_wp2_with (first
          | ((with_reducible refine gate ?_); first
              | (refine wp_load_val rfl _ rfl b (off + i * 9 + 1) rfl _ rfl HG5.out ?_)
              | (refine wp_store_valQ rfl _ _ rfl (w.heap.size + 1) _ _ _ _ _ _ _ _ _ _ _ _ rfl rfl HRW.out rfl ?_; intro w9 hx9 hu9)))
        (try simp only [Exit.inBlock, Exit.then])
        refine bodyPost_ret (v := .tuple #[.agg _, _]) (res_whole2J Tryd.results9 _ _ (w.heap.size + 1) rfl 25 _ hx9 Tryd.underlying25 rfl valSize _ rfl) rfl ⟨?_, ?_⟩
        · rw [← HRS.out]
          exact ⟨_, rfl, _, rfl, ValP.keep (fun k hk => (HB.out.block k hk).symm) (fun k hk => hk) _ _ HVS.out⟩
        · exact HB.out.trans (hu9.below (by omega) HB.out.size)
      | false =>
        rw [hk] at hres
        have HRS := Lib.hid (show (if v.kind = 5 then ((v.mems.drop (i + 1)).find? fun m => m.key == key).map JM.val else none) = R by rw [if_pos h5b.out]; exact hres)
        clear hres
        go_wp2_with fail
        go_roundw
        case rel => exact ⟨i + 1, by omega, by go_num, HRS.out, HB.out, HGW.out, HRW.out⟩
        case measure => simp [intOf]; omega
    · have hres2 : none = R := by
        rw [← hres]
        by_cases h5 : v.kind = 5
        · have hlen : v.mems.length ≤ i := by
            rcases Nat.lt_or_ge i v.mems.length with h | h
            · exact absurd ⟨h, h5⟩ hgo
            · exact h
          rw [if_pos h5, List.drop_of_length_le hlen]; rfl
        · rw [if_neg h5]
      have HRS := Lib.hid hres2
      have hway : (¬ (i : Int) < v.mems.length) ∨ ((i : Int) < v.mems.length ∧ (v.kind == 5) = false) := by
        by_cases h : i < v.mems.length
        · exact .inr ⟨by omega, by rw [beq_eq_false_iff_ne]; exact fun e => hgo ⟨h, e⟩⟩
        · exact .inl (by omega)
      clear hgo hres hres2
      rcases hway with q | ⟨q, t5⟩
      all_goals
        go_wp2_with (first
          | ((with_reducible refine gate ?_); refine wp_store_valQ rfl _ _ rfl (w.heap.size + 1) _ _ _ _ _ _ _ _ _ _ _ _ rfl rfl HRW.out rfl ?_; intro w9 hx9 hu9))
        refine bodyPost_ret (v := .tuple #[.agg _, _]) (res_whole2J Tryd.results9 _ _ (w.heap.size + 1) rfl 25 _ hx9 Tryd.underlying25 rfl valSize _ rfl) rfl ⟨?_, ?_⟩
        · rw [← HRS.out]; rfl
        · exact HB.out.trans (hu9.below (by omega) HB.out.size)
end Go.Proofs.YthlppbpccldikaaDoor
