/-
  Walks of chapter 11's statements: zero, at a value without places.
-/
import Derived.Test.YthlppbpccldikaaDoorH14
import Derived.Test.YthlppbpccldikaaDoorH15
set_option linter.unusedVariables false
namespace Go.Proofs.YthlppbpccldikaaDoor
open Go.RowKit
theorem zeroL_mem : ∀ {l : List JV} {v : JV}, zeroJL l = true → v ∈ l → zeroJ v = true
  | x :: l, v, h, hv => by
    rw [zeroJL, Bool.and_eq_true] at h
    rcases List.mem_cons.1 hv with rfl | hv
    · exact h.1
    · exact zeroL_mem h.2 hv
theorem zeroM_mem : ∀ {l : List JM} {m : JM}, zeroJM l = true → m ∈ l → m.pos = 0 ∧ zeroJ m.val = true
  | .mk k x p :: l, m, h, hm => by
    rw [zeroJM, Bool.and_eq_true, Bool.and_eq_true, beq_iff_eq] at h
    rcases List.mem_cons.1 hm with rfl | hm
    · exact h.1
    · exact zeroM_mem h.2 hm
mutual
theorem jful_strip : ∀ v : JV, jful (stripJ v) = jful v
  | .mk k b n s is ms p => by rw [stripJ, jful, jful, jfulL_strip is, jfulM_strip ms]
theorem jfulL_strip : ∀ l : List JV, jfulL (stripJL l) = jfulL l
  | [] => by rw [stripJL]
  | v :: l => by rw [stripJL, jfulL, jfulL, jful_strip v, jfulL_strip l]
theorem jfulM_strip : ∀ l : List JM, jfulM (stripJM l) = jfulM l
  | [] => by rw [stripJM]
  | .mk k v p :: l => by rw [stripJM, jfulM, jfulM, jful_strip v, jfulM_strip l]
end
set_option maxHeartbeats 4000000 in
set_option maxRecDepth 100000 in
theorem zero11_any (s : Nat) : ∀ (v : JV) (u : Value) (w : World), jsz v ≤ s → jful v ≤ 1000000 → zeroJ v = true → ValV w (· < w.heap.size) v u →
    Calls Tryd.prog 15 #[u] w fun e w' => e = .returned (.int .i64 1) ∧ Below w.heap.size w w' := by
  induction s with
  | zero => intro v u w h; have := jsz_pos v; omega
  | succ s ih =>
    intro v u w hs hf hz hv
    have hfm := jful_form v
    rw [zeroJ_form, Bool.and_eq_true, Bool.and_eq_true, beq_iff_eq] at hz
    obtain ⟨hz0, hzl, hzm⟩ := hz
    have tp : (v.pos == 0) = true := by rw [hz0]; rfl
    obtain ⟨IA, ic, MA, mc, rfl, hi, hm, hic, hmc⟩ := hv.open_
    have hil := jfulL_len v.items
    have hml := jfulM_len v.mems
    have hX0 := heap_alloc_new w (valBox v IA ic MA mc)
    have hB0 := (Below.refl w.heap.size w).alloc (Nat.le_refl _) (valBox v IA ic MA mc)
    have hil2 : v.items.length ≤ 1000000 := by omega
    have hml2 : v.mems.length ≤ 1000000 := by omega
    obtain ⟨k0, k1, k2, k3, k4, k5, k6⟩ := jbox_cells hX0
    have HI := Lib.hid hi
    have HM := Lib.hid hm
    have HIH := Lib.hid ih
    have HS := Lib.hid hs
    have HF := Lib.hid hf
    have HFM := Lib.hid hfm
    have HX0 := Lib.hid hX0
    have HB0 := Lib.hid hB0
    have HZL := Lib.hid hzl
    have HZM := Lib.hid hzm
    clear hi hm ih hs hf hfm hv hX0 hil hml hB0 hzl hzm hz0
    go_enter Tryd.func15, Tryd.ntmps15
    go_wp2_with fail
    clear k0 k1 k2 k3 k4 k5 k6
    go_loopw [3, 14] (fun s3 i4 wr => ∃ i : Nat, i ≤ v.items.length ∧ i4 = .int .i64 i ∧ s3 = .bool true ∧ Below w.heap.size w wr ∧ wr.heap[w.heap.size]? = some (valBox v IA ic MA mc)) (fun _ i4 _ => v.items.length - (intOf i4).toNat)
    case atStart => exact ⟨0, Nat.zero_le _, rfl, rfl, HB0.out, HX0.out⟩
    case round =>
      obtain ⟨i, hi, rfl, rfl, hb, hX⟩ := hrel
      have HB := Lib.hid hb
      have HX := Lib.hid hX
      have hsz := heap_lt hX
      obtain ⟨k0, k1, k2, k3, k4, k5, k6⟩ := jbox_cells hX
      clear hb hX
      by_cases hlt : i < v.items.length
      · have hlt' : (i : Int) < v.items.length := by omega
        have hjz := jsz_item (List.getElem_mem hlt)
        have hjf := jfulL_mem (List.getElem_mem hlt)
        have hzx := zeroL_mem HZL.out (List.getElem_mem hlt)
        obtain ⟨b, off, cs, rfl, hbl, hr, hcs⟩ := HI.out.at_ hlt
        have hr1 := rangeAt_keep hr (HB.out.block b hbl)
        have hcs1 := ValP.keep (fun k hk => HB.out.block k hk) (fun k hk => Nat.lt_of_lt_of_le hk HB.out.size) _ _ hcs
        generalize v.items[i] = x at *
        obtain ⟨NA, nc, NM, nd, rfl, _, _, _, _⟩ := hcs.open_
        have hb5 := (Below.refl wr.heap.size wr).alloc (Nat.le_refl _) (valBox x NA nc NM nd)
        have hg5 := jbox_cells (heap_alloc_new wr (valBox x NA nc NM nd))
        have hcall := HIH.out x _ (wr.alloc (valBox x NA nc NM nd)) (by have := HS.out; omega) (by have := HF.out; have := HFM.out; omega) hzx ⟨_, rfl, ValP.keep (fun k hk => hb5.block k hk) (fun k hk => Nat.lt_of_lt_of_le hk hb5.size) _ _ hcs1⟩
        have hX5 := (hb5.block _ hsz).trans HX.out
        obtain ⟨z0, z1, z2, z3, z4, z5, z6⟩ := hg5
        have hsz5 := Nat.lt_of_lt_of_le hsz hb5.size
        have HC := Lib.hid hcall
        have HR1 := Lib.hid hr1
        have HB5 := Lib.hid (HB.out.trans (hb5.mono HB.out.size))
        have HX5 := Lib.hid hX5
        clear hr hr1 hcs hcs1 hcall hjz hjf hb5 hzx hX5
        go_wp2_with (first
          | ((with_reducible refine gate ?_); first
              | (refine wp_load_val rfl _ rfl b (off + i * 7) rfl _ rfl HR1.out ?_))
          | (go_at_call 15; refine HC.out.mono ?_; rintro e w3 ⟨rfl, hb3⟩))
        go_roundw
        case rel => exact ⟨i + 1, by omega, by go_num, rfl, HB5.out.trans (hb3.mono HB5.out.size), (hb3.block _ hsz5).trans HX5.out⟩
        case measure => simp [intOf]; omega
      · obtain rfl : i = v.items.length := by omega
        go_wp2_with fail
        clear k0 k1 k2 k3 k4 k5 k6
        go_loopw [3, 28] (fun s3 i4 wr => ∃ i : Nat, i ≤ v.mems.length ∧ i4 = .int .i64 i ∧ s3 = .bool true ∧ Below w.heap.size w wr) (fun _ i4 _ => v.mems.length - (intOf i4).toNat)
        case atStart => exact ⟨0, Nat.zero_le _, rfl, rfl, HB.out⟩
        case round =>
          obtain ⟨i, hi, rfl, rfl, hb⟩ := hrel
          have HB := Lib.hid hb
          clear hb
          by_cases hlt : i < v.mems.length
          · have hlt' : (i : Int) < v.mems.length := by omega
            have hjz := jsz_mem (List.getElem_mem hlt)
            have hjf := jfulM_mem (List.getElem_mem hlt)
            obtain ⟨hp0, hzx⟩ := zeroM_mem HZM.out (List.getElem_mem hlt)
            obtain ⟨b, off, cs, rfl, hbl, hr, hcs⟩ := HM.out.at_ hlt
            have hr1 := rangeAt_keep hr (HB.out.block b hbl)
            have hcs1 := MemP.keep (fun k hk => HB.out.block k hk) (fun k hk => Nat.lt_of_lt_of_le hk HB.out.size) hcs
            generalize v.mems[i] = x at *
            have tx : (x.pos == 0) = true := by rw [hp0]; rfl
            obtain ⟨vs, hvs, hcse⟩ := hcs1
            obtain ⟨NA, nc, NM, nd, hvse, _, _, _, _⟩ := hvs.open_
            subst hvse
            simp only [List.cons_append, List.nil_append] at hcse
            subst hcse
            have hb5 := (Below.refl wr.heap.size wr).alloc (Nat.le_refl _) (memBox x NA nc NM nd)
            have hx5 := heap_alloc_new wr (memBox x NA nc NM nd)
            obtain ⟨z0, z1, z2, z3, z4, z5, z6, z7, z8⟩ := mbox_cells hx5
            have hcall := HIH.out x.val _ (wr.alloc (memBox x NA nc NM nd)) (by have := HS.out; omega) (by have := HF.out; have := HFM.out; omega) hzx ⟨_, rfl, ValP.keep (fun k hk => hb5.block k hk) (fun k hk => Nat.lt_of_lt_of_le hk hb5.size) _ _ hvs⟩
            have HC := Lib.hid hcall
            have HR1 := Lib.hid hr1
            have HB5 := Lib.hid (HB.out.trans (hb5.mono HB.out.size))
            clear hr hr1 hcs hvs hcall hjz hjf hb5 hx5 hzx hp0
            go_wp2_with (first
              | ((with_reducible refine gate ?_); first
                  | (refine wp_load_mem rfl _ rfl b (off + i * 9) rfl _ rfl HR1.out ?_))
              | (go_at_call 15; refine HC.out.mono ?_; rintro e w3 ⟨rfl, hb3⟩))
            go_roundw
            case rel => exact ⟨i + 1, by omega, by go_num, rfl, HB5.out.trans (hb3.mono HB5.out.size)⟩
            case measure => simp [intOf]; omega
          · obtain rfl : i = v.mems.length := by omega
            go_wp2_with fail
            go_ret
            exact ⟨rfl, HB.out⟩
end Go.Proofs.YthlppbpccldikaaDoor
