/-
  Several texts in one file, in build order:
  - Walks of chapter 7's statements: how much a tree weighs, and whether it is too large.
-/
import Derived.Test.YtclhdppppgjgfaaGreatDoorH4
import Derived.WalkSpells
import Derived.WalkLawsBesides
set_option linter.unusedVariables false
namespace Go.Proofs.YtclhdppppgjgfaaGreatDoor
open Go.RowKit

@[go_sem] theorem min_cl9 (n : Nat) : min (n : Int) 9000 = (cl9 n : Nat) := by
  unfold cl9; omega

set_option maxHeartbeats 2000000 in
theorem weight_any (m : Nat) : ∀ (n : Node) (v : Value) (tot : Nat) (w : World), nsz n ≤ m → Fit n → tot ≤ 9000 → NodeV w w.heap.size n v →
    Calls Tryz.prog 37 #[v, .int .i64 tot] w fun e w' => e = .returned (.int .i64 (wgt n tot : Nat)) ∧ Below w.heap.size w w' := by
  induction m with
  | zero => intro n v tot w h; cases n; rw [nsz] at h; omega
  | succ m ih =>
    intro n v tot w hm hf ht hv
    obtain ⟨A, cap, K, kcap, rfl, ha, hk, hcap, hkcap⟩ := hv.open_
    have hal := hf.form.1
    have hkl := hf.form.2.1
    have hw := wgt_bound _ n (Nat.le_refl _) hf tot ht
    have c1 := cl9_le n.space.length
    have c2 := cl9_le n.name.length
    have c3 := cl9_le n.text.length
    have HIH := Lib.hid ih
    have HF := Lib.hid hf
    have HA := Lib.hid ha
    have HK := Lib.hid hk
    have HM := Lib.hid hm
    have HW := Lib.hid hw
    clear ih hf ha hk hv hm hw
    go_enter Tryz.func37, Tryz.ntmps37
    go_wp2_with fail
    go_loopw [1, 29] (fun s1 i29 wr => ∃ i : Nat, i ≤ n.attrs.length ∧ i29 = .int .i64 i ∧ s1 = .int .i64 (tot + (1 + cl9 n.space.length + cl9 n.name.length + cl9 n.text.length) + attsW (n.attrs.take i) : Nat) ∧ Below (w.heap.size + 1) (w.alloc (.cells #[.int .i64 n.kind, .string (S n.space), .string (S n.name), .slice A n.attrs.length cap, .slice K n.kids.length kcap, .string (S n.text), .int .i64 n.pos] 26)) wr) (fun _ i29 _ => n.attrs.length - (intOf i29).toNat)
    case atStart => exact ⟨0, Nat.zero_le _, rfl, val_int (by simp [attsW]), Below.refl _ _⟩
    case round =>
      obtain ⟨i, hi, rfl, rfl, hb⟩ := hrel
      have HB := Lib.hid hb
      have hsz := hb.size
      simp only [World.size_alloc] at hsz
      clear hb
      by_cases hlt : i < n.attrs.length
      · obtain ⟨b, off, rfl, hbl, hr⟩ := HA.out.at_ hlt
        have hr' : wr.rangeAt b (off + i * 4) (attCells n.attrs[i]) := rangeAt_keep hr ((HB.out.block b (by omega)).trans (Below.heap_alloc w _ b hbl))
        have HR := Lib.hid hr'
        have hst := attsW_take hlt
        have HST := Lib.hid hst
        have hle : attsW (n.attrs.take i) ≤ i * 27001 := by have := attsW_le (n.attrs.take i); rw [List.length_take, Nat.min_eq_left hi] at this; exact this
        have d1 := cl9_le n.attrs[i].space.length
        have d2 := cl9_le n.attrs[i].name.length
        have d3 := cl9_le n.attrs[i].value.length
        clear hst hr hr'
        go_wp2_with (refine wp_load_att rfl _ rfl b (off + i * 4) rfl n.attrs[i] HR.out ?_)
        go_roundw
        case rel =>
          refine ⟨i + 1, by omega, by go_num, val_int (by rw [HST.out]; unfold attW; omega), HB.out.trans ((Below.refl _ _).alloc (by omega) _)⟩
        case measure => simp [intOf]; omega
      · obtain rfl : i = n.attrs.length := by omega
        rw [List.take_length] at *
        have hbox : wr.heap[w.heap.size]? = some (.cells #[.int .i64 n.kind, .string (S n.space), .string (S n.name), .slice A n.attrs.length cap, .slice K n.kids.length kcap, .string (S n.text), .int .i64 n.pos] 26) := (HB.out.block _ (by omega)).trans (heap_alloc_new w _)
        have c4 : wr.cell? ⟨w.heap.size, 4, none⟩ = some (.slice K n.kids.length kcap) := by rw [Lib.cell_of_heap hbox]; rfl
        have hlim : tot + (1 + cl9 n.space.length + cl9 n.name.length + cl9 n.text.length) + attsW n.attrs ≤ most := head_le n HF.out tot ht
        have hstart : wgtL n.kids (tot + (1 + cl9 n.space.length + cl9 n.name.length + cl9 n.text.length) + attsW n.attrs) = wgt n tot := (wgt_eq n tot).symm
        have hbw : Below w.heap.size w wr := ((Below.refl _ _).alloc (Nat.le_refl _) _).trans (HB.out.mono (by omega))
        have HL := Lib.hid hlim
        have HS := Lib.hid hstart
        have HBW := Lib.hid hbw
        clear hbox hlim hstart hbw
        generalize tot + (1 + cl9 n.space.length + cl9 n.name.length + cl9 n.text.length) + attsW n.attrs = t0 at *
        obtain ⟨wo, rfl⟩ : ∃ wo : World, wo = wr := ⟨_, rfl⟩
        go_wp2_with fail
        go_loopw [1, 54] (fun s1 i54 wx => ∃ (i t' : Nat), i ≤ n.kids.length ∧ i54 = .int .i64 i ∧ s1 = .int .i64 t' ∧ t' ≤ most ∧ wgtL (n.kids.drop i) t' = wgt n tot ∧ Below w.heap.size w wx) (fun _ i54 _ => n.kids.length - (intOf i54).toNat)
        case atStart => exact ⟨0, t0, Nat.zero_le _, rfl, rfl, HL.out, by rw [List.drop_zero]; exact HS.out, HBW.out⟩
        case round =>
          obtain ⟨i, t', hi, rfl, rfl, hle, hrem, hb⟩ := hrel
          have HB2 := Lib.hid hb
          have HREM := Lib.hid hrem
          have hsz2 := hb.size
          have hle' : t' ≤ 70202600000036001 := hle
          clear hb hrem hle
          by_cases hlt2 : i < n.kids.length
          · by_cases hbig : 9000 < t'
            · have hfin : t' = wgt n tot := by rw [← HREM.out, wgtL_stop hlt2 hbig]
              obtain ⟨b, off, cs, rfl, hbl, hr, hcs⟩ := HK.out.at_ hlt2
              have hr' : wr.rangeAt b (off + i * 7) cs := rangeAt_keep hr (HB2.out.block b hbl)
              obtain ⟨A', c', K', d', rfl, ha', hk', _, _⟩ := hcs.open_
              have HR := Lib.hid hr'
              have HF2 := Lib.hid hfin
              have hbig' : (9000 : Int) < t' := by omega
              clear hr hr' hcs ha' hk' hfin
              go_wp2_with (refine wp_load_node rfl _ rfl b (off + i * 7) rfl _ rfl HR.out ?_)
              go_ret
              exact ⟨ret_int (by rw [HF2.out]), HB2.out.trans ((Below.refl _ _).alloc (by omega) _)⟩
            · have hfin := wgtL_step hlt2 hbig
              rw [HREM.out] at hfin
              obtain ⟨b, off, cs, rfl, hbl, hr, hcs⟩ := HK.out.at_ hlt2
              have hr' : wr.rangeAt b (off + i * 7) cs := rangeAt_keep hr (HB2.out.block b hbl)
              have hnv : NodeV w w.heap.size n.kids[i] (.agg cs.toArray) := ⟨cs, rfl, hcs⟩
              obtain ⟨A', c', K', d', rfl, ha', hk', _, _⟩ := hcs.open_
              have hfk := HF.out.form.2.2 n.kids[i] (List.getElem_mem hlt2)
              have hbd := wgt_bound _ n.kids[i] (Nat.le_refl _) hfk t' (by omega)
              have hsn : nsz n.kids[i] ≤ m := by have := nsz_get n hlt2; have := HM.out; omega
              have hcall : ∀ W : World, Below w.heap.size w W → Calls Tryz.prog 37 #[_, .int .i64 t'] W _ := fun W hW =>
                HIH.out n.kids[i] _ t' W hsn hfk (by omega) (hnv.keep hW.block hW.size)
              have HC := Lib.hid hcall
              have HR := Lib.hid hr'
              have HF2 := Lib.hid hfin
              have hbig' : (t' : Int) ≤ 9000 := by omega
              have HBD := Lib.hid hbd
              clear hr hr' hcs ha' hk' hfin hnv hfk hsn hcall hbig hbd
              go_wp2_with (first
                | (refine wp_load_node rfl _ rfl b (off + i * 7) rfl _ rfl HR.out ?_)
                | (go_at_call 37; refine (HC.out _ (HB2.out.trans ((Below.refl _ _).alloc (by omega) _))).mono ?_; rintro e w' ⟨rfl, hb'⟩))
              go_roundw
              case rel =>
                exact ⟨i + 1, _, by omega, by go_num, rfl, HBD.out, HF2.out.symm, (HB2.out.trans ((Below.refl _ _).alloc (by omega) _)).trans (hb'.mono (by simp; omega))⟩
              case measure => simp [intOf]; omega
          · obtain rfl : i = n.kids.length := by omega
            have hfin := HREM.out
            rw [List.drop_length, wgtL] at hfin
            have HF2 := Lib.hid hfin
            clear hfin
            go_wp2_with fail
            go_ret
            exact ⟨ret_int (by rw [HF2.out]), HB2.out⟩

def tooLarge (n : Node) : Int := if 5000 < wgt n 0 then 1 else 0
set_option maxHeartbeats 1000000 in
theorem tooLarge_any (n : Node) (v : Value) (w : World) (hf : Fit n) (hv : NodeV w w.heap.size n v) :
    Calls Tryz.prog 15 #[v] w fun e w' => e = .returned (.int .i64 (tooLarge n)) ∧ Below w.heap.size w w' := by
  have hv' := fun W => fun (hW : Below w.heap.size w W) => weight_any _ n v 0 W (Nat.le_refl _) hf (by omega) (hv.keep hW.block hW.size)
  obtain ⟨A, cap, K, kcap, rfl, ha, hk, hcap, hkcap⟩ := hv.open_
  have HV := Lib.hid hv'
  clear hv' hv ha hk hf
  unfold tooLarge
  generalize wgt n 0 = g at *
  by_cases h : 5000 < g
  · have h' : (5000 : Int) < g := by omega
    rw [if_pos h]
    clear h
    go_enter Tryz.func15, Tryz.ntmps15
    go_wp2_with (go_at_call 37; refine (HV.out _ ((Below.refl _ _).alloc (Nat.le_refl _) _)).mono ?_; rintro e w' ⟨rfl, hb⟩)
    go_ret
    exact ⟨rfl, ((Below.refl _ _).alloc (Nat.le_refl _) _).trans (hb.mono (by simp))⟩
  · have h' : (g : Int) ≤ 5000 := by omega
    rw [if_neg h]
    clear h
    go_enter Tryz.func15, Tryz.ntmps15
    go_wp2_with (go_at_call 37; refine (HV.out _ ((Below.refl _ _).alloc (Nat.le_refl _) _)).mono ?_; rintro e w' ⟨rfl, hb⟩)
    go_ret
    exact ⟨rfl, ((Below.refl _ _).alloc (Nat.le_refl _) _).trans (hb.mono (by simp))⟩
end Go.Proofs.YtclhdppppgjgfaaGreatDoor
