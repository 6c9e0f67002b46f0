/-
  Walk of chapter 9: the closure that writes a node.
-/
import Derived.Test.YthilaolkkamedaaDoorWrite0
import Derived.Deep.RegionHeld3
set_option linter.unusedVariables false
namespace Go.Proofs.YthilaolkkamedaaDoor
open Go.RowKit

set_option maxHeartbeats 4000000 in
set_option maxRecDepth 100000 in
theorem write1_text (n : Node) (v : Value) (B b cl : Nat) (X : Bytes) (w : World) (hk : n.kind = 1) (hs : full n ≤ 1000000) (hw : Wr B b cl X w) (hv : NodeV w B n v) (hl : (X ++ canon n).length ≤ 140737488355328) :
    Calls Tryd.prog 20 #[v, .pointer (some ⟨b, 0, none⟩), .pointer (some ⟨cl, 0, none⟩)] w fun e w' => e = .returned (.tuple #[]) ∧ Wr B b cl (X ++ canon n) w' ∧ Fr B b w w' := by
  obtain ⟨A, cap, K, kcap, rfl, ha, hkk, hcap, hkcap⟩ := hv.open_
  have hp := (parts n hs).text
  rw [canon_text hk] at hl ⊢
  have t : (n.kind == 1) = true := by rw [hk]; rfl
  have hle := hw.le
  have hes := fun W => escText_any n.text W (by omega)
  have HW := Lib.hid hw
  have HES := Lib.hid hes
  rw [List.length_append] at hl
  generalize esc false n.text = E at *
  clear hk hs hv ha hkk hw hp hes
  go_enter Tryd.func20, Tryd.ntmps20
  go_wp2_with (first
    | (go_at_call 22; refine (HES.out _).mono ?_; rintro e w1 ⟨rfl, hb1⟩; have h1 := (HW.out.alloc _).next hb1; have f1 := ((Fr.refl B b w).alloc hle _).next (by simp; omega) hb1)
    | (go_at_call 21; refine (wr_str E h1 hl).mono ?_; rintro e w2 ⟨rfl, h2, f2⟩))
  (try simp only [Exit.inBlock, Exit.then]); refine bodyPost_ret (results_none rfl _ _ _) rfl ?_
  exact ⟨rfl, h2, f1.trans f2⟩

set_option maxHeartbeats 4000000 in
set_option maxRecDepth 100000 in
theorem write1_any (m : Nat) : ∀ (n : Node) (v : Value) (B b cl : Nat) (X : Bytes) (w : World), nsz n ≤ m → full n ≤ 1000000 → Wr B b cl X w → NodeV w B n v → (X ++ canon n).length ≤ 140737488355328 →
    Calls Tryd.prog 20 #[v, .pointer (some ⟨b, 0, none⟩), .pointer (some ⟨cl, 0, none⟩)] w fun e w' => e = .returned (.tuple #[]) ∧ Wr B b cl (X ++ canon n) w' ∧ Fr B b w w' := by
  induction m with
  | zero => intro n v B b cl X w h; cases n; rw [nsz] at h; omega
  | succ m ih =>
    intro n v B b cl X w hm hs hw hv hl
    by_cases h1 : n.kind = 1
    · exact write1_text n v B b cl X w h1 hs hw hv hl
    obtain ⟨A, cap, K, kcap, rfl, ha, hk, hcap, hkcap⟩ := hv.open_
    have hp := parts n hs
    have hge := fun (i : Nat) (h : i < n.kids.length) => nsz_get n h
    have hcan := canon_elem h1
    have t : (n.kind == 1) = false := by rw [beq_eq_false_iff_ne]; exact h1
    have hkl : n.kids.length < 1000000 := hp.kids
    have hal : n.attrs.length < 1000000 := hp.attrs
    have hnl : n.name.length < 1000000 := hp.name
    have hle := hw.le
    have hbl := hw.bld.lt
    have hcl := hw.clt
    generalize hT : X ++ canon n = T at *
    rw [hcan] at hT
    have HIH := Lib.hid ih
    have HA := Lib.hid ha
    have HK := Lib.hid hk
    have HM := Lib.hid hm
    have HP := Lib.hid hp
    have HGE := Lib.hid hge
    have HTT := Lib.hid hT
    have HW := Lib.hid hw
    have hbne : w.heap.size ≠ b := by omega
    clear ih ha hk hm hp hge hT hw hv hs h1 hcan
    go_enter Tryd.func20, Tryd.ntmps20
    have hl1 : (X ++ ([60] ++ n.name)).length ≤ 140737488355328 := by rw [← HTT.out] at hl; simp only [List.length_append] at hl ⊢; omega
    rw [List.length_append] at hl1
    go_wp2_with (go_at_call 21; refine (wr_str ([60] ++ n.name) (HW.out.alloc _) hl1).mono ?_; rintro e w1 ⟨rfl, h1, f1⟩; have hb1 := f1.node hbne (heap_alloc_new w (nodeBox n A cap K kcap)); have c2 := (box_cells hb1).2.2.1; have c3 := (box_cells hb1).2.2.2.1; have c4 := (box_cells hb1).2.2.2.2.1)
    clear hl1
    have hst1 : (X ++ ([60] ++ n.name)) ++ (attsC (n.attrs.drop 0) ++ (if n.kids.length = 0 then [47, 62] else [62] ++ canonL n.kids ++ [60, 47] ++ n.name ++ [62])) = T := by rw [← HTT.out, List.drop_zero]; simp only [List.append_assoc]
    have f1' : Fr B b w w1 := ((Fr.refl B b w).alloc hle _).trans f1
    have hsz1 : w.heap.size + 1 ≤ w1.heap.size := by simpa using f1.below.size
    have HB1 := Lib.hid hb1
    have HST1 := Lib.hid hst1
    have HF1 := Lib.hid f1'
    have H1 := Lib.hid h1
    generalize hW1 : (if n.kids.length = 0 then [47, 62] else [62] ++ canonL n.kids ++ [60, 47] ++ n.name ++ [62]) = Z at *
    have HZ := Lib.hid hW1
    clear hW1 c2 c3 c4 hb1 hst1 f1' f1 h1 HTT
    go_loopw [22] (fun i22 wr => ∃ (i : Nat) (Y : Bytes), i ≤ n.attrs.length ∧ i22 = .int .i64 i ∧ Wr B b cl Y wr ∧ Y ++ (attsC (n.attrs.drop i) ++ Z) = T ∧ Fr B b w wr ∧ wr.heap[w.heap.size]? = some (nodeBox n A cap K kcap)) (fun i22 _ => n.attrs.length - (intOf i22).toNat)
    case atStart => exact ⟨0, _, Nat.zero_le _, rfl, H1.out, HST1.out, HF1.out, HB1.out⟩
    case round =>
      obtain ⟨i, Y, hi, rfl, hwr, hY, hfr, hbox⟩ := hrel
      have hszr := hfr.below.size
      have hlr := hwr.le
      have HR := Lib.hid hwr
      have HY := Lib.hid hY
      have HFR := Lib.hid hfr
      have HBX := Lib.hid hbox
      have hszx : w.heap.size < wr.heap.size := (Array.getElem?_eq_some_iff.1 hbox).1
      by_cases hlt : i < n.attrs.length
      · obtain ⟨bb, off, hAA, hbb, hr⟩ := HA.out.at_ hlt
        subst hAA
        have hr' : wr.rangeAt bb (off + i * 4) (attCells n.attrs[i]) := rangeAt_keep hr (HFR.out.below.block bb hbb)
        have hav : n.attrs[i].value.length < 1000000 ∧ n.attrs[i].name.length < 1000000 := by have := HP.out.att n.attrs[i] (List.getElem_mem hlt); omega
        have hstep := attsC_step hlt
        rw [hstep] at hY
        generalize n.attrs[i] = a at *
        have hes := fun W => escAttr_any a.value W (by omega)
        have hY2 : (Y ++ attC a) ++ (attsC (n.attrs.drop (i + 1)) ++ Z) = T := by rw [← hY]; simp only [List.append_assoc]
        have hl2 : Y.length + (attC a).length ≤ 140737488355328 := by rw [← hY2] at hl; simp only [List.length_append] at hl ⊢; omega
        have hes6 := esc_len true a.value
        obtain ⟨hav1, hav2⟩ := hav
        unfold attC at hl2
        have HY2 := Lib.hid hY2
        have HRR := Lib.hid hr'
        have HES := Lib.hid hes
        clear hr hr' hY hY2 hes hstep hwr hfr hbox HST1 HB1 H1 HF1
        generalize hE : esc true a.value = E at *
        have HE := Lib.hid hE
        clear hE
        have HL2 := Lib.hid hl2
        clear hl2
        go_wp2_with (with_reducible refine gate ?_; refine wp_load_att rfl _ rfl bb (off + i * 4) rfl a HRR.out ?_)
        have hba := heap_alloc_new wr (.cells #[.string (S a.space), .string (S a.name), .string (S a.value), .int .i64 a.pos] 37)
        have d1 : (wr.alloc (.cells #[.string (S a.space), .string (S a.name), .string (S a.value), .int .i64 a.pos] 37)).drew.cell? ⟨wr.heap.size, 1, none⟩ = some (.string (S a.name)) := by
          rw [World.cell?_drew, Lib.cell_of_heap hba]; rfl
        have d2 : (wr.alloc (.cells #[.string (S a.space), .string (S a.name), .string (S a.value), .int .i64 a.pos] 37)).drew.cell? ⟨wr.heap.size, 2, none⟩ = some (.string (S a.value)) := by
          rw [World.cell?_drew, Lib.cell_of_heap hba]; rfl
        have hbba : wr.heap.size ≠ b := by have := HR.out.bld.lt; omega
        have hL2 := HL2.out
        simp only [List.length_append] at hL2
        obtain ⟨L1, e1⟩ : ∃ L1 : Bytes, L1 = [32] ++ a.name := ⟨_, rfl⟩
        obtain ⟨L2, e2⟩ : ∃ L2 : Bytes, L2 = L1 ++ [61, 34] := ⟨_, rfl⟩
        obtain ⟨L3, e3⟩ : ∃ L3 : Bytes, L3 = L2 ++ E := ⟨_, rfl⟩
        obtain ⟨L4, e4⟩ : ∃ L4 : Bytes, L4 = L3 ++ [34] := ⟨_, rfl⟩
        have g1 : ∀ W : World, (Op.stringOp .add ⟨#[32]⟩ (S a.name)).run Tryd.prog W = .ok (.string (S L1)) W := run_cat [32] a.name L1 e1 (by simp only [List.length_cons, List.length_nil]; omega)
        have g2 : ∀ W : World, (Op.stringOp .add (S L1) ⟨#[61, 34]⟩).run Tryd.prog W = .ok (.string (S L2)) W := run_cat L1 [61, 34] L2 e2 (by rw [e1]; simp only [List.length_append, List.length_cons, List.length_nil]; omega)
        have g3 : ∀ W : World, (Op.stringOp .add (S L2) (S E)).run Tryd.prog W = .ok (.string (S L3)) W := run_cat L2 E L3 e3 (by rw [e2, e1]; simp only [List.length_append, List.length_cons, List.length_nil]; omega)
        have g4 : ∀ W : World, (Op.stringOp .add (S L3) ⟨#[34]⟩).run Tryd.prog W = .ok (.string (S L4)) W := run_cat L3 [34] L4 e4 (by rw [e3, e2, e1]; simp only [List.length_append, List.length_cons, List.length_nil]; omega)
        have hL4 : [32] ++ a.name ++ [61, 34] ++ E ++ [34] = L4 := by rw [e4, e3, e2, e1]
        rw [hL4] at HL2
        have HL4 := Lib.hid hL4
        clear hL4 e1 e2 e3 e4 hL2
        go_region_held3 (fun x => x.cell? ⟨wr.heap.size, 1, none⟩ = some (.string (S a.name)) ∧ x.cell? ⟨wr.heap.size, 2, none⟩ = some (.string (S a.value)))
          (first | exact ⟨d1, d2⟩ | exact ⟨k1, k2⟩ | exact ⟨l1, l2⟩)
          (first
            | ((go_at_call 23; refine (HES.out _).mono ?_; rintro e w2 ⟨rfl, hb2⟩; have h2 := (HR.out.alloc _).drew.next hb2; have f2 := ((Fr.refl B b wr).alloc hlr _).drew.next (by simp; omega) hb2; have hba2 := (hb2.block wr.heap.size (by simp)).trans hba; have k1 := (Lib.cell_of_heap hba2 1).trans rfl; have k2 := (Lib.cell_of_heap hba2 2).trans rfl))
            | ((go_at_call 21; refine (wr_str L4 h2 HL2.out).mono ?_; rintro e w3 ⟨rfl, h3, f3⟩; have hba3 := f3.att hbba hba2; have l1 := (Lib.cell_of_heap hba3 1).trans rfl; have l2 := (Lib.cell_of_heap hba3 2).trans rfl)))
        have hf23 := f2.trans f3
        have HF23 := Lib.hid hf23
        have H3 := Lib.hid h3
        clear hf23 h3 f3 h2 f2 k1 k2 l1 l2 d1 d2 hba hba2 hba3 hb2 g1 g2 g3 g4
        go_wp2_with fail
        go_roundw
        case rel =>
          refine ⟨i + 1, Y ++ L4, by omega, by go_num, H3.out, ?_, HFR.out.trans HF23.out, HF23.out.node hbne HBX.out⟩
          rw [← HL4.out, ← HE.out]
          exact HY2.out
        case measure => simp [intOf]; omega
      · obtain rfl : i = n.attrs.length := by omega
        rw [List.drop_length] at hY
        have hY2 : Y ++ Z = T := by rw [← hY]; rfl
        have HY2 := Lib.hid hY2
        have c4 := (box_cells hbox).2.2.2.2.1
        have c2 := (box_cells hbox).2.2.1
        clear hY HY hY2 hwr hfr hbox HST1 HB1 H1 HF1
        by_cases hk0 : n.kids.length = 0
        · have hZ := HZ.out
          rw [if_pos hk0] at hZ
          have hk1 : (((n.kids.length : Nat) : Int) == 0) = true := by rw [hk0]; rfl
          have hl2 : Y.length + ([47, 62] : Bytes).length ≤ 140737488355328 := by rw [← HY2.out, ← hZ] at hl; rw [← List.length_append]; exact hl
          have HZZ := Lib.hid hZ
          clear hZ hk0
          go_wp2_with (go_at_call 21; refine (wr_str [47, 62] HR.out hl2).mono ?_; rintro e w2 ⟨rfl, h2, f2⟩)
          (try simp only [Exit.inBlock, Exit.then]); refine bodyPost_ret (results_none rfl _ _ _) rfl ?_
          refine ⟨rfl, ?_, HFR.out.trans f2⟩
          rw [← HY2.out, ← HZZ.out]; exact h2
        · have hZ := HZ.out
          rw [if_neg hk0] at hZ
          have hk1 : (((n.kids.length : Nat) : Int) == 0) = false := by rw [beq_eq_false_iff_ne]; omega
          have hl2 : Y.length + 1 ≤ 140737488355328 := by rw [← HY2.out, ← hZ] at hl; simp only [List.length_append, List.length_cons, List.length_nil] at hl; omega
          have HZZ := Lib.hid hZ
          clear hZ hk0 HZ
          go_wp2_with (go_at_call 24; refine (wr_byte 62 HR.out (by omega) hl2).mono ?_; rintro e w2 ⟨rfl, h2, f2⟩; have hb2 := f2.node hbne HBX.out; have c4' := (box_cells hb2).2.2.2.2.1; have c2' := (box_cells hb2).2.2.1)
          have h2' : Wr B b cl (Y ++ [62]) w2 := h2
          have hst2 : (Y ++ [62]) ++ (canonL (n.kids.drop 0) ++ ([60, 47] ++ n.name ++ [62])) = T := by rw [← HY2.out, ← HZZ.out, List.drop_zero]; simp only [List.append_assoc]
          have HST2 := Lib.hid hst2
          have H2 := Lib.hid h2'
          have HF2 := Lib.hid (HFR.out.trans f2)
          have HB2 := Lib.hid hb2
          have hw2 := h2.le
          clear hst2 h2 h2' f2 hb2 c4' c2' c4 c2 hl2 HZZ HY2 HR HFR HBX
          go_loopw [46] (fun i46 wr => ∃ (i : Nat) (Y : Bytes), i ≤ n.kids.length ∧ i46 = .int .i64 i ∧ Wr B b cl Y wr ∧ Y ++ (canonL (n.kids.drop i) ++ ([60, 47] ++ n.name ++ [62])) = T ∧ Fr B b w wr ∧ wr.heap[w.heap.size]? = some (nodeBox n A cap K kcap)) (fun i46 _ => n.kids.length - (intOf i46).toNat)
          case atStart => exact ⟨0, _, Nat.zero_le _, rfl, H2.out, HST2.out, HF2.out, HB2.out⟩
          case round =>
            obtain ⟨i, Y, hi, rfl, hwr, hY, hfr, hbox⟩ := hrel
            clear HST2 H2 HF2 HB2 hlt
            have hszr2 := hfr.below.size
            have hlr2 := hwr.le
            have HR := Lib.hid hwr
            have HY := Lib.hid hY
            have HFR := Lib.hid hfr
            have HBX := Lib.hid hbox
            have c2 := (box_cells hbox).2.2.1
            have hszx2 : w.heap.size < wr.heap.size := (Array.getElem?_eq_some_iff.1 hbox).1
            have hclr := hwr.clt
            have hcne := hwr.ne
            by_cases hlt : i < n.kids.length
            · obtain ⟨bb, off, cs, hKK, hbb, hr, hcs⟩ := HK.out.at_ hlt
              subst hKK
              have hr' : wr.rangeAt bb (off + i * 7) cs := rangeAt_keep hr (HFR.out.below.block bb hbb)
              have hnv : NodeV w B n.kids[i] (.agg cs.toArray) := ⟨cs, rfl, hcs⟩
              have hfk : full n.kids[i] ≤ 1000000 := by have := HP.out.kid n.kids[i] (List.getElem_mem hlt); omega
              have hsn : nsz n.kids[i] ≤ m := by have := HGE.out i hlt; have := HM.out; omega
              have hstep := canonL_step hlt
              rw [hstep] at hY
              generalize n.kids[i] = kid at *
              have hY2 : (Y ++ canon kid) ++ (canonL (n.kids.drop (i + 1)) ++ ([60, 47] ++ n.name ++ [62])) = T := by rw [← hY]; simp only [List.append_assoc]
              have hl2 : (Y ++ canon kid).length ≤ 140737488355328 := by rw [← hY2] at hl; rw [List.length_append] at hl; omega
              have hcall := fun W => fun (h1 : Wr B b cl Y W) (h2 : Below B w W) => HIH.out kid (.agg cs.toArray) B b cl Y W hsn hfk h1 (hnv.keep h2.block (Nat.le_refl _)) hl2
              obtain ⟨A', c', K', d', rfl, _, _, _, _⟩ := hcs.open_
              have HC := Lib.hid hcall
              have HY2 := Lib.hid hY2
              have HRR := Lib.hid hr'
              have ccA : ∀ o, (wr.alloc o).cell? ⟨cl, 0, none⟩ = some (wFn b cl) := fun o => (HR.out.alloc o).cell
              clear hr hr' hcs hnv hfk hsn hstep hY hY2 hl2 hcall hwr hfr hbox HY c2
              go_wp2_with (first
                | (with_reducible refine gate ?_; refine wp_load_node rfl _ rfl bb (off + i * 7) rfl _ rfl HRR.out ?_)
                | (go_at_call 20; refine (HC.out _ (HR.out.alloc _) (HFR.out.below.alloc (by omega) _)).mono ?_; rintro e w3 ⟨rfl, h3, f3⟩))
              have hf23 : Fr B b wr w3 := ((Fr.refl B b wr).alloc hlr2 _).trans f3
              have HF23 := Lib.hid hf23
              have H3 := Lib.hid h3
              clear hf23 h3 f3
              go_roundw
              case rel => exact ⟨i + 1, _, by omega, by go_num, H3.out, HY2.out, HFR.out.trans HF23.out, HF23.out.node hbne HBX.out⟩
              case measure => simp [intOf]; omega
            · obtain rfl : i = n.kids.length := by omega
              rw [List.drop_length] at hY
              have hY2 : Y ++ ([60, 47] ++ n.name ++ [62]) = T := by rw [← hY]; rfl
              obtain ⟨L1, e1⟩ : ∃ L1 : Bytes, L1 = [60, 47] ++ n.name := ⟨_, rfl⟩
              obtain ⟨L2, e2⟩ : ∃ L2 : Bytes, L2 = L1 ++ [62] := ⟨_, rfl⟩
              have g1 : ∀ W : World, (Op.stringOp .add ⟨#[60, 47]⟩ (S n.name)).run Tryd.prog W = .ok (.string (S L1)) W := run_cat [60, 47] n.name L1 e1 (by simp only [List.length_cons, List.length_nil]; omega)
              have g2 : ∀ W : World, (Op.stringOp .add (S L1) ⟨#[62]⟩).run Tryd.prog W = .ok (.string (S L2)) W := run_cat L1 [62] L2 e2 (by rw [e1]; simp only [List.length_append, List.length_cons, List.length_nil]; omega)
              rw [← e1, ← e2] at hY2
              have hl2 : Y.length + L2.length ≤ 140737488355328 := by rw [← List.length_append, hY2]; exact hl
              have HY2 := Lib.hid hY2
              clear e1 e2 hY hY2 HY
              go_wp2_with (go_at_call 21; refine (wr_str L2 HR.out hl2).mono ?_; rintro e w2 ⟨rfl, h2, f2⟩)
              go_end0
              refine ⟨rfl, ?_, hfr.trans f2⟩
              rw [← HY2.out]; exact h2
end Go.Proofs.YthilaolkkamedaaDoor
