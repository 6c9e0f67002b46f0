/-
  Walk of chapter 9: the reference's chars, node, Write.
-/
import Derived.Test.YthilaolkkamedaaDoorEsc
import Derived.Test.YthilaolkkamedaaDoorLoad
import Derived.Test.YthilaolkkamedaaDoorName2
import Derived.Test.YthilaolkkamedaaDoorSpec10
import Derived.Test.YthilaolkkamedaaDoorWrite0
import Derived.Deep.RegionHeld3
set_option linter.unusedVariables false
namespace Go.Proofs.YthilaolkkamedaaDoor
open Go.RowKit

set_option maxHeartbeats 1000000 in
set_option maxRecDepth 100000 in
theorem refChars_any (l : Bytes) (w : World) (hl : l.length ≤ 4611686018427387904) :
    Calls Tryd.prog 37 #[.string (S l)] w fun e w' => e = .returned (.bool (charsOk l)) ∧ Below w.heap.size w w' := by
  have hc := refCheck_any l w hl
  have he : charsOk l = ((((check l).2 : Nat) : Int) == 0) := by unfold charsOk; rw [Bool.eq_iff_iff]; simp
  rw [he]
  generalize check l = c at *
  obtain ⟨c1, c2⟩ := c
  have HC := Lib.hid hc
  clear hc he
  go_enter Tryd.func37, Tryd.ntmps37
  go_wp2_with (go_at_call 42; refine HC.out.mono ?_; rintro e w' ⟨rfl, hb⟩)
  go_ret
  exact ⟨rfl, hb⟩

set_option maxHeartbeats 4000000 in
set_option maxRecDepth 100000 in
theorem refNode_text (n : Node) (v : Value) (w : World) (hk : n.kind = 1) (hs : full n ≤ 1000000) (hv : NodeV w w.heap.size n v) :
    Calls Tryd.prog 26 #[v] w fun e w' => e = .returned (.string (S (canon n))) ∧ Below w.heap.size w w' := by
  obtain ⟨A, cap, K, kcap, rfl, ha, hkk, hcap, hkcap⟩ := hv.open_
  have hp := (parts n hs).text
  rw [canon_text hk]
  have t : (n.kind == 1) = true := by rw [hk]; rfl
  have hes := fun W => refEscape_any false n.text W (by omega)
  have HES := Lib.hid hes
  generalize esc false n.text = E at *
  clear hk hs hv ha hkk hp hes
  go_enter Tryd.func26, Tryd.ntmps26
  go_wp2_with (go_at_call 33; refine (HES.out _).mono ?_; rintro e w1 ⟨rfl, hb1⟩)
  go_ret
  exact ⟨rfl, ((Below.refl _ _).alloc (Nat.le_refl _) _).trans (hb1.mono (by simp))⟩

set_option maxHeartbeats 4000000 in
set_option maxRecDepth 100000 in
theorem refNode_any (m : Nat) : ∀ (n : Node) (v : Value) (w : World), nsz n ≤ m → full n ≤ 1000000 → NodeV w w.heap.size n v → (canon n).length ≤ 140737488355000 →
    Calls Tryd.prog 26 #[v] w fun e w' => e = .returned (.string (S (canon n))) ∧ Below w.heap.size w w' := by
  induction m with
  | zero => intro n v w h; cases n; rw [nsz] at h; omega
  | succ m ih =>
    intro n v w hm hs hv hl
    by_cases h1 : n.kind = 1
    · exact refNode_text n v w h1 hs hv
    obtain ⟨A, cap, K, kcap, rfl, ha, hk, hcap, hkcap⟩ := hv.open_
    have hp := parts n hs
    have hge := fun (i : Nat) (h : i < n.kids.length) => nsz_get n h
    have hcan := canon_elem h1
    have t : (n.kind == 1) = false := by rw [beq_eq_false_iff_ne]; exact h1
    have hkl : n.kids.length < 1000000 := hp.kids
    have hal : n.attrs.length < 1000000 := hp.attrs
    have hnl : n.name.length < 1000000 := hp.name
    generalize hT : canon n = T at *
    clear hT
    have HIH := Lib.hid ih
    have HA := Lib.hid ha
    have HK := Lib.hid hk
    have HM := Lib.hid hm
    have HP := Lib.hid hp
    have HGE := Lib.hid hge
    have hst1 : ([60] ++ n.name) ++ (attsC (n.attrs.drop 0) ++ (if n.kids.length = 0 then [47, 62] else [62] ++ canonL n.kids ++ [60, 47] ++ n.name ++ [62])) = T := by rw [hcan, List.drop_zero]; simp only [List.append_assoc]
    generalize hZ : (if n.kids.length = 0 then [47, 62] else [62] ++ canonL n.kids ++ [60, 47] ++ n.name ++ [62]) = Z at *
    obtain ⟨L0, e0⟩ : ∃ L0 : Bytes, L0 = [60] ++ n.name := ⟨_, rfl⟩
    rw [← e0] at hst1
    have g0 : ∀ W : World, (Op.stringOp .add ⟨#[60]⟩ (S n.name)).run Tryd.prog W = .ok (.string (S L0)) W := run_cat [60] n.name L0 e0 (by simp only [List.length_cons, List.length_nil]; omega)
    have HST1 := Lib.hid hst1
    have HZ := Lib.hid hZ
    have hb0 := heap_alloc_new w (nodeBox n A cap K kcap)
    have HB0 := Lib.hid hb0
    clear ih ha hk hm hp hge hst1 hZ hv hs h1 hcan e0 hb0
    go_enter Tryd.func26, Tryd.ntmps26
    go_wp2_with fail
    clear g0
    go_loopw [3, 4] (fun s3 i4 wr => ∃ (i : Nat) (Y : Bytes), i ≤ n.attrs.length ∧ i4 = .int .i64 i ∧ s3 = .string (S Y) ∧ Y ++ (attsC (n.attrs.drop i) ++ Z) = T ∧ Below w.heap.size w wr ∧ wr.heap[w.heap.size]? = some (nodeBox n A cap K kcap)) (fun _ i4 _ => n.attrs.length - (intOf i4).toNat)
    case atStart => exact ⟨0, L0, Nat.zero_le _, rfl, rfl, HST1.out, (Below.refl _ _).alloc (Nat.le_refl _) _, HB0.out⟩
    case round =>
      obtain ⟨i, Y, hi, rfl, rfl, hY, hb, hbox⟩ := hrel
      have hszx : w.heap.size < wr.heap.size := (Array.getElem?_eq_some_iff.1 hbox).1
      have HB := Lib.hid hb
      have HBX := Lib.hid hbox
      have HY := Lib.hid hY
      have c3 := (box_cells hbox).2.2.2.1
      clear HST1 HB0
      by_cases hlt : i < n.attrs.length
      · obtain ⟨bb, off, hAA, hbb, hr⟩ := HA.out.at_ hlt
        subst hAA
        have hr' : wr.rangeAt bb (off + i * 4) (attCells n.attrs[i]) := rangeAt_keep hr (HB.out.block bb hbb)
        have hav : n.attrs[i].value.length < 1000000 ∧ n.attrs[i].name.length < 1000000 := by have := HP.out.att n.attrs[i] (List.getElem_mem hlt); omega
        have hstep := attsC_step hlt
        rw [hstep] at hY
        generalize n.attrs[i] = a at *
        obtain ⟨hav1, hav2⟩ := hav
        have hes := fun W => refEscape_any true a.value W (by omega)
        have hes6 := esc_len true a.value
        have hY2 : (Y ++ attC a) ++ (attsC (n.attrs.drop (i + 1)) ++ Z) = T := by rw [← hY]; simp only [List.append_assoc]
        have hl2 : Y.length + (attC a).length ≤ 140737488355000 := by rw [← hY2] at hl; simp only [List.length_append] at hl ⊢; omega
        have d1 : wr.cell? ⟨bb, off + i * 4 + 1, none⟩ = some (.string (S a.name)) := hr' 1 _ rfl
        have d2 : wr.cell? ⟨bb, off + i * 4 + 2, none⟩ = some (.string (S a.value)) := hr' 2 _ rfl
        unfold attC at hl2
        have HY2 := Lib.hid hY2
        have HES := Lib.hid hes
        clear hr hr' hY hY2 hes hstep hb hbox HY
        generalize hE : esc true a.value = E at *
        have HE := Lib.hid hE
        clear hE
        simp only [List.length_append] at hl2
        obtain ⟨L1, e1⟩ : ∃ L1 : Bytes, L1 = [32] ++ a.name := ⟨_, rfl⟩
        obtain ⟨L2, e2⟩ : ∃ L2 : Bytes, L2 = L1 ++ [61, 34] := ⟨_, rfl⟩
        obtain ⟨L3, e3⟩ : ∃ L3 : Bytes, L3 = L2 ++ E := ⟨_, rfl⟩
        obtain ⟨L4, e4⟩ : ∃ L4 : Bytes, L4 = L3 ++ [34] := ⟨_, rfl⟩
        obtain ⟨L5, e5⟩ : ∃ L5 : Bytes, L5 = Y ++ L4 := ⟨_, rfl⟩
        have g1 : ∀ W : World, (Op.stringOp .add ⟨#[32]⟩ (S a.name)).run Tryd.prog W = .ok (.string (S L1)) W := run_cat [32] a.name L1 e1 (by simp only [List.length_cons, List.length_nil]; omega)
        have g2 : ∀ W : World, (Op.stringOp .add (S L1) ⟨#[61, 34]⟩).run Tryd.prog W = .ok (.string (S L2)) W := run_cat L1 [61, 34] L2 e2 (by rw [e1]; simp only [List.length_append, List.length_cons, List.length_nil]; omega)
        have g3 : ∀ W : World, (Op.stringOp .add (S L2) (S E)).run Tryd.prog W = .ok (.string (S L3)) W := run_cat L2 E L3 e3 (by rw [e2, e1]; simp only [List.length_append, List.length_cons, List.length_nil]; omega)
        have g4 : ∀ W : World, (Op.stringOp .add (S L3) ⟨#[34]⟩).run Tryd.prog W = .ok (.string (S L4)) W := run_cat L3 [34] L4 e4 (by rw [e3, e2, e1]; simp only [List.length_append, List.length_cons, List.length_nil]; omega)
        have g5 : ∀ W : World, (Op.stringOp .add (S Y) (S L4)).run Tryd.prog W = .ok (.string (S L5)) W := run_cat Y L4 L5 e5 (by rw [e4, e3, e2, e1]; simp only [List.length_append, List.length_cons, List.length_nil]; simp only [List.length_cons, List.length_nil] at hl2; omega)
        have hL4 : L5 = Y ++ ([32] ++ a.name ++ [61, 34] ++ E ++ [34]) := by rw [e5, e4, e3, e2, e1]
        have HL4 := Lib.hid hL4
        clear hL4 e1 e2 e3 e4 e5 hl2
        have hlt' : (i : Int) < n.attrs.length := by omega
        go_wp2_with fail
        go_region_held3 (fun x => x.cell? ⟨w.heap.size, 3, none⟩ = some (.slice (some ⟨bb, off, none⟩) n.attrs.length cap) ∧ x.cell? ⟨bb, off + i * 4 + 1, none⟩ = some (.string (S a.name)) ∧ x.cell? ⟨bb, off + i * 4 + 2, none⟩ = some (.string (S a.value)))
          (first | exact ⟨c3, d1, d2⟩ | exact ⟨k3, k1, k2⟩)
          (first
            | ((go_at_call 33; refine (HES.out _).mono ?_; rintro e w2 ⟨rfl, hb2⟩; have k3 := (hb2.cell (p := ⟨w.heap.size, 3, none⟩) (show w.heap.size < wr.heap.size from hszx)).trans c3; have k1 := (hb2.cell (p := ⟨bb, off + i * 4 + 1, none⟩) (show bb < wr.heap.size by omega)).trans d1; have k2 := (hb2.cell (p := ⟨bb, off + i * 4 + 2, none⟩) (show bb < wr.heap.size by omega)).trans d2)))
        have HB2 := Lib.hid hb2
        have hsz2 : wr.heap.size ≤ w2.heap.size := by simpa using hb2.size
        clear hb2 k1 k2 k3 c3 d1 d2 g1 g2 g3 g4 g5
        go_wp2_with fail
        go_roundw
        case rel =>
          refine ⟨i + 1, L5, by omega, by go_num, rfl, ?_, HB.out.drew.trans (HB2.out.mono (Nat.le_of_lt hszx)), (HB2.out.block w.heap.size (by simp; omega)).trans HBX.out⟩
          rw [HL4.out, ← HE.out]
          exact HY2.out
        case measure => simp [intOf]; omega
      · obtain rfl : i = n.attrs.length := by omega
        rw [List.drop_length] at hY
        have hY2 : Y ++ Z = T := by rw [← hY]; rfl
        have hYl : Y.length ≤ 140737488355000 := by rw [← hY2, List.length_append] at hl; omega
        have HY2 := Lib.hid hY2
        have c4 := (box_cells hbox).2.2.2.2.1
        have c2 := (box_cells hbox).2.2.1
        clear hY HY hY2 hb hbox
        by_cases hk0 : n.kids.length = 0
        · have hZ := HZ.out
          rw [if_pos hk0] at hZ
          have hk1 : (((n.kids.length : Nat) : Int) == 0) = true := by rw [hk0]; rfl
          have g1 : ∀ W : World, (Op.stringOp .add (S Y) ⟨#[47, 62]⟩).run Tryd.prog W = .ok (.string (S T)) W := run_cat Y [47, 62] T (by rw [← HY2.out, hZ]) (by simp only [List.length_cons, List.length_nil]; omega)
          clear hZ hk0
          go_wp2_with fail
          go_ret
          exact ⟨rfl, HB.out⟩
        · have hZ := HZ.out
          rw [if_neg hk0] at hZ
          have hk1 : (((n.kids.length : Nat) : Int) == 0) = false := by rw [beq_eq_false_iff_ne]; omega
          obtain ⟨M0, e0⟩ : ∃ M0 : Bytes, M0 = Y ++ [62] := ⟨_, rfl⟩
          have g1 : ∀ W : World, (Op.stringOp .add (S Y) ⟨#[62]⟩).run Tryd.prog W = .ok (.string (S M0)) W := run_cat Y [62] M0 e0 (by simp only [List.length_cons, List.length_nil]; omega)
          have hst2 : M0 ++ (canonL (n.kids.drop 0) ++ ([60, 47] ++ n.name ++ [62])) = T := by rw [← HY2.out, ← hZ, List.drop_zero, e0]; simp only [List.append_assoc]
          have HST2 := Lib.hid hst2
          clear hZ hk0 HZ e0 hst2 HY2
          go_wp2_with fail
          clear g1
          obtain ⟨wo, rfl⟩ : ∃ wo : World, wo = wr := ⟨_, rfl⟩
          go_loopw [3, 5] (fun s3 i5 wr => ∃ (i : Nat) (Y : Bytes), i ≤ n.kids.length ∧ i5 = .int .i64 i ∧ s3 = .string (S Y) ∧ Y ++ (canonL (n.kids.drop i) ++ ([60, 47] ++ n.name ++ [62])) = T ∧ Below w.heap.size w wr ∧ wr.heap[w.heap.size]? = some (nodeBox n A cap K kcap)) (fun _ i5 _ => n.kids.length - (intOf i5).toNat)
          case atStart => exact ⟨0, M0, Nat.zero_le _, rfl, rfl, HST2.out, HB.out, HBX.out⟩
          case round =>
            obtain ⟨i, Y, hi, rfl, rfl, hY, hb, hbox⟩ := hrel
            clear HST2 HB HBX hlt c2 c4 hYl
            have hszx2 : w.heap.size < wr.heap.size := (Array.getElem?_eq_some_iff.1 hbox).1
            have HB := Lib.hid hb
            have HBX := Lib.hid hbox
            have HY := Lib.hid hY
            have c4 := (box_cells hbox).2.2.2.2.1
            have c2 := (box_cells hbox).2.2.1
            by_cases hlt : i < n.kids.length
            · obtain ⟨bb, off, cs, hKK, hbb, hr, hcs⟩ := HK.out.at_ hlt
              subst hKK
              have hr' : wr.rangeAt bb (off + i * 7) cs := rangeAt_keep hr (HB.out.block bb hbb)
              have hnv : NodeV w w.heap.size n.kids[i] (.agg cs.toArray) := ⟨cs, rfl, hcs⟩
              have hfk : full n.kids[i] ≤ 1000000 := by have := HP.out.kid n.kids[i] (List.getElem_mem hlt); omega
              have hsn : nsz n.kids[i] ≤ m := by have := HGE.out i hlt; have := HM.out; omega
              have hstep := canonL_step hlt
              rw [hstep] at hY
              generalize n.kids[i] = kid at *
              have hY2 : (Y ++ canon kid) ++ (canonL (n.kids.drop (i + 1)) ++ ([60, 47] ++ n.name ++ [62])) = T := by rw [← hY]; simp only [List.append_assoc]
              have hl2 : Y.length + (canon kid).length ≤ 140737488355000 := by rw [← hY2] at hl; simp only [List.length_append] at hl; omega
              have hcall := HIH.out kid (.agg cs.toArray) wr hsn hfk (hnv.keep hb.block hb.size) (by omega)
              obtain ⟨A', c', K', d', rfl, _, _, _, _⟩ := hcs.open_
              generalize canon kid = N at *
              obtain ⟨L5, e5⟩ : ∃ L5 : Bytes, L5 = Y ++ N := ⟨_, rfl⟩
              have g5 : ∀ W : World, (Op.stringOp .add (S Y) (S N)).run Tryd.prog W = .ok (.string (S L5)) W := run_cat Y N L5 e5 (by omega)
              rw [← e5] at hY2
              have HC := Lib.hid hcall
              have HY2 := Lib.hid hY2
              have HRR := Lib.hid hr'
              have hlt' : (i : Int) < n.kids.length := by omega
              clear hr hr' hcs hnv hfk hsn hstep hY hY2 hcall hb hbox HY c2 e5
              go_wp2_with (first
                | (with_reducible refine gate ?_; refine wp_load_node rfl _ rfl bb (off + i * 7) rfl _ rfl HRR.out ?_)
                | (go_at_call 26; refine HC.out.mono ?_; rintro e w3 ⟨rfl, hb3⟩))
              have HB3 := Lib.hid hb3
              clear hb3
              go_roundw
              case rel => exact ⟨i + 1, L5, by omega, by go_num, rfl, HY2.out, HB.out.trans (HB3.out.mono (by omega)), (HB3.out.block w.heap.size (by omega)).trans HBX.out⟩
              case measure => simp [intOf]; omega
            · obtain rfl : i = n.kids.length := by omega
              rw [List.drop_length] at hY
              have hY2 : Y ++ ([60, 47] ++ n.name ++ [62]) = T := by rw [← hY]; rfl
              have hl2 := hl
              rw [← hY2] at hl2
              simp only [List.length_append, List.length_cons, List.length_nil] at hl2
              obtain ⟨L1, e1⟩ : ∃ L1 : Bytes, L1 = Y ++ [60, 47] := ⟨_, rfl⟩
              obtain ⟨L2, e2⟩ : ∃ L2 : Bytes, L2 = L1 ++ n.name := ⟨_, rfl⟩
              have g1 : ∀ W : World, (Op.stringOp .add (S Y) ⟨#[60, 47]⟩).run Tryd.prog W = .ok (.string (S L1)) W := run_cat Y [60, 47] L1 e1 (by simp only [List.length_cons, List.length_nil]; omega)
              have g2 : ∀ W : World, (Op.stringOp .add (S L1) (S n.name)).run Tryd.prog W = .ok (.string (S L2)) W := run_cat L1 n.name L2 e2 (by rw [e1]; simp only [List.length_append, List.length_cons, List.length_nil]; omega)
              have g3 : ∀ W : World, (Op.stringOp .add (S L2) ⟨#[62]⟩).run Tryd.prog W = .ok (.string (S T)) W := run_cat L2 [62] T (by rw [← hY2, e2, e1]; simp only [List.append_assoc]) (by rw [e2, e1]; simp only [List.length_append, List.length_cons, List.length_nil]; omega)
              clear e1 e2 hY hY2 HY hl2
              go_wp2_with fail
              go_ret
              exact ⟨rfl, hb⟩
end Go.Proofs.YthilaolkkamedaaDoor
