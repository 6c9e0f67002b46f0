/-
  Walks of chapter 13: Check of an archive (both).
-/
import Derived.Test.YtadkgjbidhfefaaDoorZRchF13
import Derived.Test.YtadkgjbidhfefaaDoorZOrdf13
set_option linter.unusedVariables false
set_option linter.unusedSimpArgs false
namespace Go.Proofs.YtadkgjbidhfefaaDoor
open Go.RowKit

set_option maxHeartbeats 1000000 in
set_option maxRecDepth 100000 in
theorem checkA_any (l : List Fe) (u : Value) (w : World) (hT : TabJ w) (h : ElsP feeE w (· < w.heap.size) u l) (hl : l.length ≤ 1000000000000) (hs : ∀ f ∈ l, FSz f) :
    Calls Tryd.prog 32 #[.agg #[u]] w fun x w' => x = .returned (.int .i64 (er13 (ordFs l))) ∧ Below w.heap.size w w' := by
  have hA0 : Below w.heap.size w (w.alloc (.cells #[u] 50)) := (Below.refl _ _).alloc (Nat.le_refl _) _
  have hor := orderedF_any l u (w.alloc (.cells #[u] 50)) (hT.next hA0) (h.keep feeE_ok hA0.block (fun k hk => Nat.lt_of_lt_of_le hk hA0.size)) hl hs
  obtain ⟨FA, fc, rfl, _⟩ := h.slice
  have HOR := Lib.hid hor
  have HA0 := Lib.hid hA0
  have HCK := Lib.hid (fun b W => checked_any b W)
  clear hor hA0 hT h hs
  generalize ordFs l = R at *
  go_enter Tryd.func32, Tryd.ntmps32
  go_wp2_with (first
    | (go_at_call 67; refine HOR.out.mono ?_; rintro x w1 ⟨rfl, hb1⟩)
    | (go_at_call 62; refine (HCK.out _ _).mono ?_; rintro x w1 ⟨rfl, rfl⟩))
  go_ret
  exact ⟨rfl, HA0.out.trans (hb1.mono (by simp))⟩
set_option maxHeartbeats 8000000 in
set_option maxRecDepth 100000 in
theorem refCheckA_any (l : List Fe) (u : Value) (w : World) (h : ElsP feeE w (· < w.heap.size) u l) (hl : l.length ≤ 1000000000000) (hs : ∀ f ∈ l, FSz f) :
    Calls Tryd.prog 33 #[.agg #[u]] w fun x w' => x = .returned (.int .i64 (er13 (ordFs l))) ∧ Below w.heap.size w w' := by
  obtain ⟨FA, fc, rfl, _⟩ := h.slice
  obtain ⟨R, hR⟩ : ∃ R, ordFs l = R := ⟨_, rfl⟩
  rw [hR]
  have HL := Lib.hid h
  have HS := Lib.hid hs
  have HR0 := Lib.hid (show ordG vldF cmpF Fe.id (l.take 0) (l.drop 0) = R from hR)
  have HW0 := Lib.hid (show Below w.heap.size w (w.alloc (.cells #[.slice FA l.length fc] 50)) from (Below.refl _ _).alloc (Nat.le_refl _) _)
  have HX0 := Lib.hid (heap_alloc_new w (.cells #[.slice FA l.length fc] 50))
  clear h hs hR
  go_enter Tryd.func33, Tryd.ntmps33
  go_wp2_with fail
  go_loopw [3] (fun i4 wr => ∃ i : Nat, i ≤ l.length ∧ i4 = .int .i64 i ∧ ordG vldF cmpF Fe.id ((l).take i) ((l).drop i) = R ∧ Below w.heap.size w wr ∧ wr.heap[w.heap.size]? = some (.cells #[.slice FA l.length fc] 50)) (fun i4 _ => l.length - (intOf i4).toNat)
  case atStart => exact ⟨0, Nat.zero_le _, rfl, HR0.out, HW0.out, HX0.out⟩
  case round =>
    obtain ⟨i, hi, rfl, hres, hb, hX⟩ := hrel
    have HX := Lib.hid hX
    have hwx := heap_lt hX
    have hhd := (show wr.cell? ⟨w.heap.size, 0, none⟩ = some (.slice FA l.length fc) from by rw [Lib.cell_of_heap hX]; rfl)
    have HB := Lib.hid hb
    have hsz := hb.size
    clear hb HR0 HW0 HX0 hX
    by_cases hlt : i < l.length
    · have hlt' : (i : Int) < l.length := by omega
      obtain ⟨b, off, cs, rfl, hpb, hr, hcs⟩ := fees_at (HL.out.keep feeE_ok HB.out.block (fun _ h => h)) hlt
      have hxs := HS.out _ (List.getElem_mem hlt)
      have hbl : b < wr.heap.size := Nat.lt_of_lt_of_le hpb hsz
      have hdr : ∀ W, Below wr.heap.size wr W → W.cell? ⟨w.heap.size, 0, none⟩ = some (.slice (some ⟨b, off, none⟩) l.length fc) := fun W hW => (hW.cell (p := ⟨w.heap.size, 0, none⟩) hwx).trans hhd
      have HDR := Lib.hid hdr
      have hst0 : i = 0 → (vldF l[i] && ordG vldF cmpF Fe.id ((l).take (i + 1)) ((l).drop (i + 1))) = R := fun h => by subst h; rw [← hres, ordG_zero hlt]
      have hst1 : ∀ h : 0 < i, (vldF l[i] && decide (cmpF (l[i - 1]'(by omega)) l[i] < 0) && !((((l).take i).map Fe.id).contains l[i].id) && ordG vldF cmpF Fe.id ((l).take (i + 1)) ((l).drop (i + 1))) = R := fun h => by rw [← hres, ordG_step hlt h]
      have hpr : ∀ h : 0 < i, ∃ ds, wr.rangeAt b (off + (i - 1) * 6) ds ∧ FeeP wr (· < w.heap.size) (l[i - 1]'(by omega)) ds ∧ FSz (l[i - 1]'(by omega)) := fun h => by
        obtain ⟨b', off', ds, hA, _, hr', hds⟩ := fees_at (HL.out.keep feeE_ok HB.out.block (fun _ h => h)) (show i - 1 < l.length by omega)
        cases hA
        exact ⟨ds, hr', hds, HS.out _ (List.getElem_mem _)⟩
      have hcj : ∀ (j : Nat) (hj : j < l.length) W, Below wr.heap.size wr W → W.cell? ⟨w.heap.size, 0, none⟩ = some (.slice (some ⟨b, off, none⟩) l.length fc) ∧ W.cell? ⟨b, off + j * 6 + 1, none⟩ = some (.string (S (l[j]'hj).id)) ∧ W.cell? ⟨b, off + i * 6 + 1, none⟩ = some (.string (S (l[i]'hlt).id)) := fun j hj W hW => by
        obtain ⟨b', off', ds, hA, _, hr', hds⟩ := fees_at (HL.out.keep feeE_ok HB.out.block (fun _ h => h)) hj
        cases hA
        obtain ⟨_, _, _, _, rfl, _⟩ := hds
        obtain ⟨_, _, _, _, rfl, _⟩ := id hcs
        exact ⟨HDR.out W hW, (hW.cell (p := ⟨b, off + j * 6 + 1, none⟩) hbl).trans (hr' 1 _ rfl), (hW.cell (p := ⟨b, off + i * 6 + 1, none⟩) hbl).trans (hr 1 _ rfl)⟩
      obtain ⟨q, hq⟩ : ∃ q, (((l).take i).map Fe.id).contains l[i].id = q := ⟨_, rfl⟩
      have hq0 : i = 0 → q = false := fun h => by subst h; rw [← hq]; rfl
      rw [hq] at hst1
      have HCJ := Lib.hid hcj
      clear hres hcj hdr
      have hxc : l[i] = l[i] := rfl
      generalize l[i] = X at *
      have hvx : ∀ W, Below wr.heap.size wr W → FeeP W (· < W.heap.size) X cs := fun W hW => hcs.keep (fun k hk => hW.block k (Nat.lt_of_lt_of_le hk hsz)) (fun k hk => Nat.lt_of_lt_of_le (Nat.lt_of_lt_of_le hk hsz) hW.size)
      obtain ⟨PA, pc, EB, ed, rfl, _, _, _, _⟩ := hcs
      have HQ := Lib.hid (show ((((l).take i).map Fe.id).drop 0).contains X.id = q from hq)
      generalize hN : ordG vldF cmpF Fe.id ((l).take (i + 1)) ((l).drop (i + 1)) = N at *
      have HN := Lib.hid hN
      have hck := fun W => fun (hW : Below wr.heap.size wr W) => refCheckFeed_any X _ W hxs ⟨_, rfl, hvx W hW⟩
      have hxk : ∀ W, Below wr.heap.size wr W → W.cell? ⟨w.heap.size, 0, none⟩ = some (.slice (some ⟨b, off, none⟩) l.length fc) ∧ W.cell? ⟨b, off + i * 6, none⟩ = some (.slice PA X.path.length pc) ∧ W.cell? ⟨b, off + i * 6 + 1, none⟩ = some (.string (S X.id)) ∧ W.cell? ⟨b, off + i * 6 + 2, none⟩ = some (.string (S X.title)) ∧ W.cell? ⟨b, off + i * 6 + 3, none⟩ = some (.string (S X.link)) ∧ W.cell? ⟨b, off + i * 6 + 4, none⟩ = some (.int .i64 X.upd) ∧ W.cell? ⟨b, off + i * 6 + 5, none⟩ = some (.slice EB X.ents.length ed) := fun W hW => by
        have hr2 := rangeAt_keep hr (hW.block b hbl)
        exact ⟨HDR.out W hW, hr2 0 _ rfl, hr2 1 _ rfl, hr2 2 _ rfl, hr2 3 _ rfl, hr2 4 _ rfl, hr2 5 _ rfl⟩
      have KX := Lib.hid hxk
      clear hN hr hq hxk hxc
      cases hc : vldF X with
      | false =>
        rw [hc] at hck hst0 hst1
        rw [show er13 false = 22 from rfl] at hck
        have hr : R = false := by
          by_cases h : i = 0
          · rw [← hst0 h]; rfl
          · rw [← hst1 (by omega)]; rfl
        have HCK := Lib.hid hck
        have HRR := Lib.hid hr
        have KEEP := KX
        clear hck hst0 hst1 hq0 hpr hr hc
        go_wp2_with fail
        refine wp_region_held_drew (S := fun x => x.cell? ⟨w.heap.size, 0, none⟩ = some (.slice (some ⟨b, off, none⟩) l.length fc) ∧ x.cell? ⟨b, off + i * 6, none⟩ = some (.slice PA X.path.length pc) ∧ x.cell? ⟨b, off + i * 6 + 1, none⟩ = some (.string (S X.id)) ∧ x.cell? ⟨b, off + i * 6 + 2, none⟩ = some (.string (S X.title)) ∧ x.cell? ⟨b, off + i * 6 + 3, none⟩ = some (.string (S X.link)) ∧ x.cell? ⟨b, off + i * 6 + 4, none⟩ = some (.int .i64 X.upd) ∧ x.cell? ⟨b, off + i * 6 + 5, none⟩ = some (.slice EB X.ents.length ed)) (by kernel_rfl) ?_ (fun hHeld => ?_)
        · (try dsimp only); exact KEEP.out _ (Below.refl _ _).drew
        refine wpAnyH_take (i := 0) (oi := (⟨some 12, _, _, _, _, _⟩ : Oper)) (v := ?_) rfl (by kernel_rfl) (by kernel_rfl) (by kernel_rfl) (fun _ _ _ h => h) (Or.inl ⟨by rfl, ?_⟩) (by assumption) ?_
        rotate_left
        · intro wS hSw; (try dsimp only at hSw); go_simp <;> with_reducible rfl
        simp only [Act.put, List.setIfInBounds_toArray, List.set_cons_zero, List.set_cons_succ]
        refine wpAnyH_take (i := 1) (oi := (⟨some 13, _, _, _, _, _⟩ : Oper)) (v := ?_) rfl (by kernel_rfl) (by kernel_rfl) (by kernel_rfl) (fun _ _ _ h => h) (Or.inl ⟨by rfl, ?_⟩) (by assumption) ?_
        rotate_left
        · intro wS hSw; (try dsimp only at hSw); go_simp <;> with_reducible rfl
        simp only [Act.put, List.setIfInBounds_toArray, List.set_cons_zero, List.set_cons_succ]
        refine wpAnyH_take (i := 2) (oi := (⟨some 14, _, _, _, _, _⟩ : Oper)) (v := ?_) rfl (by kernel_rfl) (by kernel_rfl) (by kernel_rfl) (fun _ _ _ h => h) (Or.inl ⟨by rfl, ?_⟩) (by assumption) ?_
        rotate_left
        · intro wS hSw; (try dsimp only at hSw); go_simp <;> with_reducible rfl
        simp only [Act.put, List.setIfInBounds_toArray, List.set_cons_zero, List.set_cons_succ]
        refine wpAnyH_take (i := 3) (oi := (⟨some 15, _, _, _, _, _⟩ : Oper)) (v := ?_) rfl (by kernel_rfl) (by kernel_rfl) (by kernel_rfl) (fun _ _ _ h => h) (Or.inl ⟨by rfl, ?_⟩) (by assumption) ?_
        rotate_left
        · intro wS hSw; (try dsimp only at hSw); go_simp <;> with_reducible rfl
        simp only [Act.put, List.setIfInBounds_toArray, List.set_cons_zero, List.set_cons_succ]
        refine wpAnyH_take (i := 4) (oi := (⟨some 16, _, _, _, _, _⟩ : Oper)) (v := ?_) rfl (by kernel_rfl) (by kernel_rfl) (by kernel_rfl) (fun _ _ _ h => h) (Or.inl ⟨by rfl, ?_⟩) (by assumption) ?_
        rotate_left
        · intro wS hSw; (try dsimp only at hSw); go_simp <;> with_reducible rfl
        simp only [Act.put, List.setIfInBounds_toArray, List.set_cons_zero, List.set_cons_succ]
        refine wpAnyH_ready (rs := [5]) (by kernel_rfl) (by simp) ?_
        refine AllReadyH.cons (o := (⟨some 17, _, _, _, _, _⟩ : Oper)) rfl (fun K hK => ?_) ?_
        rotate_left
        · exact AllReadyH.nil
        go_simp
        (go_at_call 29; (with_reducible refine (HCK.out _ (Below.refl _ _).drew).mono ?_); rintro x w1 ⟨rfl, hb1⟩; have r1 := (Below.refl wr.heap.size wr).drew.trans hb1; have hz1 : wr.heap.size ≤ w1.heap.size := r1.size; clear hb1)
        refine hK.out _ _ ?_ (fun hHeld => ?_)
        · (try dsimp only); exact KEEP.out _ r1
        clear hK K
        try simp only [Act.put, List.setIfInBounds_toArray, List.set_cons_zero, List.set_cons_succ]
        refine wpAnyH_take (i := 6) (oi := (⟨some 18, _, _, _, _, _⟩ : Oper)) (v := ?_) rfl (by kernel_rfl) (by kernel_rfl) (by kernel_rfl) (fun _ _ _ h => h) (Or.inl ⟨by rfl, ?_⟩) (by assumption) ?_
        rotate_left
        · intro wS hSw; (try dsimp only at hSw); go_simp <;> with_reducible rfl
        simp only [Act.put, List.setIfInBounds_toArray, List.set_cons_zero, List.set_cons_succ]
        refine wpAnyH_take (i := 7) (oi := (⟨some 19, _, _, _, _, _⟩ : Oper)) (v := ?_) rfl (by kernel_rfl) (by kernel_rfl) (by kernel_rfl) (fun _ _ _ h => h) (Or.inl ⟨by rfl, ?_⟩) (by assumption) ?_
        rotate_left
        · intro wS hSw; (try dsimp only at hSw); go_simp <;> with_reducible rfl
        simp only [Act.put, List.setIfInBounds_toArray, List.set_cons_zero, List.set_cons_succ]
        refine wpAnyH_take (i := 8) (oi := (⟨some 20, _, _, _, _, _⟩ : Oper)) (v := undef) rfl (by kernel_rfl) (by kernel_rfl) (by kernel_rfl) (fun _ _ _ h => h) (Or.inr ⟨by rfl, rfl⟩) (by assumption) ?_
        simp only [Act.put, List.setIfInBounds_toArray, List.set_cons_zero, List.set_cons_succ]
        refine wpAnyH_take (i := 9) (oi := (⟨some 21, _, _, _, _, _⟩ : Oper)) (v := undef) rfl (by kernel_rfl) (by kernel_rfl) (by kernel_rfl) (fun _ _ _ h => h) (Or.inr ⟨by rfl, rfl⟩) (by assumption) ?_
        simp only [Act.put, List.setIfInBounds_toArray, List.set_cons_zero, List.set_cons_succ]
        refine wpAnyH_take (i := 10) (oi := (⟨some 22, _, _, _, _, _⟩ : Oper)) (v := undef) rfl (by kernel_rfl) (by kernel_rfl) (by kernel_rfl) (fun _ _ _ h => h) (Or.inr ⟨by rfl, rfl⟩) (by assumption) ?_
        simp only [Act.put, List.setIfInBounds_toArray, List.set_cons_zero, List.set_cons_succ]
        refine wpAnyH_take (i := 11) (oi := (⟨some 23, _, _, _, _, _⟩ : Oper)) (v := undef) rfl (by kernel_rfl) (by kernel_rfl) (by kernel_rfl) (fun _ _ _ h => h) (Or.inr ⟨by rfl, rfl⟩) (by assumption) ?_
        simp only [Act.put, List.setIfInBounds_toArray, List.set_cons_zero, List.set_cons_succ]
        refine wpAnyH_take (i := 12) (oi := (⟨some 24, _, _, _, _, _⟩ : Oper)) (v := undef) rfl (by kernel_rfl) (by kernel_rfl) (by kernel_rfl) (fun _ _ _ h => h) (Or.inr ⟨by rfl, rfl⟩) (by assumption) ?_
        simp only [Act.put, List.setIfInBounds_toArray, List.set_cons_zero, List.set_cons_succ]
        refine wpAnyH_take (i := 13) (oi := (⟨some 25, _, _, _, _, _⟩ : Oper)) (v := undef) rfl (by kernel_rfl) (by kernel_rfl) (by kernel_rfl) (fun _ _ _ h => h) (Or.inr ⟨by rfl, rfl⟩) (by assumption) ?_
        simp only [Act.put, List.setIfInBounds_toArray, List.set_cons_zero, List.set_cons_succ]
        refine wpAnyH_take (i := 14) (oi := (⟨some 26, _, _, _, _, _⟩ : Oper)) (v := undef) rfl (by kernel_rfl) (by kernel_rfl) (by kernel_rfl) (fun _ _ _ h => h) (Or.inr ⟨by rfl, rfl⟩) (by assumption) ?_
        simp only [Act.put, List.setIfInBounds_toArray, List.set_cons_zero, List.set_cons_succ]
        refine wpAnyH_take (i := 15) (oi := (⟨some 27, _, _, _, _, _⟩ : Oper)) (v := undef) rfl (by kernel_rfl) (by kernel_rfl) (by kernel_rfl) (fun _ _ _ h => h) (Or.inr ⟨by rfl, rfl⟩) (by assumption) ?_
        simp only [Act.put, List.setIfInBounds_toArray, List.set_cons_zero, List.set_cons_succ]
        refine wpAnyH_take (i := 16) (oi := (⟨some 28, _, _, _, _, _⟩ : Oper)) (v := undef) rfl (by kernel_rfl) (by kernel_rfl) (by kernel_rfl) (fun _ _ _ h => h) (Or.inr ⟨by rfl, rfl⟩) (by assumption) ?_
        simp only [Act.put, List.setIfInBounds_toArray, List.set_cons_zero, List.set_cons_succ]
        refine wpAnyH_take (i := 17) (oi := (⟨some 29, _, _, _, _, _⟩ : Oper)) (v := undef) rfl (by kernel_rfl) (by kernel_rfl) (by kernel_rfl) (fun _ _ _ h => h) (Or.inr ⟨by rfl, rfl⟩) (by assumption) ?_
        simp only [Act.put, List.setIfInBounds_toArray, List.set_cons_zero, List.set_cons_succ]
        refine wpAnyH_take (i := 18) (oi := (⟨some 30, _, _, _, _, _⟩ : Oper)) (v := undef) rfl (by kernel_rfl) (by kernel_rfl) (by kernel_rfl) (fun _ _ _ h => h) (Or.inr ⟨by rfl, rfl⟩) (by assumption) ?_
        simp only [Act.put, List.setIfInBounds_toArray, List.set_cons_zero, List.set_cons_succ]
        refine wpAnyH_take (i := 19) (oi := (⟨some 31, _, _, _, _, _⟩ : Oper)) (v := undef) rfl (by kernel_rfl) (by kernel_rfl) (by kernel_rfl) (fun _ _ _ h => h) (Or.inr ⟨by rfl, rfl⟩) (by assumption) ?_
        simp only [Act.put, List.setIfInBounds_toArray, List.set_cons_zero, List.set_cons_succ]
        refine wpAnyH_take (i := 20) (oi := (⟨some 32, _, _, _, _, _⟩ : Oper)) (v := undef) rfl (by kernel_rfl) (by kernel_rfl) (by kernel_rfl) (fun _ _ _ h => h) (Or.inr ⟨by rfl, rfl⟩) (by assumption) ?_
        simp only [Act.put, List.setIfInBounds_toArray, List.set_cons_zero, List.set_cons_succ]
        refine wpAnyH_take (i := 21) (oi := (⟨some 33, _, _, _, _, _⟩ : Oper)) (v := undef) rfl (by kernel_rfl) (by kernel_rfl) (by kernel_rfl) (fun _ _ _ h => h) (Or.inr ⟨by rfl, rfl⟩) (by assumption) ?_
        simp only [Act.put, List.setIfInBounds_toArray, List.set_cons_zero, List.set_cons_succ]
        refine wpAnyH_take (i := 22) (oi := (⟨some 34, _, _, _, _, _⟩ : Oper)) (v := undef) rfl (by kernel_rfl) (by kernel_rfl) (by kernel_rfl) (fun _ _ _ h => h) (Or.inr ⟨by rfl, rfl⟩) (by assumption) ?_
        simp only [Act.put, List.setIfInBounds_toArray, List.set_cons_zero, List.set_cons_succ]
        refine wpAnyH_take (i := 23) (oi := (⟨some 35, _, _, _, _, _⟩ : Oper)) (v := undef) rfl (by kernel_rfl) (by kernel_rfl) (by kernel_rfl) (fun _ _ _ h => h) (Or.inr ⟨by rfl, rfl⟩) (by assumption) ?_
        simp only [Act.put, List.setIfInBounds_toArray, List.set_cons_zero, List.set_cons_succ]
        refine wpAnyH_take (i := 24) (oi := (⟨some 36, _, _, _, _, _⟩ : Oper)) (v := undef) rfl (by kernel_rfl) (by kernel_rfl) (by kernel_rfl) (fun _ _ _ h => h) (Or.inr ⟨by rfl, rfl⟩) (by assumption) ?_
        simp only [Act.put, List.setIfInBounds_toArray, List.set_cons_zero, List.set_cons_succ]
        refine wpAnyH_take (i := 25) (oi := (⟨some 37, _, _, _, _, _⟩ : Oper)) (v := ?_) rfl (by kernel_rfl) (by kernel_rfl) (by kernel_rfl) (fun _ _ _ h => h) (Or.inl ⟨by rfl, ?_⟩) (by assumption) ?_
        rotate_left
        · intro wS hSw; (try dsimp only at hSw); go_simp <;> with_reducible rfl
        simp only [Act.put, List.setIfInBounds_toArray, List.set_cons_zero, List.set_cons_succ]
        refine wpAnyH_done (by kernel_rfl) ?_ _
        have HRB := Lib.hid r1
        clear r1
        go_wp2_with fail
        go_ret
        exact ⟨ret_int (by rw [HRR.out]; rfl), HB.out.trans (HRB.out.mono hsz)⟩
      | true =>
        rw [hc] at hck hst0 hst1
        rw [show er13 true = 0 from rfl] at hck
        simp only [Bool.true_and] at hst0 hst1
        have HCK := Lib.hid hck
        clear hck hc
        by_cases h0 : i = 0
        · have q0 : decide ((0 : Int) < (i : Int)) = false := decide_eq_false (by omega)
          have q0' : decide (0 < i) = false := decide_eq_false (by omega)
          have HST := Lib.hid (show (!q && N) = R by rw [hq0 h0, ← hst0 h0]; rfl)
          have KEEP := KX
          clear hst0 hst1 hq0 hpr h0
          go_wp2_with fail
          refine wp_region_held_drew (S := fun x => x.cell? ⟨w.heap.size, 0, none⟩ = some (.slice (some ⟨b, off, none⟩) l.length fc) ∧ x.cell? ⟨b, off + i * 6, none⟩ = some (.slice PA X.path.length pc) ∧ x.cell? ⟨b, off + i * 6 + 1, none⟩ = some (.string (S X.id)) ∧ x.cell? ⟨b, off + i * 6 + 2, none⟩ = some (.string (S X.title)) ∧ x.cell? ⟨b, off + i * 6 + 3, none⟩ = some (.string (S X.link)) ∧ x.cell? ⟨b, off + i * 6 + 4, none⟩ = some (.int .i64 X.upd) ∧ x.cell? ⟨b, off + i * 6 + 5, none⟩ = some (.slice EB X.ents.length ed)) (by kernel_rfl) ?_ (fun hHeld => ?_)
          · (try dsimp only); exact KEEP.out _ (Below.refl _ _).drew
          refine wpAnyH_take (i := 0) (oi := (⟨some 12, _, _, _, _, _⟩ : Oper)) (v := ?_) rfl (by kernel_rfl) (by kernel_rfl) (by kernel_rfl) (fun _ _ _ h => h) (Or.inl ⟨by rfl, ?_⟩) (by assumption) ?_
          rotate_left
          · intro wS hSw; (try dsimp only at hSw); go_simp <;> with_reducible rfl
          simp only [Act.put, List.setIfInBounds_toArray, List.set_cons_zero, List.set_cons_succ]
          refine wpAnyH_take (i := 1) (oi := (⟨some 13, _, _, _, _, _⟩ : Oper)) (v := ?_) rfl (by kernel_rfl) (by kernel_rfl) (by kernel_rfl) (fun _ _ _ h => h) (Or.inl ⟨by rfl, ?_⟩) (by assumption) ?_
          rotate_left
          · intro wS hSw; (try dsimp only at hSw); go_simp <;> with_reducible rfl
          simp only [Act.put, List.setIfInBounds_toArray, List.set_cons_zero, List.set_cons_succ]
          refine wpAnyH_take (i := 2) (oi := (⟨some 14, _, _, _, _, _⟩ : Oper)) (v := ?_) rfl (by kernel_rfl) (by kernel_rfl) (by kernel_rfl) (fun _ _ _ h => h) (Or.inl ⟨by rfl, ?_⟩) (by assumption) ?_
          rotate_left
          · intro wS hSw; (try dsimp only at hSw); go_simp <;> with_reducible rfl
          simp only [Act.put, List.setIfInBounds_toArray, List.set_cons_zero, List.set_cons_succ]
          refine wpAnyH_take (i := 3) (oi := (⟨some 15, _, _, _, _, _⟩ : Oper)) (v := ?_) rfl (by kernel_rfl) (by kernel_rfl) (by kernel_rfl) (fun _ _ _ h => h) (Or.inl ⟨by rfl, ?_⟩) (by assumption) ?_
          rotate_left
          · intro wS hSw; (try dsimp only at hSw); go_simp <;> with_reducible rfl
          simp only [Act.put, List.setIfInBounds_toArray, List.set_cons_zero, List.set_cons_succ]
          refine wpAnyH_take (i := 4) (oi := (⟨some 16, _, _, _, _, _⟩ : Oper)) (v := ?_) rfl (by kernel_rfl) (by kernel_rfl) (by kernel_rfl) (fun _ _ _ h => h) (Or.inl ⟨by rfl, ?_⟩) (by assumption) ?_
          rotate_left
          · intro wS hSw; (try dsimp only at hSw); go_simp <;> with_reducible rfl
          simp only [Act.put, List.setIfInBounds_toArray, List.set_cons_zero, List.set_cons_succ]
          refine wpAnyH_ready (rs := [5]) (by kernel_rfl) (by simp) ?_
          refine AllReadyH.cons (o := (⟨some 17, _, _, _, _, _⟩ : Oper)) rfl (fun K hK => ?_) ?_
          rotate_left
          · exact AllReadyH.nil
          go_simp
          (go_at_call 29; (with_reducible refine (HCK.out _ (Below.refl _ _).drew).mono ?_); rintro x w1 ⟨rfl, hb1⟩; have r1 := (Below.refl wr.heap.size wr).drew.trans hb1; have hz1 : wr.heap.size ≤ w1.heap.size := r1.size; clear hb1)
          refine hK.out _ _ ?_ (fun hHeld => ?_)
          · (try dsimp only); exact KEEP.out _ r1
          clear hK K
          try simp only [Act.put, List.setIfInBounds_toArray, List.set_cons_zero, List.set_cons_succ]
          refine wpAnyH_take (i := 6) (oi := (⟨some 18, _, _, _, _, _⟩ : Oper)) (v := ?_) rfl (by kernel_rfl) (by kernel_rfl) (by kernel_rfl) (fun _ _ _ h => h) (Or.inl ⟨by rfl, ?_⟩) (by assumption) ?_
          rotate_left
          · intro wS hSw; (try dsimp only at hSw); go_simp <;> with_reducible rfl
          simp only [Act.put, List.setIfInBounds_toArray, List.set_cons_zero, List.set_cons_succ]
          refine wpAnyH_take (i := 7) (oi := (⟨some 19, _, _, _, _, _⟩ : Oper)) (v := ?_) rfl (by kernel_rfl) (by kernel_rfl) (by kernel_rfl) (fun _ _ _ h => h) (Or.inl ⟨by rfl, ?_⟩) (by assumption) ?_
          rotate_left
          · intro wS hSw; (try dsimp only at hSw); go_simp <;> with_reducible rfl
          simp only [Act.put, List.setIfInBounds_toArray, List.set_cons_zero, List.set_cons_succ]
          refine wpAnyH_take (i := 8) (oi := (⟨some 20, _, _, _, _, _⟩ : Oper)) (v := ?_) rfl (by kernel_rfl) (by kernel_rfl) (by kernel_rfl) (fun _ _ _ h => h) (Or.inl ⟨by rfl, ?_⟩) (by assumption) ?_
          rotate_left
          · intro wS hSw; (try dsimp only at hSw); go_simp <;> with_reducible rfl
          simp only [Act.put, List.setIfInBounds_toArray, List.set_cons_zero, List.set_cons_succ]
          refine wpAnyH_take (i := 9) (oi := (⟨some 21, _, _, _, _, _⟩ : Oper)) (v := ?_) rfl (by kernel_rfl) (by kernel_rfl) (by kernel_rfl) (fun _ _ _ h => h) (Or.inl ⟨by rfl, ?_⟩) (by assumption) ?_
          rotate_left
          · intro wS hSw; (try dsimp only at hSw); go_simp <;> with_reducible rfl
          simp only [Act.put, List.setIfInBounds_toArray, List.set_cons_zero, List.set_cons_succ]
          refine wpAnyH_take (i := 10) (oi := (⟨some 22, _, _, _, _, _⟩ : Oper)) (v := ?_) rfl (by kernel_rfl) (by kernel_rfl) (by kernel_rfl) (fun _ _ _ h => h) (Or.inl ⟨by rfl, ?_⟩) (by assumption) ?_
          rotate_left
          · intro wS hSw; (try dsimp only at hSw); go_simp <;> with_reducible rfl
          simp only [Act.put, List.setIfInBounds_toArray, List.set_cons_zero, List.set_cons_succ]
          refine wpAnyH_take (i := 11) (oi := (⟨some 23, _, _, _, _, _⟩ : Oper)) (v := undef) rfl (by kernel_rfl) (by kernel_rfl) (by kernel_rfl) (fun _ _ _ h => h) (Or.inr ⟨by rfl, rfl⟩) (by assumption) ?_
          simp only [Act.put, List.setIfInBounds_toArray, List.set_cons_zero, List.set_cons_succ]
          refine wpAnyH_take (i := 12) (oi := (⟨some 24, _, _, _, _, _⟩ : Oper)) (v := undef) rfl (by kernel_rfl) (by kernel_rfl) (by kernel_rfl) (fun _ _ _ h => h) (Or.inr ⟨by rfl, rfl⟩) (by assumption) ?_
          simp only [Act.put, List.setIfInBounds_toArray, List.set_cons_zero, List.set_cons_succ]
          refine wpAnyH_take (i := 13) (oi := (⟨some 25, _, _, _, _, _⟩ : Oper)) (v := undef) rfl (by kernel_rfl) (by kernel_rfl) (by kernel_rfl) (fun _ _ _ h => h) (Or.inr ⟨by rfl, rfl⟩) (by assumption) ?_
          simp only [Act.put, List.setIfInBounds_toArray, List.set_cons_zero, List.set_cons_succ]
          refine wpAnyH_take (i := 14) (oi := (⟨some 26, _, _, _, _, _⟩ : Oper)) (v := undef) rfl (by kernel_rfl) (by kernel_rfl) (by kernel_rfl) (fun _ _ _ h => h) (Or.inr ⟨by rfl, rfl⟩) (by assumption) ?_
          simp only [Act.put, List.setIfInBounds_toArray, List.set_cons_zero, List.set_cons_succ]
          refine wpAnyH_take (i := 15) (oi := (⟨some 27, _, _, _, _, _⟩ : Oper)) (v := undef) rfl (by kernel_rfl) (by kernel_rfl) (by kernel_rfl) (fun _ _ _ h => h) (Or.inr ⟨by rfl, rfl⟩) (by assumption) ?_
          simp only [Act.put, List.setIfInBounds_toArray, List.set_cons_zero, List.set_cons_succ]
          refine wpAnyH_take (i := 16) (oi := (⟨some 28, _, _, _, _, _⟩ : Oper)) (v := undef) rfl (by kernel_rfl) (by kernel_rfl) (by kernel_rfl) (fun _ _ _ h => h) (Or.inr ⟨by rfl, rfl⟩) (by assumption) ?_
          simp only [Act.put, List.setIfInBounds_toArray, List.set_cons_zero, List.set_cons_succ]
          refine wpAnyH_take (i := 17) (oi := (⟨some 29, _, _, _, _, _⟩ : Oper)) (v := undef) rfl (by kernel_rfl) (by kernel_rfl) (by kernel_rfl) (fun _ _ _ h => h) (Or.inr ⟨by rfl, rfl⟩) (by assumption) ?_
          simp only [Act.put, List.setIfInBounds_toArray, List.set_cons_zero, List.set_cons_succ]
          refine wpAnyH_take (i := 18) (oi := (⟨some 30, _, _, _, _, _⟩ : Oper)) (v := undef) rfl (by kernel_rfl) (by kernel_rfl) (by kernel_rfl) (fun _ _ _ h => h) (Or.inr ⟨by rfl, rfl⟩) (by assumption) ?_
          simp only [Act.put, List.setIfInBounds_toArray, List.set_cons_zero, List.set_cons_succ]
          refine wpAnyH_take (i := 19) (oi := (⟨some 31, _, _, _, _, _⟩ : Oper)) (v := undef) rfl (by kernel_rfl) (by kernel_rfl) (by kernel_rfl) (fun _ _ _ h => h) (Or.inr ⟨by rfl, rfl⟩) (by assumption) ?_
          simp only [Act.put, List.setIfInBounds_toArray, List.set_cons_zero, List.set_cons_succ]
          refine wpAnyH_take (i := 20) (oi := (⟨some 32, _, _, _, _, _⟩ : Oper)) (v := undef) rfl (by kernel_rfl) (by kernel_rfl) (by kernel_rfl) (fun _ _ _ h => h) (Or.inr ⟨by rfl, rfl⟩) (by assumption) ?_
          simp only [Act.put, List.setIfInBounds_toArray, List.set_cons_zero, List.set_cons_succ]
          refine wpAnyH_take (i := 21) (oi := (⟨some 33, _, _, _, _, _⟩ : Oper)) (v := undef) rfl (by kernel_rfl) (by kernel_rfl) (by kernel_rfl) (fun _ _ _ h => h) (Or.inr ⟨by rfl, rfl⟩) (by assumption) ?_
          simp only [Act.put, List.setIfInBounds_toArray, List.set_cons_zero, List.set_cons_succ]
          refine wpAnyH_take (i := 22) (oi := (⟨some 34, _, _, _, _, _⟩ : Oper)) (v := undef) rfl (by kernel_rfl) (by kernel_rfl) (by kernel_rfl) (fun _ _ _ h => h) (Or.inr ⟨by rfl, rfl⟩) (by assumption) ?_
          simp only [Act.put, List.setIfInBounds_toArray, List.set_cons_zero, List.set_cons_succ]
          refine wpAnyH_take (i := 23) (oi := (⟨some 35, _, _, _, _, _⟩ : Oper)) (v := undef) rfl (by kernel_rfl) (by kernel_rfl) (by kernel_rfl) (fun _ _ _ h => h) (Or.inr ⟨by rfl, rfl⟩) (by assumption) ?_
          simp only [Act.put, List.setIfInBounds_toArray, List.set_cons_zero, List.set_cons_succ]
          refine wpAnyH_take (i := 24) (oi := (⟨some 36, _, _, _, _, _⟩ : Oper)) (v := ?_) rfl (by kernel_rfl) (by kernel_rfl) (by kernel_rfl) (fun _ _ _ h => h) (Or.inl ⟨by rfl, ?_⟩) (by assumption) ?_
          rotate_left
          · intro wS hSw; (try dsimp only at hSw); go_simp <;> with_reducible rfl
          simp only [Act.put, List.setIfInBounds_toArray, List.set_cons_zero, List.set_cons_succ]
          refine wpAnyH_take (i := 25) (oi := (⟨some 37, _, _, _, _, _⟩ : Oper)) (v := ?_) rfl (by kernel_rfl) (by kernel_rfl) (by kernel_rfl) (fun _ _ _ h => h) (Or.inl ⟨by rfl, ?_⟩) (by assumption) ?_
          rotate_left
          · intro wS hSw; (try dsimp only at hSw); go_simp <;> with_reducible rfl
          simp only [Act.put, List.setIfInBounds_toArray, List.set_cons_zero, List.set_cons_succ]
          refine wpAnyH_done (by kernel_rfl) ?_ _
          have HRB := Lib.hid r1
          have hzr : w.heap.size ≤ w1.heap.size := Nat.le_trans hsz r1.size
          have HWC := Lib.hid (HB.out.trans (r1.mono hsz))
          clear r1
          go_wp2_with fail
          obtain ⟨wo, rfl⟩ : ∃ x : World, x = wr := ⟨_, rfl⟩
          go_loopw [4] (fun j5 wr => ∃ j : Nat, j ≤ i ∧ j5 = .int .i64 j ∧ ((((l).take i).map Fe.id).drop j).contains X.id = q ∧ Below wo.heap.size wo wr) (fun j5 _ => i - (intOf j5).toNat)
          case atStart => exact ⟨0, Nat.zero_le _, rfl, HQ.out, HRB.out⟩
          case round =>
            obtain ⟨j, hj, rfl, hres, hb⟩ := hrel
            have HRQ := Lib.hid hb
            have hzq : wo.heap.size ≤ wr.heap.size := hb.size
            clear hb HRB
            by_cases hlj : j < i
            · have hlj' : (j : Int) < i := by omega
              have hjl : j < l.length := by omega
              have hjl' : (j : Int) < l.length := by omega
              have hcj := HCJ.out j hjl wr HRQ.out
              obtain ⟨c1, c2, c3⟩ := hcj
              rw [drop_ids hlj (by omega)] at hres
              generalize (l[j]'hjl).id = y at *
              by_cases hy : y = X.id
              · subst hy
                have hq : q = true := by rw [← hres]; simp
                have HRR := Lib.hid (show R = false by have := HST.out; rw [hq] at this; rw [← this]; rfl)
                clear hres hq
                go_wp2_with fail
                go_quiet (fail)
                go_wp2_with fail
                go_ret
                exact ⟨ret_int (by rw [HRR.out]; rfl), (HB.out.trans (HRQ.out.mono hsz)).trans ((below_drewN13 _ _).mono (Nat.le_trans hsz hzq))⟩
              · have t1 : (y == X.id) = false := by rw [beq_eq_false_iff_ne]; exact hy
                have t2 : (X.id == y) = false := by rw [beq_eq_false_iff_ne]; exact fun e => hy e.symm
                rw [List.contains_cons, t2, Bool.false_or] at hres
                have HRES := Lib.hid hres
                clear hres hy t2
                go_wp2_with fail
                go_quiet (fail)
                go_wp2_with fail
                go_roundw
                case rel => exact ⟨j + 1, by omega, by go_num, HRES.out, HRQ.out.trans ((below_drewN13 _ _).mono hzq)⟩
                case measure => simp [intOf]; omega
            · obtain rfl : j = i := by omega
              have hq : q = false := by rw [← hres, List.drop_of_length_le (by simp; omega)]; rfl
              have HRR := Lib.hid (show ordG vldF cmpF Fe.id ((l).take (j + 1)) ((l).drop (j + 1)) = R by have := HST.out; rw [hq, Bool.not_false, Bool.true_and] at this; rw [HN.out]; exact this)
              have hlj' : ¬ ((j : Int) < j) := by omega
              clear hres hq hlj
              go_wp2_with fail
              go_roundw
              case rel => exact ⟨j + 1, by omega, by go_num, HRR.out, HB.out.trans (HRQ.out.mono hsz), (HRQ.out.block _ hwx).trans HX.out⟩
              case measure => simp [intOf]; omega
        · have q0 : decide ((0 : Int) < (i : Int)) = true := decide_eq_true (by omega)
          have q0' : decide (0 < i) = true := decide_eq_true (by omega)
          have w1' : IntKind.i64.wrap ((i : Int) - 1) = (i : Int) - 1 := by rw [IntKind.wrap_i64]; omega
          have w2' : (0 : Int) ≤ (i : Int) - 1 := by omega
          have w3' : ((i : Int) - 1).toNat = i - 1 := by omega
          have w4' : (i : Int) - 1 < l.length := by omega
          have w5' : (1 : Int) ≤ i := by omega
          obtain ⟨ds, hpr1, hds, hpz⟩ := hpr (by omega)
          have hst := hst1 (by omega)
          generalize (l[i - 1]'(by omega)) = P at *
          have hvp : ∀ W, Below wr.heap.size wr W → FeeP W (· < W.heap.size) P ds := fun W hW => hds.keep (fun k hk => hW.block k (Nat.lt_of_lt_of_le hk hsz)) (fun k hk => Nat.lt_of_lt_of_le (Nat.lt_of_lt_of_le hk hsz) hW.size)
          obtain ⟨QA, qc, FB, fd, rfl, _, _, _, _⟩ := hds
          have hcm := fun W => fun (hW : Below wr.heap.size wr W) => refCmpFeeds_any P X _ _ W ⟨_, rfl, hvp W hW⟩ ⟨_, rfl, hvx W hW⟩ (by have := hpz.path; omega) (by have := hxs.path; omega)
          generalize cmpF P X = m at *
          have HCM := Lib.hid hcm
          have KEEP : Hid (∀ W, Below wr.heap.size wr W → (W.cell? ⟨w.heap.size, 0, none⟩ = some (.slice (some ⟨b, off, none⟩) l.length fc) ∧ W.cell? ⟨b, off + i * 6, none⟩ = some (.slice PA X.path.length pc) ∧ W.cell? ⟨b, off + i * 6 + 1, none⟩ = some (.string (S X.id)) ∧ W.cell? ⟨b, off + i * 6 + 2, none⟩ = some (.string (S X.title)) ∧ W.cell? ⟨b, off + i * 6 + 3, none⟩ = some (.string (S X.link)) ∧ W.cell? ⟨b, off + i * 6 + 4, none⟩ = some (.int .i64 X.upd) ∧ W.cell? ⟨b, off + i * 6 + 5, none⟩ = some (.slice EB X.ents.length ed)) ∧ (W.cell? ⟨b, off + (i - 1) * 6, none⟩ = some (.slice QA P.path.length qc) ∧ W.cell? ⟨b, off + (i - 1) * 6 + 1, none⟩ = some (.string (S P.id)) ∧ W.cell? ⟨b, off + (i - 1) * 6 + 2, none⟩ = some (.string (S P.title)) ∧ W.cell? ⟨b, off + (i - 1) * 6 + 3, none⟩ = some (.string (S P.link)) ∧ W.cell? ⟨b, off + (i - 1) * 6 + 4, none⟩ = some (.int .i64 P.upd) ∧ W.cell? ⟨b, off + (i - 1) * 6 + 5, none⟩ = some (.slice FB P.ents.length fd))) := fun W hW => by
            have hr2 := rangeAt_keep hpr1 (hW.block b hbl)
            exact ⟨KX.out W hW, hr2 0 _ rfl, hr2 1 _ rfl, hr2 2 _ rfl, hr2 3 _ rfl, hr2 4 _ rfl, hr2 5 _ rfl⟩
          clear hcm hpr hpr1 hst0 hst1 hq0 h0
          by_cases hm : m < 0
          · have qm : decide ((0 : Int) ≤ m) = false := decide_eq_false (by omega)
            rw [decide_eq_true hm] at hst
            simp only [Bool.true_and] at hst
            have HST := Lib.hid hst
            clear hst hm
            go_wp2_with fail
            refine wp_region_held_drew (S := fun x => (x.cell? ⟨w.heap.size, 0, none⟩ = some (.slice (some ⟨b, off, none⟩) l.length fc) ∧ x.cell? ⟨b, off + i * 6, none⟩ = some (.slice PA X.path.length pc) ∧ x.cell? ⟨b, off + i * 6 + 1, none⟩ = some (.string (S X.id)) ∧ x.cell? ⟨b, off + i * 6 + 2, none⟩ = some (.string (S X.title)) ∧ x.cell? ⟨b, off + i * 6 + 3, none⟩ = some (.string (S X.link)) ∧ x.cell? ⟨b, off + i * 6 + 4, none⟩ = some (.int .i64 X.upd) ∧ x.cell? ⟨b, off + i * 6 + 5, none⟩ = some (.slice EB X.ents.length ed)) ∧ (x.cell? ⟨b, off + (i - 1) * 6, none⟩ = some (.slice QA P.path.length qc) ∧ x.cell? ⟨b, off + (i - 1) * 6 + 1, none⟩ = some (.string (S P.id)) ∧ x.cell? ⟨b, off + (i - 1) * 6 + 2, none⟩ = some (.string (S P.title)) ∧ x.cell? ⟨b, off + (i - 1) * 6 + 3, none⟩ = some (.string (S P.link)) ∧ x.cell? ⟨b, off + (i - 1) * 6 + 4, none⟩ = some (.int .i64 P.upd) ∧ x.cell? ⟨b, off + (i - 1) * 6 + 5, none⟩ = some (.slice FB P.ents.length fd))) (by kernel_rfl) ?_ (fun hHeld => ?_)
            · (try dsimp only); exact KEEP.out _ (Below.refl _ _).drew
            refine wpAnyH_take (i := 0) (oi := (⟨some 12, _, _, _, _, _⟩ : Oper)) (v := ?_) rfl (by kernel_rfl) (by kernel_rfl) (by kernel_rfl) (fun _ _ _ h => h) (Or.inl ⟨by rfl, ?_⟩) (by assumption) ?_
            rotate_left
            · intro wS hSw; (try dsimp only at hSw); go_simp <;> with_reducible rfl
            simp only [Act.put, List.setIfInBounds_toArray, List.set_cons_zero, List.set_cons_succ]
            refine wpAnyH_take (i := 1) (oi := (⟨some 13, _, _, _, _, _⟩ : Oper)) (v := ?_) rfl (by kernel_rfl) (by kernel_rfl) (by kernel_rfl) (fun _ _ _ h => h) (Or.inl ⟨by rfl, ?_⟩) (by assumption) ?_
            rotate_left
            · intro wS hSw; (try dsimp only at hSw); go_simp <;> with_reducible rfl
            simp only [Act.put, List.setIfInBounds_toArray, List.set_cons_zero, List.set_cons_succ]
            refine wpAnyH_take (i := 2) (oi := (⟨some 14, _, _, _, _, _⟩ : Oper)) (v := ?_) rfl (by kernel_rfl) (by kernel_rfl) (by kernel_rfl) (fun _ _ _ h => h) (Or.inl ⟨by rfl, ?_⟩) (by assumption) ?_
            rotate_left
            · intro wS hSw; (try dsimp only at hSw); go_simp <;> with_reducible rfl
            simp only [Act.put, List.setIfInBounds_toArray, List.set_cons_zero, List.set_cons_succ]
            refine wpAnyH_take (i := 3) (oi := (⟨some 15, _, _, _, _, _⟩ : Oper)) (v := ?_) rfl (by kernel_rfl) (by kernel_rfl) (by kernel_rfl) (fun _ _ _ h => h) (Or.inl ⟨by rfl, ?_⟩) (by assumption) ?_
            rotate_left
            · intro wS hSw; (try dsimp only at hSw); go_simp <;> with_reducible rfl
            simp only [Act.put, List.setIfInBounds_toArray, List.set_cons_zero, List.set_cons_succ]
            refine wpAnyH_take (i := 4) (oi := (⟨some 16, _, _, _, _, _⟩ : Oper)) (v := ?_) rfl (by kernel_rfl) (by kernel_rfl) (by kernel_rfl) (fun _ _ _ h => h) (Or.inl ⟨by rfl, ?_⟩) (by assumption) ?_
            rotate_left
            · intro wS hSw; (try dsimp only at hSw); go_simp <;> with_reducible rfl
            simp only [Act.put, List.setIfInBounds_toArray, List.set_cons_zero, List.set_cons_succ]
            refine wpAnyH_ready (rs := [5]) (by kernel_rfl) (by simp) ?_
            refine AllReadyH.cons (o := (⟨some 17, _, _, _, _, _⟩ : Oper)) rfl (fun K hK => ?_) ?_
            rotate_left
            · exact AllReadyH.nil
            go_simp
            (go_at_call 29; (with_reducible refine (HCK.out _ (Below.refl _ _).drew).mono ?_); rintro x w1 ⟨rfl, hb1⟩; have r1 := (Below.refl wr.heap.size wr).drew.trans hb1; have hz1 : wr.heap.size ≤ w1.heap.size := r1.size; clear hb1)
            refine hK.out _ _ ?_ (fun hHeld => ?_)
            · (try dsimp only); exact KEEP.out _ r1
            clear hK K
            try simp only [Act.put, List.setIfInBounds_toArray, List.set_cons_zero, List.set_cons_succ]
            refine wpAnyH_take (i := 6) (oi := (⟨some 18, _, _, _, _, _⟩ : Oper)) (v := ?_) rfl (by kernel_rfl) (by kernel_rfl) (by kernel_rfl) (fun _ _ _ h => h) (Or.inl ⟨by rfl, ?_⟩) (by assumption) ?_
            rotate_left
            · intro wS hSw; (try dsimp only at hSw); go_simp <;> with_reducible rfl
            simp only [Act.put, List.setIfInBounds_toArray, List.set_cons_zero, List.set_cons_succ]
            refine wpAnyH_take (i := 7) (oi := (⟨some 19, _, _, _, _, _⟩ : Oper)) (v := ?_) rfl (by kernel_rfl) (by kernel_rfl) (by kernel_rfl) (fun _ _ _ h => h) (Or.inl ⟨by rfl, ?_⟩) (by assumption) ?_
            rotate_left
            · intro wS hSw; (try dsimp only at hSw); go_simp <;> with_reducible rfl
            simp only [Act.put, List.setIfInBounds_toArray, List.set_cons_zero, List.set_cons_succ]
            refine wpAnyH_take (i := 8) (oi := (⟨some 20, _, _, _, _, _⟩ : Oper)) (v := ?_) rfl (by kernel_rfl) (by kernel_rfl) (by kernel_rfl) (fun _ _ _ h => h) (Or.inl ⟨by rfl, ?_⟩) (by assumption) ?_
            rotate_left
            · intro wS hSw; (try dsimp only at hSw); go_simp <;> with_reducible rfl
            simp only [Act.put, List.setIfInBounds_toArray, List.set_cons_zero, List.set_cons_succ]
            refine wpAnyH_take (i := 9) (oi := (⟨some 21, _, _, _, _, _⟩ : Oper)) (v := ?_) rfl (by kernel_rfl) (by kernel_rfl) (by kernel_rfl) (fun _ _ _ h => h) (Or.inl ⟨by rfl, ?_⟩) (by assumption) ?_
            rotate_left
            · intro wS hSw; (try dsimp only at hSw); go_simp <;> with_reducible rfl
            simp only [Act.put, List.setIfInBounds_toArray, List.set_cons_zero, List.set_cons_succ]
            refine wpAnyH_take (i := 10) (oi := (⟨some 22, _, _, _, _, _⟩ : Oper)) (v := ?_) rfl (by kernel_rfl) (by kernel_rfl) (by kernel_rfl) (fun _ _ _ h => h) (Or.inl ⟨by rfl, ?_⟩) (by assumption) ?_
            rotate_left
            · intro wS hSw; (try dsimp only at hSw); go_simp <;> with_reducible rfl
            simp only [Act.put, List.setIfInBounds_toArray, List.set_cons_zero, List.set_cons_succ]
            refine wpAnyH_take (i := 11) (oi := (⟨some 23, _, _, _, _, _⟩ : Oper)) (v := ?_) rfl (by kernel_rfl) (by kernel_rfl) (by kernel_rfl) (fun _ _ _ h => h) (Or.inl ⟨by rfl, ?_⟩) (by assumption) ?_
            rotate_left
            · intro wS hSw; (try dsimp only at hSw); go_simp <;> with_reducible rfl
            simp only [Act.put, List.setIfInBounds_toArray, List.set_cons_zero, List.set_cons_succ]
            refine wpAnyH_take (i := 12) (oi := (⟨some 24, _, _, _, _, _⟩ : Oper)) (v := ?_) rfl (by kernel_rfl) (by kernel_rfl) (by kernel_rfl) (fun _ _ _ h => h) (Or.inl ⟨by rfl, ?_⟩) (by assumption) ?_
            rotate_left
            · intro wS hSw; (try dsimp only at hSw); go_simp <;> with_reducible rfl
            simp only [Act.put, List.setIfInBounds_toArray, List.set_cons_zero, List.set_cons_succ]
            refine wpAnyH_take (i := 13) (oi := (⟨some 25, _, _, _, _, _⟩ : Oper)) (v := ?_) rfl (by kernel_rfl) (by kernel_rfl) (by kernel_rfl) (fun _ _ _ h => h) (Or.inl ⟨by rfl, ?_⟩) (by assumption) ?_
            rotate_left
            · intro wS hSw; (try dsimp only at hSw); go_simp <;> with_reducible rfl
            simp only [Act.put, List.setIfInBounds_toArray, List.set_cons_zero, List.set_cons_succ]
            refine wpAnyH_take (i := 14) (oi := (⟨some 26, _, _, _, _, _⟩ : Oper)) (v := ?_) rfl (by kernel_rfl) (by kernel_rfl) (by kernel_rfl) (fun _ _ _ h => h) (Or.inl ⟨by rfl, ?_⟩) (by assumption) ?_
            rotate_left
            · intro wS hSw; (try dsimp only at hSw); go_simp <;> with_reducible rfl
            simp only [Act.put, List.setIfInBounds_toArray, List.set_cons_zero, List.set_cons_succ]
            refine wpAnyH_take (i := 15) (oi := (⟨some 27, _, _, _, _, _⟩ : Oper)) (v := ?_) rfl (by kernel_rfl) (by kernel_rfl) (by kernel_rfl) (fun _ _ _ h => h) (Or.inl ⟨by rfl, ?_⟩) (by assumption) ?_
            rotate_left
            · intro wS hSw; (try dsimp only at hSw); go_simp <;> with_reducible rfl
            simp only [Act.put, List.setIfInBounds_toArray, List.set_cons_zero, List.set_cons_succ]
            refine wpAnyH_take (i := 16) (oi := (⟨some 28, _, _, _, _, _⟩ : Oper)) (v := ?_) rfl (by kernel_rfl) (by kernel_rfl) (by kernel_rfl) (fun _ _ _ h => h) (Or.inl ⟨by rfl, ?_⟩) (by assumption) ?_
            rotate_left
            · intro wS hSw; (try dsimp only at hSw); go_simp <;> with_reducible rfl
            simp only [Act.put, List.setIfInBounds_toArray, List.set_cons_zero, List.set_cons_succ]
            refine wpAnyH_take (i := 17) (oi := (⟨some 29, _, _, _, _, _⟩ : Oper)) (v := ?_) rfl (by kernel_rfl) (by kernel_rfl) (by kernel_rfl) (fun _ _ _ h => h) (Or.inl ⟨by rfl, ?_⟩) (by assumption) ?_
            rotate_left
            · intro wS hSw; (try dsimp only at hSw); go_simp <;> with_reducible rfl
            simp only [Act.put, List.setIfInBounds_toArray, List.set_cons_zero, List.set_cons_succ]
            refine wpAnyH_take (i := 18) (oi := (⟨some 30, _, _, _, _, _⟩ : Oper)) (v := ?_) rfl (by kernel_rfl) (by kernel_rfl) (by kernel_rfl) (fun _ _ _ h => h) (Or.inl ⟨by rfl, ?_⟩) (by assumption) ?_
            rotate_left
            · intro wS hSw; (try dsimp only at hSw); go_simp <;> with_reducible rfl
            simp only [Act.put, List.setIfInBounds_toArray, List.set_cons_zero, List.set_cons_succ]
            refine wpAnyH_take (i := 19) (oi := (⟨some 31, _, _, _, _, _⟩ : Oper)) (v := ?_) rfl (by kernel_rfl) (by kernel_rfl) (by kernel_rfl) (fun _ _ _ h => h) (Or.inl ⟨by rfl, ?_⟩) (by assumption) ?_
            rotate_left
            · intro wS hSw; (try dsimp only at hSw); go_simp <;> with_reducible rfl
            simp only [Act.put, List.setIfInBounds_toArray, List.set_cons_zero, List.set_cons_succ]
            refine wpAnyH_take (i := 20) (oi := (⟨some 32, _, _, _, _, _⟩ : Oper)) (v := ?_) rfl (by kernel_rfl) (by kernel_rfl) (by kernel_rfl) (fun _ _ _ h => h) (Or.inl ⟨by rfl, ?_⟩) (by assumption) ?_
            rotate_left
            · intro wS hSw; (try dsimp only at hSw); go_simp <;> with_reducible rfl
            simp only [Act.put, List.setIfInBounds_toArray, List.set_cons_zero, List.set_cons_succ]
            refine wpAnyH_take (i := 21) (oi := (⟨some 33, _, _, _, _, _⟩ : Oper)) (v := ?_) rfl (by kernel_rfl) (by kernel_rfl) (by kernel_rfl) (fun _ _ _ h => h) (Or.inl ⟨by rfl, ?_⟩) (by assumption) ?_
            rotate_left
            · intro wS hSw; (try dsimp only at hSw); go_simp <;> with_reducible rfl
            simp only [Act.put, List.setIfInBounds_toArray, List.set_cons_zero, List.set_cons_succ]
            refine wpAnyH_ready (rs := [22]) (by kernel_rfl) (by simp) ?_
            refine AllReadyH.cons (o := (⟨some 34, _, _, _, _, _⟩ : Oper)) rfl (fun K hK => ?_) ?_
            rotate_left
            · exact AllReadyH.nil
            go_simp
            (go_at_call 47; (with_reducible refine (HCM.out _ r1).mono ?_); rintro x w2 ⟨rfl, hb2⟩; have r2 := r1.trans (hb2.mono hz1); have hz2 : wr.heap.size ≤ w2.heap.size := r2.size; clear hb2)
            refine hK.out _ _ ?_ (fun hHeld => ?_)
            · (try dsimp only); exact KEEP.out _ r2
            clear hK K
            try simp only [Act.put, List.setIfInBounds_toArray, List.set_cons_zero, List.set_cons_succ]
            refine wpAnyH_take (i := 23) (oi := (⟨some 35, _, _, _, _, _⟩ : Oper)) (v := ?_) rfl (by kernel_rfl) (by kernel_rfl) (by kernel_rfl) (fun _ _ _ h => h) (Or.inl ⟨by rfl, ?_⟩) (by assumption) ?_
            rotate_left
            · intro wS hSw; (try dsimp only at hSw); go_simp <;> with_reducible rfl
            simp only [Act.put, List.setIfInBounds_toArray, List.set_cons_zero, List.set_cons_succ]
            refine wpAnyH_take (i := 24) (oi := (⟨some 36, _, _, _, _, _⟩ : Oper)) (v := ?_) rfl (by kernel_rfl) (by kernel_rfl) (by kernel_rfl) (fun _ _ _ h => h) (Or.inl ⟨by rfl, ?_⟩) (by assumption) ?_
            rotate_left
            · intro wS hSw; (try dsimp only at hSw); go_simp <;> with_reducible rfl
            simp only [Act.put, List.setIfInBounds_toArray, List.set_cons_zero, List.set_cons_succ]
            refine wpAnyH_take (i := 25) (oi := (⟨some 37, _, _, _, _, _⟩ : Oper)) (v := ?_) rfl (by kernel_rfl) (by kernel_rfl) (by kernel_rfl) (fun _ _ _ h => h) (Or.inl ⟨by rfl, ?_⟩) (by assumption) ?_
            rotate_left
            · intro wS hSw; (try dsimp only at hSw); go_simp <;> with_reducible rfl
            simp only [Act.put, List.setIfInBounds_toArray, List.set_cons_zero, List.set_cons_succ]
            refine wpAnyH_done (by kernel_rfl) ?_ _
            clear w1' w2' w3' w4' w5'
            have HRB := Lib.hid r2
            have hzr : w.heap.size ≤ w2.heap.size := Nat.le_trans hsz r2.size
            have HWC := Lib.hid (HB.out.trans (r2.mono hsz))
            clear r2
            go_wp2_with fail
            obtain ⟨wo, rfl⟩ : ∃ x : World, x = wr := ⟨_, rfl⟩
            go_loopw [4] (fun j5 wr => ∃ j : Nat, j ≤ i ∧ j5 = .int .i64 j ∧ ((((l).take i).map Fe.id).drop j).contains X.id = q ∧ Below wo.heap.size wo wr) (fun j5 _ => i - (intOf j5).toNat)
            case atStart => exact ⟨0, Nat.zero_le _, rfl, HQ.out, HRB.out⟩
            case round =>
              obtain ⟨j, hj, rfl, hres, hb⟩ := hrel
              have HRQ := Lib.hid hb
              have hzq : wo.heap.size ≤ wr.heap.size := hb.size
              clear hb HRB
              by_cases hlj : j < i
              · have hlj' : (j : Int) < i := by omega
                have hjl : j < l.length := by omega
                have hjl' : (j : Int) < l.length := by omega
                have hcj := HCJ.out j hjl wr HRQ.out
                obtain ⟨c1, c2, c3⟩ := hcj
                rw [drop_ids hlj (by omega)] at hres
                generalize (l[j]'hjl).id = y at *
                by_cases hy : y = X.id
                · subst hy
                  have hq : q = true := by rw [← hres]; simp
                  have HRR := Lib.hid (show R = false by have := HST.out; rw [hq] at this; rw [← this]; rfl)
                  clear hres hq
                  go_wp2_with fail
                  go_quiet (fail)
                  go_wp2_with fail
                  go_ret
                  exact ⟨ret_int (by rw [HRR.out]; rfl), (HB.out.trans (HRQ.out.mono hsz)).trans ((below_drewN13 _ _).mono (Nat.le_trans hsz hzq))⟩
                · have t1 : (y == X.id) = false := by rw [beq_eq_false_iff_ne]; exact hy
                  have t2 : (X.id == y) = false := by rw [beq_eq_false_iff_ne]; exact fun e => hy e.symm
                  rw [List.contains_cons, t2, Bool.false_or] at hres
                  have HRES := Lib.hid hres
                  clear hres hy t2
                  go_wp2_with fail
                  go_quiet (fail)
                  go_wp2_with fail
                  go_roundw
                  case rel => exact ⟨j + 1, by omega, by go_num, HRES.out, HRQ.out.trans ((below_drewN13 _ _).mono hzq)⟩
                  case measure => simp [intOf]; omega
              · obtain rfl : j = i := by omega
                have hq : q = false := by rw [← hres, List.drop_of_length_le (by simp; omega)]; rfl
                have HRR := Lib.hid (show ordG vldF cmpF Fe.id ((l).take (j + 1)) ((l).drop (j + 1)) = R by have := HST.out; rw [hq, Bool.not_false, Bool.true_and] at this; rw [HN.out]; exact this)
                have hlj' : ¬ ((j : Int) < j) := by omega
                clear hres hq hlj
                go_wp2_with fail
                go_roundw
                case rel => exact ⟨j + 1, by omega, by go_num, HRR.out, HB.out.trans (HRQ.out.mono hsz), (HRQ.out.block _ hwx).trans HX.out⟩
                case measure => simp [intOf]; omega
          · have qm : decide ((0 : Int) ≤ m) = true := decide_eq_true (by omega)
            rw [decide_eq_false hm] at hst
            have hr : R = false := by rw [← hst]; rfl
            have HRR := Lib.hid hr
            clear hst hr hm
            go_wp2_with fail
            refine wp_region_held_drew (S := fun x => (x.cell? ⟨w.heap.size, 0, none⟩ = some (.slice (some ⟨b, off, none⟩) l.length fc) ∧ x.cell? ⟨b, off + i * 6, none⟩ = some (.slice PA X.path.length pc) ∧ x.cell? ⟨b, off + i * 6 + 1, none⟩ = some (.string (S X.id)) ∧ x.cell? ⟨b, off + i * 6 + 2, none⟩ = some (.string (S X.title)) ∧ x.cell? ⟨b, off + i * 6 + 3, none⟩ = some (.string (S X.link)) ∧ x.cell? ⟨b, off + i * 6 + 4, none⟩ = some (.int .i64 X.upd) ∧ x.cell? ⟨b, off + i * 6 + 5, none⟩ = some (.slice EB X.ents.length ed)) ∧ (x.cell? ⟨b, off + (i - 1) * 6, none⟩ = some (.slice QA P.path.length qc) ∧ x.cell? ⟨b, off + (i - 1) * 6 + 1, none⟩ = some (.string (S P.id)) ∧ x.cell? ⟨b, off + (i - 1) * 6 + 2, none⟩ = some (.string (S P.title)) ∧ x.cell? ⟨b, off + (i - 1) * 6 + 3, none⟩ = some (.string (S P.link)) ∧ x.cell? ⟨b, off + (i - 1) * 6 + 4, none⟩ = some (.int .i64 P.upd) ∧ x.cell? ⟨b, off + (i - 1) * 6 + 5, none⟩ = some (.slice FB P.ents.length fd))) (by kernel_rfl) ?_ (fun hHeld => ?_)
            · (try dsimp only); exact KEEP.out _ (Below.refl _ _).drew
            refine wpAnyH_take (i := 0) (oi := (⟨some 12, _, _, _, _, _⟩ : Oper)) (v := ?_) rfl (by kernel_rfl) (by kernel_rfl) (by kernel_rfl) (fun _ _ _ h => h) (Or.inl ⟨by rfl, ?_⟩) (by assumption) ?_
            rotate_left
            · intro wS hSw; (try dsimp only at hSw); go_simp <;> with_reducible rfl
            simp only [Act.put, List.setIfInBounds_toArray, List.set_cons_zero, List.set_cons_succ]
            refine wpAnyH_take (i := 1) (oi := (⟨some 13, _, _, _, _, _⟩ : Oper)) (v := ?_) rfl (by kernel_rfl) (by kernel_rfl) (by kernel_rfl) (fun _ _ _ h => h) (Or.inl ⟨by rfl, ?_⟩) (by assumption) ?_
            rotate_left
            · intro wS hSw; (try dsimp only at hSw); go_simp <;> with_reducible rfl
            simp only [Act.put, List.setIfInBounds_toArray, List.set_cons_zero, List.set_cons_succ]
            refine wpAnyH_take (i := 2) (oi := (⟨some 14, _, _, _, _, _⟩ : Oper)) (v := ?_) rfl (by kernel_rfl) (by kernel_rfl) (by kernel_rfl) (fun _ _ _ h => h) (Or.inl ⟨by rfl, ?_⟩) (by assumption) ?_
            rotate_left
            · intro wS hSw; (try dsimp only at hSw); go_simp <;> with_reducible rfl
            simp only [Act.put, List.setIfInBounds_toArray, List.set_cons_zero, List.set_cons_succ]
            refine wpAnyH_take (i := 3) (oi := (⟨some 15, _, _, _, _, _⟩ : Oper)) (v := ?_) rfl (by kernel_rfl) (by kernel_rfl) (by kernel_rfl) (fun _ _ _ h => h) (Or.inl ⟨by rfl, ?_⟩) (by assumption) ?_
            rotate_left
            · intro wS hSw; (try dsimp only at hSw); go_simp <;> with_reducible rfl
            simp only [Act.put, List.setIfInBounds_toArray, List.set_cons_zero, List.set_cons_succ]
            refine wpAnyH_take (i := 4) (oi := (⟨some 16, _, _, _, _, _⟩ : Oper)) (v := ?_) rfl (by kernel_rfl) (by kernel_rfl) (by kernel_rfl) (fun _ _ _ h => h) (Or.inl ⟨by rfl, ?_⟩) (by assumption) ?_
            rotate_left
            · intro wS hSw; (try dsimp only at hSw); go_simp <;> with_reducible rfl
            simp only [Act.put, List.setIfInBounds_toArray, List.set_cons_zero, List.set_cons_succ]
            refine wpAnyH_ready (rs := [5]) (by kernel_rfl) (by simp) ?_
            refine AllReadyH.cons (o := (⟨some 17, _, _, _, _, _⟩ : Oper)) rfl (fun K hK => ?_) ?_
            rotate_left
            · exact AllReadyH.nil
            go_simp
            (go_at_call 29; (with_reducible refine (HCK.out _ (Below.refl _ _).drew).mono ?_); rintro x w1 ⟨rfl, hb1⟩; have r1 := (Below.refl wr.heap.size wr).drew.trans hb1; have hz1 : wr.heap.size ≤ w1.heap.size := r1.size; clear hb1)
            refine hK.out _ _ ?_ (fun hHeld => ?_)
            · (try dsimp only); exact KEEP.out _ r1
            clear hK K
            try simp only [Act.put, List.setIfInBounds_toArray, List.set_cons_zero, List.set_cons_succ]
            refine wpAnyH_take (i := 6) (oi := (⟨some 18, _, _, _, _, _⟩ : Oper)) (v := ?_) rfl (by kernel_rfl) (by kernel_rfl) (by kernel_rfl) (fun _ _ _ h => h) (Or.inl ⟨by rfl, ?_⟩) (by assumption) ?_
            rotate_left
            · intro wS hSw; (try dsimp only at hSw); go_simp <;> with_reducible rfl
            simp only [Act.put, List.setIfInBounds_toArray, List.set_cons_zero, List.set_cons_succ]
            refine wpAnyH_take (i := 7) (oi := (⟨some 19, _, _, _, _, _⟩ : Oper)) (v := ?_) rfl (by kernel_rfl) (by kernel_rfl) (by kernel_rfl) (fun _ _ _ h => h) (Or.inl ⟨by rfl, ?_⟩) (by assumption) ?_
            rotate_left
            · intro wS hSw; (try dsimp only at hSw); go_simp <;> with_reducible rfl
            simp only [Act.put, List.setIfInBounds_toArray, List.set_cons_zero, List.set_cons_succ]
            refine wpAnyH_take (i := 8) (oi := (⟨some 20, _, _, _, _, _⟩ : Oper)) (v := ?_) rfl (by kernel_rfl) (by kernel_rfl) (by kernel_rfl) (fun _ _ _ h => h) (Or.inl ⟨by rfl, ?_⟩) (by assumption) ?_
            rotate_left
            · intro wS hSw; (try dsimp only at hSw); go_simp <;> with_reducible rfl
            simp only [Act.put, List.setIfInBounds_toArray, List.set_cons_zero, List.set_cons_succ]
            refine wpAnyH_take (i := 9) (oi := (⟨some 21, _, _, _, _, _⟩ : Oper)) (v := ?_) rfl (by kernel_rfl) (by kernel_rfl) (by kernel_rfl) (fun _ _ _ h => h) (Or.inl ⟨by rfl, ?_⟩) (by assumption) ?_
            rotate_left
            · intro wS hSw; (try dsimp only at hSw); go_simp <;> with_reducible rfl
            simp only [Act.put, List.setIfInBounds_toArray, List.set_cons_zero, List.set_cons_succ]
            refine wpAnyH_take (i := 10) (oi := (⟨some 22, _, _, _, _, _⟩ : Oper)) (v := ?_) rfl (by kernel_rfl) (by kernel_rfl) (by kernel_rfl) (fun _ _ _ h => h) (Or.inl ⟨by rfl, ?_⟩) (by assumption) ?_
            rotate_left
            · intro wS hSw; (try dsimp only at hSw); go_simp <;> with_reducible rfl
            simp only [Act.put, List.setIfInBounds_toArray, List.set_cons_zero, List.set_cons_succ]
            refine wpAnyH_take (i := 11) (oi := (⟨some 23, _, _, _, _, _⟩ : Oper)) (v := ?_) rfl (by kernel_rfl) (by kernel_rfl) (by kernel_rfl) (fun _ _ _ h => h) (Or.inl ⟨by rfl, ?_⟩) (by assumption) ?_
            rotate_left
            · intro wS hSw; (try dsimp only at hSw); go_simp <;> with_reducible rfl
            simp only [Act.put, List.setIfInBounds_toArray, List.set_cons_zero, List.set_cons_succ]
            refine wpAnyH_take (i := 12) (oi := (⟨some 24, _, _, _, _, _⟩ : Oper)) (v := ?_) rfl (by kernel_rfl) (by kernel_rfl) (by kernel_rfl) (fun _ _ _ h => h) (Or.inl ⟨by rfl, ?_⟩) (by assumption) ?_
            rotate_left
            · intro wS hSw; (try dsimp only at hSw); go_simp <;> with_reducible rfl
            simp only [Act.put, List.setIfInBounds_toArray, List.set_cons_zero, List.set_cons_succ]
            refine wpAnyH_take (i := 13) (oi := (⟨some 25, _, _, _, _, _⟩ : Oper)) (v := ?_) rfl (by kernel_rfl) (by kernel_rfl) (by kernel_rfl) (fun _ _ _ h => h) (Or.inl ⟨by rfl, ?_⟩) (by assumption) ?_
            rotate_left
            · intro wS hSw; (try dsimp only at hSw); go_simp <;> with_reducible rfl
            simp only [Act.put, List.setIfInBounds_toArray, List.set_cons_zero, List.set_cons_succ]
            refine wpAnyH_take (i := 14) (oi := (⟨some 26, _, _, _, _, _⟩ : Oper)) (v := ?_) rfl (by kernel_rfl) (by kernel_rfl) (by kernel_rfl) (fun _ _ _ h => h) (Or.inl ⟨by rfl, ?_⟩) (by assumption) ?_
            rotate_left
            · intro wS hSw; (try dsimp only at hSw); go_simp <;> with_reducible rfl
            simp only [Act.put, List.setIfInBounds_toArray, List.set_cons_zero, List.set_cons_succ]
            refine wpAnyH_take (i := 15) (oi := (⟨some 27, _, _, _, _, _⟩ : Oper)) (v := ?_) rfl (by kernel_rfl) (by kernel_rfl) (by kernel_rfl) (fun _ _ _ h => h) (Or.inl ⟨by rfl, ?_⟩) (by assumption) ?_
            rotate_left
            · intro wS hSw; (try dsimp only at hSw); go_simp <;> with_reducible rfl
            simp only [Act.put, List.setIfInBounds_toArray, List.set_cons_zero, List.set_cons_succ]
            refine wpAnyH_take (i := 16) (oi := (⟨some 28, _, _, _, _, _⟩ : Oper)) (v := ?_) rfl (by kernel_rfl) (by kernel_rfl) (by kernel_rfl) (fun _ _ _ h => h) (Or.inl ⟨by rfl, ?_⟩) (by assumption) ?_
            rotate_left
            · intro wS hSw; (try dsimp only at hSw); go_simp <;> with_reducible rfl
            simp only [Act.put, List.setIfInBounds_toArray, List.set_cons_zero, List.set_cons_succ]
            refine wpAnyH_take (i := 17) (oi := (⟨some 29, _, _, _, _, _⟩ : Oper)) (v := ?_) rfl (by kernel_rfl) (by kernel_rfl) (by kernel_rfl) (fun _ _ _ h => h) (Or.inl ⟨by rfl, ?_⟩) (by assumption) ?_
            rotate_left
            · intro wS hSw; (try dsimp only at hSw); go_simp <;> with_reducible rfl
            simp only [Act.put, List.setIfInBounds_toArray, List.set_cons_zero, List.set_cons_succ]
            refine wpAnyH_take (i := 18) (oi := (⟨some 30, _, _, _, _, _⟩ : Oper)) (v := ?_) rfl (by kernel_rfl) (by kernel_rfl) (by kernel_rfl) (fun _ _ _ h => h) (Or.inl ⟨by rfl, ?_⟩) (by assumption) ?_
            rotate_left
            · intro wS hSw; (try dsimp only at hSw); go_simp <;> with_reducible rfl
            simp only [Act.put, List.setIfInBounds_toArray, List.set_cons_zero, List.set_cons_succ]
            refine wpAnyH_take (i := 19) (oi := (⟨some 31, _, _, _, _, _⟩ : Oper)) (v := ?_) rfl (by kernel_rfl) (by kernel_rfl) (by kernel_rfl) (fun _ _ _ h => h) (Or.inl ⟨by rfl, ?_⟩) (by assumption) ?_
            rotate_left
            · intro wS hSw; (try dsimp only at hSw); go_simp <;> with_reducible rfl
            simp only [Act.put, List.setIfInBounds_toArray, List.set_cons_zero, List.set_cons_succ]
            refine wpAnyH_take (i := 20) (oi := (⟨some 32, _, _, _, _, _⟩ : Oper)) (v := ?_) rfl (by kernel_rfl) (by kernel_rfl) (by kernel_rfl) (fun _ _ _ h => h) (Or.inl ⟨by rfl, ?_⟩) (by assumption) ?_
            rotate_left
            · intro wS hSw; (try dsimp only at hSw); go_simp <;> with_reducible rfl
            simp only [Act.put, List.setIfInBounds_toArray, List.set_cons_zero, List.set_cons_succ]
            refine wpAnyH_take (i := 21) (oi := (⟨some 33, _, _, _, _, _⟩ : Oper)) (v := ?_) rfl (by kernel_rfl) (by kernel_rfl) (by kernel_rfl) (fun _ _ _ h => h) (Or.inl ⟨by rfl, ?_⟩) (by assumption) ?_
            rotate_left
            · intro wS hSw; (try dsimp only at hSw); go_simp <;> with_reducible rfl
            simp only [Act.put, List.setIfInBounds_toArray, List.set_cons_zero, List.set_cons_succ]
            refine wpAnyH_ready (rs := [22]) (by kernel_rfl) (by simp) ?_
            refine AllReadyH.cons (o := (⟨some 34, _, _, _, _, _⟩ : Oper)) rfl (fun K hK => ?_) ?_
            rotate_left
            · exact AllReadyH.nil
            go_simp
            (go_at_call 47; (with_reducible refine (HCM.out _ r1).mono ?_); rintro x w2 ⟨rfl, hb2⟩; have r2 := r1.trans (hb2.mono hz1); have hz2 : wr.heap.size ≤ w2.heap.size := r2.size; clear hb2)
            refine hK.out _ _ ?_ (fun hHeld => ?_)
            · (try dsimp only); exact KEEP.out _ r2
            clear hK K
            try simp only [Act.put, List.setIfInBounds_toArray, List.set_cons_zero, List.set_cons_succ]
            refine wpAnyH_take (i := 23) (oi := (⟨some 35, _, _, _, _, _⟩ : Oper)) (v := ?_) rfl (by kernel_rfl) (by kernel_rfl) (by kernel_rfl) (fun _ _ _ h => h) (Or.inl ⟨by rfl, ?_⟩) (by assumption) ?_
            rotate_left
            · intro wS hSw; (try dsimp only at hSw); go_simp <;> with_reducible rfl
            simp only [Act.put, List.setIfInBounds_toArray, List.set_cons_zero, List.set_cons_succ]
            refine wpAnyH_take (i := 24) (oi := (⟨some 36, _, _, _, _, _⟩ : Oper)) (v := ?_) rfl (by kernel_rfl) (by kernel_rfl) (by kernel_rfl) (fun _ _ _ h => h) (Or.inl ⟨by rfl, ?_⟩) (by assumption) ?_
            rotate_left
            · intro wS hSw; (try dsimp only at hSw); go_simp <;> with_reducible rfl
            simp only [Act.put, List.setIfInBounds_toArray, List.set_cons_zero, List.set_cons_succ]
            refine wpAnyH_take (i := 25) (oi := (⟨some 37, _, _, _, _, _⟩ : Oper)) (v := ?_) rfl (by kernel_rfl) (by kernel_rfl) (by kernel_rfl) (fun _ _ _ h => h) (Or.inl ⟨by rfl, ?_⟩) (by assumption) ?_
            rotate_left
            · intro wS hSw; (try dsimp only at hSw); go_simp <;> with_reducible rfl
            simp only [Act.put, List.setIfInBounds_toArray, List.set_cons_zero, List.set_cons_succ]
            refine wpAnyH_done (by kernel_rfl) ?_ _
            have HRB := Lib.hid r2
            clear r2
            go_wp2_with fail
            go_ret
            exact ⟨ret_int (by rw [HRR.out]; rfl), HB.out.trans (HRB.out.mono hsz)⟩
    · obtain rfl : i = l.length := by omega
      rw [ordG_end] at hres
      subst hres
      have hlt' : ¬ ((l.length : Int) < l.length) := by omega
      go_wp2_with fail
      go_ret
      exact ⟨rfl, HB.out⟩
end Go.Proofs.YtadkgjbidhfefaaDoor
