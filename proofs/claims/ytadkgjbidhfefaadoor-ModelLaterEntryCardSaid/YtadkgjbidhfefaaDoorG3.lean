/-
  Several texts in one file, in build order:
  - Walks of chapter 13: Check of an archive (both).
  - Chapter 13's statements: the examples of the chapter.
  - Chapter 13: entries compared by ==.
  - Walks of chapter 13's statements: LaterEntry.
-/
import Derived.Test.YtadkgjbidhfefaaDoorRchF13
import Derived.Test.YtadkgjbidhfefaaDoorOrdf13
import Derived.Test.YtadkgjbidhfefaaDoorLat13
import Derived.Laws.StructEq
import Derived.Test.YtadkgjbidhfefaaDoorG2
set_option linter.unusedVariables false
set_option linter.unusedSimpArgs false
namespace Go.Proofs.YtadkgjbidhfefaaDoor
open Go.RowKit

set_option maxHeartbeats 1000000 in
set_option maxRecDepth 100000 in
theorem checkA_any (l : List Fe) (u : Value) (w : World) (hT : TabJ w) (h : ElsP feeE w (· < w.heap.size) u l) (hl : l.length ≤ 1000000000000) (hs : ∀ f ∈ l, FSz f) :
    Calls Tryd.prog 32 #[.agg #[u]] w fun x w' => x = .returned (.int .i64 (er13 (ordFs l))) ∧ Below w.heap.size w w' := by
  have hA0 : Below w.heap.size w (w.alloc (.cells #[u] 50)) := (Below.refl _ _).alloc (Nat.le_refl _) _
  have hor := orderedF_any l u (w.alloc (.cells #[u] 50)) (hT.next hA0) (h.keep feeE_ok hA0.block (fun k hk => Nat.lt_of_lt_of_le hk hA0.size)) hl hs
  obtain ⟨FA, fc, rfl, _⟩ := h.slice
  have HOR := Lib.hid hor
  have HA0 := Lib.hid hA0
  have HCK := Lib.hid (fun b W => checked_any b W)
  clear hor hA0 hT h hs
  generalize ordFs l = R at *
  go_enter Tryd.func32, Tryd.ntmps32
  go_wp2_with (first
    | (go_at_call 67; refine HOR.out.mono ?_; rintro x w1 ⟨rfl, hb1⟩)
    | (go_at_call 62; refine (HCK.out _ _).mono ?_; rintro x w1 ⟨rfl, rfl⟩))
  go_ret
  exact ⟨rfl, HA0.out.trans (hb1.mono (by simp))⟩
set_option maxHeartbeats 8000000 in
set_option maxRecDepth 100000 in
theorem refCheckA_any (l : List Fe) (u : Value) (w : World) (h : ElsP feeE w (· < w.heap.size) u l) (hl : l.length ≤ 1000000000000) (hs : ∀ f ∈ l, FSz f) :
    Calls Tryd.prog 33 #[.agg #[u]] w fun x w' => x = .returned (.int .i64 (er13 (ordFs l))) ∧ Below w.heap.size w w' := by
  obtain ⟨FA, fc, rfl, _⟩ := h.slice
  obtain ⟨R, hR⟩ : ∃ R, ordFs l = R := ⟨_, rfl⟩
  rw [hR]
  have HL := Lib.hid h
  have HS := Lib.hid hs
  have HR0 := Lib.hid (show ordG vldF cmpF Fe.id (l.take 0) (l.drop 0) = R from hR)
  have HW0 := Lib.hid (show Below w.heap.size w (w.alloc (.cells #[.slice FA l.length fc] 50)) from (Below.refl _ _).alloc (Nat.le_refl _) _)
  have HX0 := Lib.hid (heap_alloc_new w (.cells #[.slice FA l.length fc] 50))
  clear h hs hR
  go_enter Tryd.func33, Tryd.ntmps33
  go_wp2_with fail
  go_loopw [3] (fun i4 wr => ∃ i : Nat, i ≤ l.length ∧ i4 = .int .i64 i ∧ ordG vldF cmpF Fe.id ((l).take i) ((l).drop i) = R ∧ Below w.heap.size w wr ∧ wr.heap[w.heap.size]? = some (.cells #[.slice FA l.length fc] 50)) (fun i4 _ => l.length - (intOf i4).toNat)
  case atStart => exact ⟨0, Nat.zero_le _, rfl, HR0.out, HW0.out, HX0.out⟩
  case round =>
    obtain ⟨i, hi, rfl, hres, hb, hX⟩ := hrel
    have HX := Lib.hid hX
    have hwx := heap_lt hX
    have hhd := (show wr.cell? ⟨w.heap.size, 0, none⟩ = some (.slice FA l.length fc) from by rw [Lib.cell_of_heap hX]; rfl)
    have HB := Lib.hid hb
    have hsz := hb.size
    clear hb HR0 HW0 HX0 hX
    by_cases hlt : i < l.length
    · have hlt' : (i : Int) < l.length := by omega
      obtain ⟨b, off, cs, rfl, hpb, hr, hcs⟩ := fees_at (HL.out.keep feeE_ok HB.out.block (fun _ h => h)) hlt
      have hxs := HS.out _ (List.getElem_mem hlt)
      have hbl : b < wr.heap.size := Nat.lt_of_lt_of_le hpb hsz
      have hdr : ∀ W, Below wr.heap.size wr W → W.cell? ⟨w.heap.size, 0, none⟩ = some (.slice (some ⟨b, off, none⟩) l.length fc) := fun W hW => (hW.cell (p := ⟨w.heap.size, 0, none⟩) hwx).trans hhd
      have HDR := Lib.hid hdr
      have hst0 : i = 0 → (vldF l[i] && ordG vldF cmpF Fe.id ((l).take (i + 1)) ((l).drop (i + 1))) = R := fun h => by subst h; rw [← hres, ordG_zero hlt]
      have hst1 : ∀ h : 0 < i, (vldF l[i] && decide (cmpF (l[i - 1]'(by omega)) l[i] < 0) && !((((l).take i).map Fe.id).contains l[i].id) && ordG vldF cmpF Fe.id ((l).take (i + 1)) ((l).drop (i + 1))) = R := fun h => by rw [← hres, ordG_step hlt h]
      have hpr : ∀ h : 0 < i, ∃ ds, wr.rangeAt b (off + (i - 1) * 6) ds ∧ FeeP wr (· < w.heap.size) (l[i - 1]'(by omega)) ds ∧ FSz (l[i - 1]'(by omega)) := fun h => by
        obtain ⟨b', off', ds, hA, _, hr', hds⟩ := fees_at (HL.out.keep feeE_ok HB.out.block (fun _ h => h)) (show i - 1 < l.length by omega)
        cases hA
        exact ⟨ds, hr', hds, HS.out _ (List.getElem_mem _)⟩
      have hcj : ∀ (j : Nat) (hj : j < l.length) W, Below wr.heap.size wr W → W.cell? ⟨w.heap.size, 0, none⟩ = some (.slice (some ⟨b, off, none⟩) l.length fc) ∧ W.cell? ⟨b, off + j * 6 + 1, none⟩ = some (.string (S (l[j]'hj).id)) ∧ W.cell? ⟨b, off + i * 6 + 1, none⟩ = some (.string (S (l[i]'hlt).id)) := fun j hj W hW => by
        obtain ⟨b', off', ds, hA, _, hr', hds⟩ := fees_at (HL.out.keep feeE_ok HB.out.block (fun _ h => h)) hj
        cases hA
        obtain ⟨_, _, _, _, rfl, _⟩ := hds
        obtain ⟨_, _, _, _, rfl, _⟩ := id hcs
        exact ⟨HDR.out W hW, (hW.cell (p := ⟨b, off + j * 6 + 1, none⟩) hbl).trans (hr' 1 _ rfl), (hW.cell (p := ⟨b, off + i * 6 + 1, none⟩) hbl).trans (hr 1 _ rfl)⟩
      obtain ⟨q, hq⟩ : ∃ q, (((l).take i).map Fe.id).contains l[i].id = q := ⟨_, rfl⟩
      have hq0 : i = 0 → q = false := fun h => by subst h; rw [← hq]; rfl
      rw [hq] at hst1
      have HCJ := Lib.hid hcj
      clear hres hcj hdr
      have hxc : l[i] = l[i] := rfl
      generalize l[i] = X at *
      have hvx : ∀ W, Below wr.heap.size wr W → FeeP W (· < W.heap.size) X cs := fun W hW => hcs.keep (fun k hk => hW.block k (Nat.lt_of_lt_of_le hk hsz)) (fun k hk => Nat.lt_of_lt_of_le (Nat.lt_of_lt_of_le hk hsz) hW.size)
      obtain ⟨PA, pc, EB, ed, rfl, _, _, _, _⟩ := hcs
      have HQ := Lib.hid (show ((((l).take i).map Fe.id).drop 0).contains X.id = q from hq)
      generalize hN : ordG vldF cmpF Fe.id ((l).take (i + 1)) ((l).drop (i + 1)) = N at *
      have HN := Lib.hid hN
      have hck := fun W => fun (hW : Below wr.heap.size wr W) => refCheckFeed_any X _ W hxs ⟨_, rfl, hvx W hW⟩
      have hxk : ∀ W, Below wr.heap.size wr W → W.cell? ⟨w.heap.size, 0, none⟩ = some (.slice (some ⟨b, off, none⟩) l.length fc) ∧ W.cell? ⟨b, off + i * 6, none⟩ = some (.slice PA X.path.length pc) ∧ W.cell? ⟨b, off + i * 6 + 1, none⟩ = some (.string (S X.id)) ∧ W.cell? ⟨b, off + i * 6 + 2, none⟩ = some (.string (S X.title)) ∧ W.cell? ⟨b, off + i * 6 + 3, none⟩ = some (.string (S X.link)) ∧ W.cell? ⟨b, off + i * 6 + 4, none⟩ = some (.int .i64 X.upd) ∧ W.cell? ⟨b, off + i * 6 + 5, none⟩ = some (.slice EB X.ents.length ed) := fun W hW => by
        have hr2 := rangeAt_keep hr (hW.block b hbl)
        exact ⟨HDR.out W hW, hr2 0 _ rfl, hr2 1 _ rfl, hr2 2 _ rfl, hr2 3 _ rfl, hr2 4 _ rfl, hr2 5 _ rfl⟩
      have KX := Lib.hid hxk
      clear hN hr hq hxk hxc
      cases hc : vldF X with
      | false =>
        rw [hc] at hck hst0 hst1
        rw [show er13 false = 22 from rfl] at hck
        have hr : R = false := by
          by_cases h : i = 0
          · rw [← hst0 h]; rfl
          · rw [← hst1 (by omega)]; rfl
        have HCK := Lib.hid hck
        have HRR := Lib.hid hr
        have KEEP := KX
        clear hck hst0 hst1 hq0 hpr hr hc
        go_wp2_with fail
        refine wp_region_held_drew (S := fun x => x.cell? ⟨w.heap.size, 0, none⟩ = some (.slice (some ⟨b, off, none⟩) l.length fc) ∧ x.cell? ⟨b, off + i * 6, none⟩ = some (.slice PA X.path.length pc) ∧ x.cell? ⟨b, off + i * 6 + 1, none⟩ = some (.string (S X.id)) ∧ x.cell? ⟨b, off + i * 6 + 2, none⟩ = some (.string (S X.title)) ∧ x.cell? ⟨b, off + i * 6 + 3, none⟩ = some (.string (S X.link)) ∧ x.cell? ⟨b, off + i * 6 + 4, none⟩ = some (.int .i64 X.upd) ∧ x.cell? ⟨b, off + i * 6 + 5, none⟩ = some (.slice EB X.ents.length ed)) (by kernel_rfl) ?_ (fun hHeld => ?_)
        · (try dsimp only); exact KEEP.out _ (Below.refl _ _).drew
        refine wpAnyH_take (i := 0) (oi := (⟨some 12, _, _, _, _, _⟩ : Oper)) (v := ?_) rfl (by kernel_rfl) (by kernel_rfl) (by kernel_rfl) (fun _ _ _ h => h) (Or.inl ⟨by rfl, ?_⟩) (by assumption) ?_
        rotate_left
        · intro wS hSw; (try dsimp only at hSw); go_simp <;> with_reducible rfl
        simp only [Act.put, List.setIfInBounds_toArray, List.set_cons_zero, List.set_cons_succ]
        refine wpAnyH_take (i := 1) (oi := (⟨some 13, _, _, _, _, _⟩ : Oper)) (v := ?_) rfl (by kernel_rfl) (by kernel_rfl) (by kernel_rfl) (fun _ _ _ h => h) (Or.inl ⟨by rfl, ?_⟩) (by assumption) ?_
        rotate_left
        · intro wS hSw; (try dsimp only at hSw); go_simp <;> with_reducible rfl
        simp only [Act.put, List.setIfInBounds_toArray, List.set_cons_zero, List.set_cons_succ]
        refine wpAnyH_take (i := 2) (oi := (⟨some 14, _, _, _, _, _⟩ : Oper)) (v := ?_) rfl (by kernel_rfl) (by kernel_rfl) (by kernel_rfl) (fun _ _ _ h => h) (Or.inl ⟨by rfl, ?_⟩) (by assumption) ?_
        rotate_left
        · intro wS hSw; (try dsimp only at hSw); go_simp <;> with_reducible rfl
        simp only [Act.put, List.setIfInBounds_toArray, List.set_cons_zero, List.set_cons_succ]
        refine wpAnyH_take (i := 3) (oi := (⟨some 15, _, _, _, _, _⟩ : Oper)) (v := ?_) rfl (by kernel_rfl) (by kernel_rfl) (by kernel_rfl) (fun _ _ _ h => h) (Or.inl ⟨by rfl, ?_⟩) (by assumption) ?_
        rotate_left
        · intro wS hSw; (try dsimp only at hSw); go_simp <;> with_reducible rfl
        simp only [Act.put, List.setIfInBounds_toArray, List.set_cons_zero, List.set_cons_succ]
        refine wpAnyH_take (i := 4) (oi := (⟨some 16, _, _, _, _, _⟩ : Oper)) (v := ?_) rfl (by kernel_rfl) (by kernel_rfl) (by kernel_rfl) (fun _ _ _ h => h) (Or.inl ⟨by rfl, ?_⟩) (by assumption) ?_
        rotate_left
        · intro wS hSw; (try dsimp only at hSw); go_simp <;> with_reducible rfl
        simp only [Act.put, List.setIfInBounds_toArray, List.set_cons_zero, List.set_cons_succ]
        refine wpAnyH_ready (rs := [5]) (by kernel_rfl) (by simp) ?_
        refine AllReadyH.cons (o := (⟨some 17, _, _, _, _, _⟩ : Oper)) rfl (fun K hK => ?_) ?_
        rotate_left
        · exact AllReadyH.nil
        go_simp
        (go_at_call 29; (with_reducible refine (HCK.out _ (Below.refl _ _).drew).mono ?_); rintro x w1 ⟨rfl, hb1⟩; have r1 := (Below.refl wr.heap.size wr).drew.trans hb1; have hz1 : wr.heap.size ≤ w1.heap.size := r1.size; clear hb1)
        refine hK.out _ _ ?_ (fun hHeld => ?_)
        · (try dsimp only); exact KEEP.out _ r1
        clear hK K
        try simp only [Act.put, List.setIfInBounds_toArray, List.set_cons_zero, List.set_cons_succ]
        refine wpAnyH_take (i := 6) (oi := (⟨some 18, _, _, _, _, _⟩ : Oper)) (v := ?_) rfl (by kernel_rfl) (by kernel_rfl) (by kernel_rfl) (fun _ _ _ h => h) (Or.inl ⟨by rfl, ?_⟩) (by assumption) ?_
        rotate_left
        · intro wS hSw; (try dsimp only at hSw); go_simp <;> with_reducible rfl
        simp only [Act.put, List.setIfInBounds_toArray, List.set_cons_zero, List.set_cons_succ]
        refine wpAnyH_take (i := 7) (oi := (⟨some 19, _, _, _, _, _⟩ : Oper)) (v := ?_) rfl (by kernel_rfl) (by kernel_rfl) (by kernel_rfl) (fun _ _ _ h => h) (Or.inl ⟨by rfl, ?_⟩) (by assumption) ?_
        rotate_left
        · intro wS hSw; (try dsimp only at hSw); go_simp <;> with_reducible rfl
        simp only [Act.put, List.setIfInBounds_toArray, List.set_cons_zero, List.set_cons_succ]
        refine wpAnyH_take (i := 8) (oi := (⟨some 20, _, _, _, _, _⟩ : Oper)) (v := undef) rfl (by kernel_rfl) (by kernel_rfl) (by kernel_rfl) (fun _ _ _ h => h) (Or.inr ⟨by rfl, rfl⟩) (by assumption) ?_
        simp only [Act.put, List.setIfInBounds_toArray, List.set_cons_zero, List.set_cons_succ]
        refine wpAnyH_take (i := 9) (oi := (⟨some 21, _, _, _, _, _⟩ : Oper)) (v := undef) rfl (by kernel_rfl) (by kernel_rfl) (by kernel_rfl) (fun _ _ _ h => h) (Or.inr ⟨by rfl, rfl⟩) (by assumption) ?_
        simp only [Act.put, List.setIfInBounds_toArray, List.set_cons_zero, List.set_cons_succ]
        refine wpAnyH_take (i := 10) (oi := (⟨some 22, _, _, _, _, _⟩ : Oper)) (v := undef) rfl (by kernel_rfl) (by kernel_rfl) (by kernel_rfl) (fun _ _ _ h => h) (Or.inr ⟨by rfl, rfl⟩) (by assumption) ?_
        simp only [Act.put, List.setIfInBounds_toArray, List.set_cons_zero, List.set_cons_succ]
        refine wpAnyH_take (i := 11) (oi := (⟨some 23, _, _, _, _, _⟩ : Oper)) (v := undef) rfl (by kernel_rfl) (by kernel_rfl) (by kernel_rfl) (fun _ _ _ h => h) (Or.inr ⟨by rfl, rfl⟩) (by assumption) ?_
        simp only [Act.put, List.setIfInBounds_toArray, List.set_cons_zero, List.set_cons_succ]
        refine wpAnyH_take (i := 12) (oi := (⟨some 24, _, _, _, _, _⟩ : Oper)) (v := undef) rfl (by kernel_rfl) (by kernel_rfl) (by kernel_rfl) (fun _ _ _ h => h) (Or.inr ⟨by rfl, rfl⟩) (by assumption) ?_
        simp only [Act.put, List.setIfInBounds_toArray, List.set_cons_zero, List.set_cons_succ]
        refine wpAnyH_take (i := 13) (oi := (⟨some 25, _, _, _, _, _⟩ : Oper)) (v := undef) rfl (by kernel_rfl) (by kernel_rfl) (by kernel_rfl) (fun _ _ _ h => h) (Or.inr ⟨by rfl, rfl⟩) (by assumption) ?_
        simp only [Act.put, List.setIfInBounds_toArray, List.set_cons_zero, List.set_cons_succ]
        refine wpAnyH_take (i := 14) (oi := (⟨some 26, _, _, _, _, _⟩ : Oper)) (v := undef) rfl (by kernel_rfl) (by kernel_rfl) (by kernel_rfl) (fun _ _ _ h => h) (Or.inr ⟨by rfl, rfl⟩) (by assumption) ?_
        simp only [Act.put, List.setIfInBounds_toArray, List.set_cons_zero, List.set_cons_succ]
        refine wpAnyH_take (i := 15) (oi := (⟨some 27, _, _, _, _, _⟩ : Oper)) (v := undef) rfl (by kernel_rfl) (by kernel_rfl) (by kernel_rfl) (fun _ _ _ h => h) (Or.inr ⟨by rfl, rfl⟩) (by assumption) ?_
        simp only [Act.put, List.setIfInBounds_toArray, List.set_cons_zero, List.set_cons_succ]
        refine wpAnyH_take (i := 16) (oi := (⟨some 28, _, _, _, _, _⟩ : Oper)) (v := undef) rfl (by kernel_rfl) (by kernel_rfl) (by kernel_rfl) (fun _ _ _ h => h) (Or.inr ⟨by rfl, rfl⟩) (by assumption) ?_
        simp only [Act.put, List.setIfInBounds_toArray, List.set_cons_zero, List.set_cons_succ]
        refine wpAnyH_take (i := 17) (oi := (⟨some 29, _, _, _, _, _⟩ : Oper)) (v := undef) rfl (by kernel_rfl) (by kernel_rfl) (by kernel_rfl) (fun _ _ _ h => h) (Or.inr ⟨by rfl, rfl⟩) (by assumption) ?_
        simp only [Act.put, List.setIfInBounds_toArray, List.set_cons_zero, List.set_cons_succ]
        refine wpAnyH_take (i := 18) (oi := (⟨some 30, _, _, _, _, _⟩ : Oper)) (v := undef) rfl (by kernel_rfl) (by kernel_rfl) (by kernel_rfl) (fun _ _ _ h => h) (Or.inr ⟨by rfl, rfl⟩) (by assumption) ?_
        simp only [Act.put, List.setIfInBounds_toArray, List.set_cons_zero, List.set_cons_succ]
        refine wpAnyH_take (i := 19) (oi := (⟨some 31, _, _, _, _, _⟩ : Oper)) (v := undef) rfl (by kernel_rfl) (by kernel_rfl) (by kernel_rfl) (fun _ _ _ h => h) (Or.inr ⟨by rfl, rfl⟩) (by assumption) ?_
        simp only [Act.put, List.setIfInBounds_toArray, List.set_cons_zero, List.set_cons_succ]
        refine wpAnyH_take (i := 20) (oi := (⟨some 32, _, _, _, _, _⟩ : Oper)) (v := undef) rfl (by kernel_rfl) (by kernel_rfl) (by kernel_rfl) (fun _ _ _ h => h) (Or.inr ⟨by rfl, rfl⟩) (by assumption) ?_
        simp only [Act.put, List.setIfInBounds_toArray, List.set_cons_zero, List.set_cons_succ]
        refine wpAnyH_take (i := 21) (oi := (⟨some 33, _, _, _, _, _⟩ : Oper)) (v := undef) rfl (by kernel_rfl) (by kernel_rfl) (by kernel_rfl) (fun _ _ _ h => h) (Or.inr ⟨by rfl, rfl⟩) (by assumption) ?_
        simp only [Act.put, List.setIfInBounds_toArray, List.set_cons_zero, List.set_cons_succ]
        refine wpAnyH_take (i := 22) (oi := (⟨some 34, _, _, _, _, _⟩ : Oper)) (v := undef) rfl (by kernel_rfl) (by kernel_rfl) (by kernel_rfl) (fun _ _ _ h => h) (Or.inr ⟨by rfl, rfl⟩) (by assumption) ?_
        simp only [Act.put, List.setIfInBounds_toArray, List.set_cons_zero, List.set_cons_succ]
        refine wpAnyH_take (i := 23) (oi := (⟨some 35, _, _, _, _, _⟩ : Oper)) (v := undef) rfl (by kernel_rfl) (by kernel_rfl) (by kernel_rfl) (fun _ _ _ h => h) (Or.inr ⟨by rfl, rfl⟩) (by assumption) ?_
        simp only [Act.put, List.setIfInBounds_toArray, List.set_cons_zero, List.set_cons_succ]
        refine wpAnyH_take (i := 24) (oi := (⟨some 36, _, _, _, _, _⟩ : Oper)) (v := undef) rfl (by kernel_rfl) (by kernel_rfl) (by kernel_rfl) (fun _ _ _ h => h) (Or.inr ⟨by rfl, rfl⟩) (by assumption) ?_
        simp only [Act.put, List.setIfInBounds_toArray, List.set_cons_zero, List.set_cons_succ]
        refine wpAnyH_take (i := 25) (oi := (⟨some 37, _, _, _, _, _⟩ : Oper)) (v := ?_) rfl (by kernel_rfl) (by kernel_rfl) (by kernel_rfl) (fun _ _ _ h => h) (Or.inl ⟨by rfl, ?_⟩) (by assumption) ?_
        rotate_left
        · intro wS hSw; (try dsimp only at hSw); go_simp <;> with_reducible rfl
        simp only [Act.put, List.setIfInBounds_toArray, List.set_cons_zero, List.set_cons_succ]
        refine wpAnyH_done (by kernel_rfl) ?_ _
        have HRB := Lib.hid r1
        clear r1
        go_wp2_with fail
        go_ret
        exact ⟨ret_int (by rw [HRR.out]; rfl), HB.out.trans (HRB.out.mono hsz)⟩
      | true =>
        rw [hc] at hck hst0 hst1
        rw [show er13 true = 0 from rfl] at hck
        simp only [Bool.true_and] at hst0 hst1
        have HCK := Lib.hid hck
        clear hck hc
        by_cases h0 : i = 0
        · have q0 : decide ((0 : Int) < (i : Int)) = false := decide_eq_false (by omega)
          have q0' : decide (0 < i) = false := decide_eq_false (by omega)
          have HST := Lib.hid (show (!q && N) = R by rw [hq0 h0, ← hst0 h0]; rfl)
          have KEEP := KX
          clear hst0 hst1 hq0 hpr h0
          go_wp2_with fail
          refine wp_region_held_drew (S := fun x => x.cell? ⟨w.heap.size, 0, none⟩ = some (.slice (some ⟨b, off, none⟩) l.length fc) ∧ x.cell? ⟨b, off + i * 6, none⟩ = some (.slice PA X.path.length pc) ∧ x.cell? ⟨b, off + i * 6 + 1, none⟩ = some (.string (S X.id)) ∧ x.cell? ⟨b, off + i * 6 + 2, none⟩ = some (.string (S X.title)) ∧ x.cell? ⟨b, off + i * 6 + 3, none⟩ = some (.string (S X.link)) ∧ x.cell? ⟨b, off + i * 6 + 4, none⟩ = some (.int .i64 X.upd) ∧ x.cell? ⟨b, off + i * 6 + 5, none⟩ = some (.slice EB X.ents.length ed)) (by kernel_rfl) ?_ (fun hHeld => ?_)
          · (try dsimp only); exact KEEP.out _ (Below.refl _ _).drew
          refine wpAnyH_take (i := 0) (oi := (⟨some 12, _, _, _, _, _⟩ : Oper)) (v := ?_) rfl (by kernel_rfl) (by kernel_rfl) (by kernel_rfl) (fun _ _ _ h => h) (Or.inl ⟨by rfl, ?_⟩) (by assumption) ?_
          rotate_left
          · intro wS hSw; (try dsimp only at hSw); go_simp <;> with_reducible rfl
          simp only [Act.put, List.setIfInBounds_toArray, List.set_cons_zero, List.set_cons_succ]
          refine wpAnyH_take (i := 1) (oi := (⟨some 13, _, _, _, _, _⟩ : Oper)) (v := ?_) rfl (by kernel_rfl) (by kernel_rfl) (by kernel_rfl) (fun _ _ _ h => h) (Or.inl ⟨by rfl, ?_⟩) (by assumption) ?_
          rotate_left
          · intro wS hSw; (try dsimp only at hSw); go_simp <;> with_reducible rfl
          simp only [Act.put, List.setIfInBounds_toArray, List.set_cons_zero, List.set_cons_succ]
          refine wpAnyH_take (i := 2) (oi := (⟨some 14, _, _, _, _, _⟩ : Oper)) (v := ?_) rfl (by kernel_rfl) (by kernel_rfl) (by kernel_rfl) (fun _ _ _ h => h) (Or.inl ⟨by rfl, ?_⟩) (by assumption) ?_
          rotate_left
          · intro wS hSw; (try dsimp only at hSw); go_simp <;> with_reducible rfl
          simp only [Act.put, List.setIfInBounds_toArray, List.set_cons_zero, List.set_cons_succ]
          refine wpAnyH_take (i := 3) (oi := (⟨some 15, _, _, _, _, _⟩ : Oper)) (v := ?_) rfl (by kernel_rfl) (by kernel_rfl) (by kernel_rfl) (fun _ _ _ h => h) (Or.inl ⟨by rfl, ?_⟩) (by assumption) ?_
          rotate_left
          · intro wS hSw; (try dsimp only at hSw); go_simp <;> with_reducible rfl
          simp only [Act.put, List.setIfInBounds_toArray, List.set_cons_zero, List.set_cons_succ]
          refine wpAnyH_take (i := 4) (oi := (⟨some 16, _, _, _, _, _⟩ : Oper)) (v := ?_) rfl (by kernel_rfl) (by kernel_rfl) (by kernel_rfl) (fun _ _ _ h => h) (Or.inl ⟨by rfl, ?_⟩) (by assumption) ?_
          rotate_left
          · intro wS hSw; (try dsimp only at hSw); go_simp <;> with_reducible rfl
          simp only [Act.put, List.setIfInBounds_toArray, List.set_cons_zero, List.set_cons_succ]
          refine wpAnyH_ready (rs := [5]) (by kernel_rfl) (by simp) ?_
          refine AllReadyH.cons (o := (⟨some 17, _, _, _, _, _⟩ : Oper)) rfl (fun K hK => ?_) ?_
          rotate_left
          · exact AllReadyH.nil
          go_simp
          (go_at_call 29; (with_reducible refine (HCK.out _ (Below.refl _ _).drew).mono ?_); rintro x w1 ⟨rfl, hb1⟩; have r1 := (Below.refl wr.heap.size wr).drew.trans hb1; have hz1 : wr.heap.size ≤ w1.heap.size := r1.size; clear hb1)
          refine hK.out _ _ ?_ (fun hHeld => ?_)
          · (try dsimp only); exact KEEP.out _ r1
          clear hK K
          try simp only [Act.put, List.setIfInBounds_toArray, List.set_cons_zero, List.set_cons_succ]
          refine wpAnyH_take (i := 6) (oi := (⟨some 18, _, _, _, _, _⟩ : Oper)) (v := ?_) rfl (by kernel_rfl) (by kernel_rfl) (by kernel_rfl) (fun _ _ _ h => h) (Or.inl ⟨by rfl, ?_⟩) (by assumption) ?_
          rotate_left
          · intro wS hSw; (try dsimp only at hSw); go_simp <;> with_reducible rfl
          simp only [Act.put, List.setIfInBounds_toArray, List.set_cons_zero, List.set_cons_succ]
          refine wpAnyH_take (i := 7) (oi := (⟨some 19, _, _, _, _, _⟩ : Oper)) (v := ?_) rfl (by kernel_rfl) (by kernel_rfl) (by kernel_rfl) (fun _ _ _ h => h) (Or.inl ⟨by rfl, ?_⟩) (by assumption) ?_
          rotate_left
          · intro wS hSw; (try dsimp only at hSw); go_simp <;> with_reducible rfl
          simp only [Act.put, List.setIfInBounds_toArray, List.set_cons_zero, List.set_cons_succ]
          refine wpAnyH_take (i := 8) (oi := (⟨some 20, _, _, _, _, _⟩ : Oper)) (v := ?_) rfl (by kernel_rfl) (by kernel_rfl) (by kernel_rfl) (fun _ _ _ h => h) (Or.inl ⟨by rfl, ?_⟩) (by assumption) ?_
          rotate_left
          · intro wS hSw; (try dsimp only at hSw); go_simp <;> with_reducible rfl
          simp only [Act.put, List.setIfInBounds_toArray, List.set_cons_zero, List.set_cons_succ]
          refine wpAnyH_take (i := 9) (oi := (⟨some 21, _, _, _, _, _⟩ : Oper)) (v := ?_) rfl (by kernel_rfl) (by kernel_rfl) (by kernel_rfl) (fun _ _ _ h => h) (Or.inl ⟨by rfl, ?_⟩) (by assumption) ?_
          rotate_left
          · intro wS hSw; (try dsimp only at hSw); go_simp <;> with_reducible rfl
          simp only [Act.put, List.setIfInBounds_toArray, List.set_cons_zero, List.set_cons_succ]
          refine wpAnyH_take (i := 10) (oi := (⟨some 22, _, _, _, _, _⟩ : Oper)) (v := ?_) rfl (by kernel_rfl) (by kernel_rfl) (by kernel_rfl) (fun _ _ _ h => h) (Or.inl ⟨by rfl, ?_⟩) (by assumption) ?_
          rotate_left
          · intro wS hSw; (try dsimp only at hSw); go_simp <;> with_reducible rfl
          simp only [Act.put, List.setIfInBounds_toArray, List.set_cons_zero, List.set_cons_succ]
          refine wpAnyH_take (i := 11) (oi := (⟨some 23, _, _, _, _, _⟩ : Oper)) (v := undef) rfl (by kernel_rfl) (by kernel_rfl) (by kernel_rfl) (fun _ _ _ h => h) (Or.inr ⟨by rfl, rfl⟩) (by assumption) ?_
          simp only [Act.put, List.setIfInBounds_toArray, List.set_cons_zero, List.set_cons_succ]
          refine wpAnyH_take (i := 12) (oi := (⟨some 24, _, _, _, _, _⟩ : Oper)) (v := undef) rfl (by kernel_rfl) (by kernel_rfl) (by kernel_rfl) (fun _ _ _ h => h) (Or.inr ⟨by rfl, rfl⟩) (by assumption) ?_
          simp only [Act.put, List.setIfInBounds_toArray, List.set_cons_zero, List.set_cons_succ]
          refine wpAnyH_take (i := 13) (oi := (⟨some 25, _, _, _, _, _⟩ : Oper)) (v := undef) rfl (by kernel_rfl) (by kernel_rfl) (by kernel_rfl) (fun _ _ _ h => h) (Or.inr ⟨by rfl, rfl⟩) (by assumption) ?_
          simp only [Act.put, List.setIfInBounds_toArray, List.set_cons_zero, List.set_cons_succ]
          refine wpAnyH_take (i := 14) (oi := (⟨some 26, _, _, _, _, _⟩ : Oper)) (v := undef) rfl (by kernel_rfl) (by kernel_rfl) (by kernel_rfl) (fun _ _ _ h => h) (Or.inr ⟨by rfl, rfl⟩) (by assumption) ?_
          simp only [Act.put, List.setIfInBounds_toArray, List.set_cons_zero, List.set_cons_succ]
          refine wpAnyH_take (i := 15) (oi := (⟨some 27, _, _, _, _, _⟩ : Oper)) (v := undef) rfl (by kernel_rfl) (by kernel_rfl) (by kernel_rfl) (fun _ _ _ h => h) (Or.inr ⟨by rfl, rfl⟩) (by assumption) ?_
          simp only [Act.put, List.setIfInBounds_toArray, List.set_cons_zero, List.set_cons_succ]
          refine wpAnyH_take (i := 16) (oi := (⟨some 28, _, _, _, _, _⟩ : Oper)) (v := undef) rfl (by kernel_rfl) (by kernel_rfl) (by kernel_rfl) (fun _ _ _ h => h) (Or.inr ⟨by rfl, rfl⟩) (by assumption) ?_
          simp only [Act.put, List.setIfInBounds_toArray, List.set_cons_zero, List.set_cons_succ]
          refine wpAnyH_take (i := 17) (oi := (⟨some 29, _, _, _, _, _⟩ : Oper)) (v := undef) rfl (by kernel_rfl) (by kernel_rfl) (by kernel_rfl) (fun _ _ _ h => h) (Or.inr ⟨by rfl, rfl⟩) (by assumption) ?_
          simp only [Act.put, List.setIfInBounds_toArray, List.set_cons_zero, List.set_cons_succ]
          refine wpAnyH_take (i := 18) (oi := (⟨some 30, _, _, _, _, _⟩ : Oper)) (v := undef) rfl (by kernel_rfl) (by kernel_rfl) (by kernel_rfl) (fun _ _ _ h => h) (Or.inr ⟨by rfl, rfl⟩) (by assumption) ?_
          simp only [Act.put, List.setIfInBounds_toArray, List.set_cons_zero, List.set_cons_succ]
          refine wpAnyH_take (i := 19) (oi := (⟨some 31, _, _, _, _, _⟩ : Oper)) (v := undef) rfl (by kernel_rfl) (by kernel_rfl) (by kernel_rfl) (fun _ _ _ h => h) (Or.inr ⟨by rfl, rfl⟩) (by assumption) ?_
          simp only [Act.put, List.setIfInBounds_toArray, List.set_cons_zero, List.set_cons_succ]
          refine wpAnyH_take (i := 20) (oi := (⟨some 32, _, _, _, _, _⟩ : Oper)) (v := undef) rfl (by kernel_rfl) (by kernel_rfl) (by kernel_rfl) (fun _ _ _ h => h) (Or.inr ⟨by rfl, rfl⟩) (by assumption) ?_
          simp only [Act.put, List.setIfInBounds_toArray, List.set_cons_zero, List.set_cons_succ]
          refine wpAnyH_take (i := 21) (oi := (⟨some 33, _, _, _, _, _⟩ : Oper)) (v := undef) rfl (by kernel_rfl) (by kernel_rfl) (by kernel_rfl) (fun _ _ _ h => h) (Or.inr ⟨by rfl, rfl⟩) (by assumption) ?_
          simp only [Act.put, List.setIfInBounds_toArray, List.set_cons_zero, List.set_cons_succ]
          refine wpAnyH_take (i := 22) (oi := (⟨some 34, _, _, _, _, _⟩ : Oper)) (v := undef) rfl (by kernel_rfl) (by kernel_rfl) (by kernel_rfl) (fun _ _ _ h => h) (Or.inr ⟨by rfl, rfl⟩) (by assumption) ?_
          simp only [Act.put, List.setIfInBounds_toArray, List.set_cons_zero, List.set_cons_succ]
          refine wpAnyH_take (i := 23) (oi := (⟨some 35, _, _, _, _, _⟩ : Oper)) (v := undef) rfl (by kernel_rfl) (by kernel_rfl) (by kernel_rfl) (fun _ _ _ h => h) (Or.inr ⟨by rfl, rfl⟩) (by assumption) ?_
          simp only [Act.put, List.setIfInBounds_toArray, List.set_cons_zero, List.set_cons_succ]
          refine wpAnyH_take (i := 24) (oi := (⟨some 36, _, _, _, _, _⟩ : Oper)) (v := ?_) rfl (by kernel_rfl) (by kernel_rfl) (by kernel_rfl) (fun _ _ _ h => h) (Or.inl ⟨by rfl, ?_⟩) (by assumption) ?_
          rotate_left
          · intro wS hSw; (try dsimp only at hSw); go_simp <;> with_reducible rfl
          simp only [Act.put, List.setIfInBounds_toArray, List.set_cons_zero, List.set_cons_succ]
          refine wpAnyH_take (i := 25) (oi := (⟨some 37, _, _, _, _, _⟩ : Oper)) (v := ?_) rfl (by kernel_rfl) (by kernel_rfl) (by kernel_rfl) (fun _ _ _ h => h) (Or.inl ⟨by rfl, ?_⟩) (by assumption) ?_
          rotate_left
          · intro wS hSw; (try dsimp only at hSw); go_simp <;> with_reducible rfl
          simp only [Act.put, List.setIfInBounds_toArray, List.set_cons_zero, List.set_cons_succ]
          refine wpAnyH_done (by kernel_rfl) ?_ _
          have HRB := Lib.hid r1
          have hzr : w.heap.size ≤ w1.heap.size := Nat.le_trans hsz r1.size
          have HWC := Lib.hid (HB.out.trans (r1.mono hsz))
          clear r1
          go_wp2_with fail
          obtain ⟨wo, rfl⟩ : ∃ x : World, x = wr := ⟨_, rfl⟩
          go_loopw [4] (fun j5 wr => ∃ j : Nat, j ≤ i ∧ j5 = .int .i64 j ∧ ((((l).take i).map Fe.id).drop j).contains X.id = q ∧ Below wo.heap.size wo wr) (fun j5 _ => i - (intOf j5).toNat)
          case atStart => exact ⟨0, Nat.zero_le _, rfl, HQ.out, HRB.out⟩
          case round =>
            obtain ⟨j, hj, rfl, hres, hb⟩ := hrel
            have HRQ := Lib.hid hb
            have hzq : wo.heap.size ≤ wr.heap.size := hb.size
            clear hb HRB
            by_cases hlj : j < i
            · have hlj' : (j : Int) < i := by omega
              have hjl : j < l.length := by omega
              have hjl' : (j : Int) < l.length := by omega
              have hcj := HCJ.out j hjl wr HRQ.out
              obtain ⟨c1, c2, c3⟩ := hcj
              rw [drop_ids hlj (by omega)] at hres
              generalize (l[j]'hjl).id = y at *
              by_cases hy : y = X.id
              · subst hy
                have hq : q = true := by rw [← hres]; simp
                have HRR := Lib.hid (show R = false by have := HST.out; rw [hq] at this; rw [← this]; rfl)
                clear hres hq
                go_wp2_with fail
                go_quiet (fail)
                go_wp2_with fail
                go_ret
                exact ⟨ret_int (by rw [HRR.out]; rfl), (HB.out.trans (HRQ.out.mono hsz)).trans ((below_drewN13 _ _).mono (Nat.le_trans hsz hzq))⟩
              · have t1 : (y == X.id) = false := by rw [beq_eq_false_iff_ne]; exact hy
                have t2 : (X.id == y) = false := by rw [beq_eq_false_iff_ne]; exact fun e => hy e.symm
                rw [List.contains_cons, t2, Bool.false_or] at hres
                have HRES := Lib.hid hres
                clear hres hy t2
                go_wp2_with fail
                go_quiet (fail)
                go_wp2_with fail
                go_roundw
                case rel => exact ⟨j + 1, by omega, by go_num, HRES.out, HRQ.out.trans ((below_drewN13 _ _).mono hzq)⟩
                case measure => simp [intOf]; omega
            · obtain rfl : j = i := by omega
              have hq : q = false := by rw [← hres, List.drop_of_length_le (by simp; omega)]; rfl
              have HRR := Lib.hid (show ordG vldF cmpF Fe.id ((l).take (j + 1)) ((l).drop (j + 1)) = R by have := HST.out; rw [hq, Bool.not_false, Bool.true_and] at this; rw [HN.out]; exact this)
              have hlj' : ¬ ((j : Int) < j) := by omega
              clear hres hq hlj
              go_wp2_with fail
              go_roundw
              case rel => exact ⟨j + 1, by omega, by go_num, HRR.out, HB.out.trans (HRQ.out.mono hsz), (HRQ.out.block _ hwx).trans HX.out⟩
              case measure => simp [intOf]; omega
        · have q0 : decide ((0 : Int) < (i : Int)) = true := decide_eq_true (by omega)
          have q0' : decide (0 < i) = true := decide_eq_true (by omega)
          have w1' : IntKind.i64.wrap ((i : Int) - 1) = (i : Int) - 1 := by rw [IntKind.wrap_i64]; omega
          have w2' : (0 : Int) ≤ (i : Int) - 1 := by omega
          have w3' : ((i : Int) - 1).toNat = i - 1 := by omega
          have w4' : (i : Int) - 1 < l.length := by omega
          have w5' : (1 : Int) ≤ i := by omega
          obtain ⟨ds, hpr1, hds, hpz⟩ := hpr (by omega)
          have hst := hst1 (by omega)
          generalize (l[i - 1]'(by omega)) = P at *
          have hvp : ∀ W, Below wr.heap.size wr W → FeeP W (· < W.heap.size) P ds := fun W hW => hds.keep (fun k hk => hW.block k (Nat.lt_of_lt_of_le hk hsz)) (fun k hk => Nat.lt_of_lt_of_le (Nat.lt_of_lt_of_le hk hsz) hW.size)
          obtain ⟨QA, qc, FB, fd, rfl, _, _, _, _⟩ := hds
          have hcm := fun W => fun (hW : Below wr.heap.size wr W) => refCmpFeeds_any P X _ _ W ⟨_, rfl, hvp W hW⟩ ⟨_, rfl, hvx W hW⟩ (by have := hpz.path; omega) (by have := hxs.path; omega)
          generalize cmpF P X = m at *
          have HCM := Lib.hid hcm
          have KEEP : Hid (∀ W, Below wr.heap.size wr W → (W.cell? ⟨w.heap.size, 0, none⟩ = some (.slice (some ⟨b, off, none⟩) l.length fc) ∧ W.cell? ⟨b, off + i * 6, none⟩ = some (.slice PA X.path.length pc) ∧ W.cell? ⟨b, off + i * 6 + 1, none⟩ = some (.string (S X.id)) ∧ W.cell? ⟨b, off + i * 6 + 2, none⟩ = some (.string (S X.title)) ∧ W.cell? ⟨b, off + i * 6 + 3, none⟩ = some (.string (S X.link)) ∧ W.cell? ⟨b, off + i * 6 + 4, none⟩ = some (.int .i64 X.upd) ∧ W.cell? ⟨b, off + i * 6 + 5, none⟩ = some (.slice EB X.ents.length ed)) ∧ (W.cell? ⟨b, off + (i - 1) * 6, none⟩ = some (.slice QA P.path.length qc) ∧ W.cell? ⟨b, off + (i - 1) * 6 + 1, none⟩ = some (.string (S P.id)) ∧ W.cell? ⟨b, off + (i - 1) * 6 + 2, none⟩ = some (.string (S P.title)) ∧ W.cell? ⟨b, off + (i - 1) * 6 + 3, none⟩ = some (.string (S P.link)) ∧ W.cell? ⟨b, off + (i - 1) * 6 + 4, none⟩ = some (.int .i64 P.upd) ∧ W.cell? ⟨b, off + (i - 1) * 6 + 5, none⟩ = some (.slice FB P.ents.length fd))) := fun W hW => by
            have hr2 := rangeAt_keep hpr1 (hW.block b hbl)
            exact ⟨KX.out W hW, hr2 0 _ rfl, hr2 1 _ rfl, hr2 2 _ rfl, hr2 3 _ rfl, hr2 4 _ rfl, hr2 5 _ rfl⟩
          clear hcm hpr hpr1 hst0 hst1 hq0 h0
          by_cases hm : m < 0
          · have qm : decide ((0 : Int) ≤ m) = false := decide_eq_false (by omega)
            rw [decide_eq_true hm] at hst
            simp only [Bool.true_and] at hst
            have HST := Lib.hid hst
            clear hst hm
            go_wp2_with fail
            refine wp_region_held_drew (S := fun x => (x.cell? ⟨w.heap.size, 0, none⟩ = some (.slice (some ⟨b, off, none⟩) l.length fc) ∧ x.cell? ⟨b, off + i * 6, none⟩ = some (.slice PA X.path.length pc) ∧ x.cell? ⟨b, off + i * 6 + 1, none⟩ = some (.string (S X.id)) ∧ x.cell? ⟨b, off + i * 6 + 2, none⟩ = some (.string (S X.title)) ∧ x.cell? ⟨b, off + i * 6 + 3, none⟩ = some (.string (S X.link)) ∧ x.cell? ⟨b, off + i * 6 + 4, none⟩ = some (.int .i64 X.upd) ∧ x.cell? ⟨b, off + i * 6 + 5, none⟩ = some (.slice EB X.ents.length ed)) ∧ (x.cell? ⟨b, off + (i - 1) * 6, none⟩ = some (.slice QA P.path.length qc) ∧ x.cell? ⟨b, off + (i - 1) * 6 + 1, none⟩ = some (.string (S P.id)) ∧ x.cell? ⟨b, off + (i - 1) * 6 + 2, none⟩ = some (.string (S P.title)) ∧ x.cell? ⟨b, off + (i - 1) * 6 + 3, none⟩ = some (.string (S P.link)) ∧ x.cell? ⟨b, off + (i - 1) * 6 + 4, none⟩ = some (.int .i64 P.upd) ∧ x.cell? ⟨b, off + (i - 1) * 6 + 5, none⟩ = some (.slice FB P.ents.length fd))) (by kernel_rfl) ?_ (fun hHeld => ?_)
            · (try dsimp only); exact KEEP.out _ (Below.refl _ _).drew
            refine wpAnyH_take (i := 0) (oi := (⟨some 12, _, _, _, _, _⟩ : Oper)) (v := ?_) rfl (by kernel_rfl) (by kernel_rfl) (by kernel_rfl) (fun _ _ _ h => h) (Or.inl ⟨by rfl, ?_⟩) (by assumption) ?_
            rotate_left
            · intro wS hSw; (try dsimp only at hSw); go_simp <;> with_reducible rfl
            simp only [Act.put, List.setIfInBounds_toArray, List.set_cons_zero, List.set_cons_succ]
            refine wpAnyH_take (i := 1) (oi := (⟨some 13, _, _, _, _, _⟩ : Oper)) (v := ?_) rfl (by kernel_rfl) (by kernel_rfl) (by kernel_rfl) (fun _ _ _ h => h) (Or.inl ⟨by rfl, ?_⟩) (by assumption) ?_
            rotate_left
            · intro wS hSw; (try dsimp only at hSw); go_simp <;> with_reducible rfl
            simp only [Act.put, List.setIfInBounds_toArray, List.set_cons_zero, List.set_cons_succ]
            refine wpAnyH_take (i := 2) (oi := (⟨some 14, _, _, _, _, _⟩ : Oper)) (v := ?_) rfl (by kernel_rfl) (by kernel_rfl) (by kernel_rfl) (fun _ _ _ h => h) (Or.inl ⟨by rfl, ?_⟩) (by assumption) ?_
            rotate_left
            · intro wS hSw; (try dsimp only at hSw); go_simp <;> with_reducible rfl
            simp only [Act.put, List.setIfInBounds_toArray, List.set_cons_zero, List.set_cons_succ]
            refine wpAnyH_take (i := 3) (oi := (⟨some 15, _, _, _, _, _⟩ : Oper)) (v := ?_) rfl (by kernel_rfl) (by kernel_rfl) (by kernel_rfl) (fun _ _ _ h => h) (Or.inl ⟨by rfl, ?_⟩) (by assumption) ?_
            rotate_left
            · intro wS hSw; (try dsimp only at hSw); go_simp <;> with_reducible rfl
            simp only [Act.put, List.setIfInBounds_toArray, List.set_cons_zero, List.set_cons_succ]
            refine wpAnyH_take (i := 4) (oi := (⟨some 16, _, _, _, _, _⟩ : Oper)) (v := ?_) rfl (by kernel_rfl) (by kernel_rfl) (by kernel_rfl) (fun _ _ _ h => h) (Or.inl ⟨by rfl, ?_⟩) (by assumption) ?_
            rotate_left
            · intro wS hSw; (try dsimp only at hSw); go_simp <;> with_reducible rfl
            simp only [Act.put, List.setIfInBounds_toArray, List.set_cons_zero, List.set_cons_succ]
            refine wpAnyH_ready (rs := [5]) (by kernel_rfl) (by simp) ?_
            refine AllReadyH.cons (o := (⟨some 17, _, _, _, _, _⟩ : Oper)) rfl (fun K hK => ?_) ?_
            rotate_left
            · exact AllReadyH.nil
            go_simp
            (go_at_call 29; (with_reducible refine (HCK.out _ (Below.refl _ _).drew).mono ?_); rintro x w1 ⟨rfl, hb1⟩; have r1 := (Below.refl wr.heap.size wr).drew.trans hb1; have hz1 : wr.heap.size ≤ w1.heap.size := r1.size; clear hb1)
            refine hK.out _ _ ?_ (fun hHeld => ?_)
            · (try dsimp only); exact KEEP.out _ r1
            clear hK K
            try simp only [Act.put, List.setIfInBounds_toArray, List.set_cons_zero, List.set_cons_succ]
            refine wpAnyH_take (i := 6) (oi := (⟨some 18, _, _, _, _, _⟩ : Oper)) (v := ?_) rfl (by kernel_rfl) (by kernel_rfl) (by kernel_rfl) (fun _ _ _ h => h) (Or.inl ⟨by rfl, ?_⟩) (by assumption) ?_
            rotate_left
            · intro wS hSw; (try dsimp only at hSw); go_simp <;> with_reducible rfl
            simp only [Act.put, List.setIfInBounds_toArray, List.set_cons_zero, List.set_cons_succ]
            refine wpAnyH_take (i := 7) (oi := (⟨some 19, _, _, _, _, _⟩ : Oper)) (v := ?_) rfl (by kernel_rfl) (by kernel_rfl) (by kernel_rfl) (fun _ _ _ h => h) (Or.inl ⟨by rfl, ?_⟩) (by assumption) ?_
            rotate_left
            · intro wS hSw; (try dsimp only at hSw); go_simp <;> with_reducible rfl
            simp only [Act.put, List.setIfInBounds_toArray, List.set_cons_zero, List.set_cons_succ]
            refine wpAnyH_take (i := 8) (oi := (⟨some 20, _, _, _, _, _⟩ : Oper)) (v := ?_) rfl (by kernel_rfl) (by kernel_rfl) (by kernel_rfl) (fun _ _ _ h => h) (Or.inl ⟨by rfl, ?_⟩) (by assumption) ?_
            rotate_left
            · intro wS hSw; (try dsimp only at hSw); go_simp <;> with_reducible rfl
            simp only [Act.put, List.setIfInBounds_toArray, List.set_cons_zero, List.set_cons_succ]
            refine wpAnyH_take (i := 9) (oi := (⟨some 21, _, _, _, _, _⟩ : Oper)) (v := ?_) rfl (by kernel_rfl) (by kernel_rfl) (by kernel_rfl) (fun _ _ _ h => h) (Or.inl ⟨by rfl, ?_⟩) (by assumption) ?_
            rotate_left
            · intro wS hSw; (try dsimp only at hSw); go_simp <;> with_reducible rfl
            simp only [Act.put, List.setIfInBounds_toArray, List.set_cons_zero, List.set_cons_succ]
            refine wpAnyH_take (i := 10) (oi := (⟨some 22, _, _, _, _, _⟩ : Oper)) (v := ?_) rfl (by kernel_rfl) (by kernel_rfl) (by kernel_rfl) (fun _ _ _ h => h) (Or.inl ⟨by rfl, ?_⟩) (by assumption) ?_
            rotate_left
            · intro wS hSw; (try dsimp only at hSw); go_simp <;> with_reducible rfl
            simp only [Act.put, List.setIfInBounds_toArray, List.set_cons_zero, List.set_cons_succ]
            refine wpAnyH_take (i := 11) (oi := (⟨some 23, _, _, _, _, _⟩ : Oper)) (v := ?_) rfl (by kernel_rfl) (by kernel_rfl) (by kernel_rfl) (fun _ _ _ h => h) (Or.inl ⟨by rfl, ?_⟩) (by assumption) ?_
            rotate_left
            · intro wS hSw; (try dsimp only at hSw); go_simp <;> with_reducible rfl
            simp only [Act.put, List.setIfInBounds_toArray, List.set_cons_zero, List.set_cons_succ]
            refine wpAnyH_take (i := 12) (oi := (⟨some 24, _, _, _, _, _⟩ : Oper)) (v := ?_) rfl (by kernel_rfl) (by kernel_rfl) (by kernel_rfl) (fun _ _ _ h => h) (Or.inl ⟨by rfl, ?_⟩) (by assumption) ?_
            rotate_left
            · intro wS hSw; (try dsimp only at hSw); go_simp <;> with_reducible rfl
            simp only [Act.put, List.setIfInBounds_toArray, List.set_cons_zero, List.set_cons_succ]
            refine wpAnyH_take (i := 13) (oi := (⟨some 25, _, _, _, _, _⟩ : Oper)) (v := ?_) rfl (by kernel_rfl) (by kernel_rfl) (by kernel_rfl) (fun _ _ _ h => h) (Or.inl ⟨by rfl, ?_⟩) (by assumption) ?_
            rotate_left
            · intro wS hSw; (try dsimp only at hSw); go_simp <;> with_reducible rfl
            simp only [Act.put, List.setIfInBounds_toArray, List.set_cons_zero, List.set_cons_succ]
            refine wpAnyH_take (i := 14) (oi := (⟨some 26, _, _, _, _, _⟩ : Oper)) (v := ?_) rfl (by kernel_rfl) (by kernel_rfl) (by kernel_rfl) (fun _ _ _ h => h) (Or.inl ⟨by rfl, ?_⟩) (by assumption) ?_
            rotate_left
            · intro wS hSw; (try dsimp only at hSw); go_simp <;> with_reducible rfl
            simp only [Act.put, List.setIfInBounds_toArray, List.set_cons_zero, List.set_cons_succ]
            refine wpAnyH_take (i := 15) (oi := (⟨some 27, _, _, _, _, _⟩ : Oper)) (v := ?_) rfl (by kernel_rfl) (by kernel_rfl) (by kernel_rfl) (fun _ _ _ h => h) (Or.inl ⟨by rfl, ?_⟩) (by assumption) ?_
            rotate_left
            · intro wS hSw; (try dsimp only at hSw); go_simp <;> with_reducible rfl
            simp only [Act.put, List.setIfInBounds_toArray, List.set_cons_zero, List.set_cons_succ]
            refine wpAnyH_take (i := 16) (oi := (⟨some 28, _, _, _, _, _⟩ : Oper)) (v := ?_) rfl (by kernel_rfl) (by kernel_rfl) (by kernel_rfl) (fun _ _ _ h => h) (Or.inl ⟨by rfl, ?_⟩) (by assumption) ?_
            rotate_left
            · intro wS hSw; (try dsimp only at hSw); go_simp <;> with_reducible rfl
            simp only [Act.put, List.setIfInBounds_toArray, List.set_cons_zero, List.set_cons_succ]
            refine wpAnyH_take (i := 17) (oi := (⟨some 29, _, _, _, _, _⟩ : Oper)) (v := ?_) rfl (by kernel_rfl) (by kernel_rfl) (by kernel_rfl) (fun _ _ _ h => h) (Or.inl ⟨by rfl, ?_⟩) (by assumption) ?_
            rotate_left
            · intro wS hSw; (try dsimp only at hSw); go_simp <;> with_reducible rfl
            simp only [Act.put, List.setIfInBounds_toArray, List.set_cons_zero, List.set_cons_succ]
            refine wpAnyH_take (i := 18) (oi := (⟨some 30, _, _, _, _, _⟩ : Oper)) (v := ?_) rfl (by kernel_rfl) (by kernel_rfl) (by kernel_rfl) (fun _ _ _ h => h) (Or.inl ⟨by rfl, ?_⟩) (by assumption) ?_
            rotate_left
            · intro wS hSw; (try dsimp only at hSw); go_simp <;> with_reducible rfl
            simp only [Act.put, List.setIfInBounds_toArray, List.set_cons_zero, List.set_cons_succ]
            refine wpAnyH_take (i := 19) (oi := (⟨some 31, _, _, _, _, _⟩ : Oper)) (v := ?_) rfl (by kernel_rfl) (by kernel_rfl) (by kernel_rfl) (fun _ _ _ h => h) (Or.inl ⟨by rfl, ?_⟩) (by assumption) ?_
            rotate_left
            · intro wS hSw; (try dsimp only at hSw); go_simp <;> with_reducible rfl
            simp only [Act.put, List.setIfInBounds_toArray, List.set_cons_zero, List.set_cons_succ]
            refine wpAnyH_take (i := 20) (oi := (⟨some 32, _, _, _, _, _⟩ : Oper)) (v := ?_) rfl (by kernel_rfl) (by kernel_rfl) (by kernel_rfl) (fun _ _ _ h => h) (Or.inl ⟨by rfl, ?_⟩) (by assumption) ?_
            rotate_left
            · intro wS hSw; (try dsimp only at hSw); go_simp <;> with_reducible rfl
            simp only [Act.put, List.setIfInBounds_toArray, List.set_cons_zero, List.set_cons_succ]
            refine wpAnyH_take (i := 21) (oi := (⟨some 33, _, _, _, _, _⟩ : Oper)) (v := ?_) rfl (by kernel_rfl) (by kernel_rfl) (by kernel_rfl) (fun _ _ _ h => h) (Or.inl ⟨by rfl, ?_⟩) (by assumption) ?_
            rotate_left
            · intro wS hSw; (try dsimp only at hSw); go_simp <;> with_reducible rfl
            simp only [Act.put, List.setIfInBounds_toArray, List.set_cons_zero, List.set_cons_succ]
            refine wpAnyH_ready (rs := [22]) (by kernel_rfl) (by simp) ?_
            refine AllReadyH.cons (o := (⟨some 34, _, _, _, _, _⟩ : Oper)) rfl (fun K hK => ?_) ?_
            rotate_left
            · exact AllReadyH.nil
            go_simp
            (go_at_call 47; (with_reducible refine (HCM.out _ r1).mono ?_); rintro x w2 ⟨rfl, hb2⟩; have r2 := r1.trans (hb2.mono hz1); have hz2 : wr.heap.size ≤ w2.heap.size := r2.size; clear hb2)
            refine hK.out _ _ ?_ (fun hHeld => ?_)
            · (try dsimp only); exact KEEP.out _ r2
            clear hK K
            try simp only [Act.put, List.setIfInBounds_toArray, List.set_cons_zero, List.set_cons_succ]
            refine wpAnyH_take (i := 23) (oi := (⟨some 35, _, _, _, _, _⟩ : Oper)) (v := ?_) rfl (by kernel_rfl) (by kernel_rfl) (by kernel_rfl) (fun _ _ _ h => h) (Or.inl ⟨by rfl, ?_⟩) (by assumption) ?_
            rotate_left
            · intro wS hSw; (try dsimp only at hSw); go_simp <;> with_reducible rfl
            simp only [Act.put, List.setIfInBounds_toArray, List.set_cons_zero, List.set_cons_succ]
            refine wpAnyH_take (i := 24) (oi := (⟨some 36, _, _, _, _, _⟩ : Oper)) (v := ?_) rfl (by kernel_rfl) (by kernel_rfl) (by kernel_rfl) (fun _ _ _ h => h) (Or.inl ⟨by rfl, ?_⟩) (by assumption) ?_
            rotate_left
            · intro wS hSw; (try dsimp only at hSw); go_simp <;> with_reducible rfl
            simp only [Act.put, List.setIfInBounds_toArray, List.set_cons_zero, List.set_cons_succ]
            refine wpAnyH_take (i := 25) (oi := (⟨some 37, _, _, _, _, _⟩ : Oper)) (v := ?_) rfl (by kernel_rfl) (by kernel_rfl) (by kernel_rfl) (fun _ _ _ h => h) (Or.inl ⟨by rfl, ?_⟩) (by assumption) ?_
            rotate_left
            · intro wS hSw; (try dsimp only at hSw); go_simp <;> with_reducible rfl
            simp only [Act.put, List.setIfInBounds_toArray, List.set_cons_zero, List.set_cons_succ]
            refine wpAnyH_done (by kernel_rfl) ?_ _
            clear w1' w2' w3' w4' w5'
            have HRB := Lib.hid r2
            have hzr : w.heap.size ≤ w2.heap.size := Nat.le_trans hsz r2.size
            have HWC := Lib.hid (HB.out.trans (r2.mono hsz))
            clear r2
            go_wp2_with fail
            obtain ⟨wo, rfl⟩ : ∃ x : World, x = wr := ⟨_, rfl⟩
            go_loopw [4] (fun j5 wr => ∃ j : Nat, j ≤ i ∧ j5 = .int .i64 j ∧ ((((l).take i).map Fe.id).drop j).contains X.id = q ∧ Below wo.heap.size wo wr) (fun j5 _ => i - (intOf j5).toNat)
            case atStart => exact ⟨0, Nat.zero_le _, rfl, HQ.out, HRB.out⟩
            case round =>
              obtain ⟨j, hj, rfl, hres, hb⟩ := hrel
              have HRQ := Lib.hid hb
              have hzq : wo.heap.size ≤ wr.heap.size := hb.size
              clear hb HRB
              by_cases hlj : j < i
              · have hlj' : (j : Int) < i := by omega
                have hjl : j < l.length := by omega
                have hjl' : (j : Int) < l.length := by omega
                have hcj := HCJ.out j hjl wr HRQ.out
                obtain ⟨c1, c2, c3⟩ := hcj
                rw [drop_ids hlj (by omega)] at hres
                generalize (l[j]'hjl).id = y at *
                by_cases hy : y = X.id
                · subst hy
                  have hq : q = true := by rw [← hres]; simp
                  have HRR := Lib.hid (show R = false by have := HST.out; rw [hq] at this; rw [← this]; rfl)
                  clear hres hq
                  go_wp2_with fail
                  go_quiet (fail)
                  go_wp2_with fail
                  go_ret
                  exact ⟨ret_int (by rw [HRR.out]; rfl), (HB.out.trans (HRQ.out.mono hsz)).trans ((below_drewN13 _ _).mono (Nat.le_trans hsz hzq))⟩
                · have t1 : (y == X.id) = false := by rw [beq_eq_false_iff_ne]; exact hy
                  have t2 : (X.id == y) = false := by rw [beq_eq_false_iff_ne]; exact fun e => hy e.symm
                  rw [List.contains_cons, t2, Bool.false_or] at hres
                  have HRES := Lib.hid hres
                  clear hres hy t2
                  go_wp2_with fail
                  go_quiet (fail)
                  go_wp2_with fail
                  go_roundw
                  case rel => exact ⟨j + 1, by omega, by go_num, HRES.out, HRQ.out.trans ((below_drewN13 _ _).mono hzq)⟩
                  case measure => simp [intOf]; omega
              · obtain rfl : j = i := by omega
                have hq : q = false := by rw [← hres, List.drop_of_length_le (by simp; omega)]; rfl
                have HRR := Lib.hid (show ordG vldF cmpF Fe.id ((l).take (j + 1)) ((l).drop (j + 1)) = R by have := HST.out; rw [hq, Bool.not_false, Bool.true_and] at this; rw [HN.out]; exact this)
                have hlj' : ¬ ((j : Int) < j) := by omega
                clear hres hq hlj
                go_wp2_with fail
                go_roundw
                case rel => exact ⟨j + 1, by omega, by go_num, HRR.out, HB.out.trans (HRQ.out.mono hsz), (HRQ.out.block _ hwx).trans HX.out⟩
                case measure => simp [intOf]; omega
          · have qm : decide ((0 : Int) ≤ m) = true := decide_eq_true (by omega)
            rw [decide_eq_false hm] at hst
            have hr : R = false := by rw [← hst]; rfl
            have HRR := Lib.hid hr
            clear hst hr hm
            go_wp2_with fail
            refine wp_region_held_drew (S := fun x => (x.cell? ⟨w.heap.size, 0, none⟩ = some (.slice (some ⟨b, off, none⟩) l.length fc) ∧ x.cell? ⟨b, off + i * 6, none⟩ = some (.slice PA X.path.length pc) ∧ x.cell? ⟨b, off + i * 6 + 1, none⟩ = some (.string (S X.id)) ∧ x.cell? ⟨b, off + i * 6 + 2, none⟩ = some (.string (S X.title)) ∧ x.cell? ⟨b, off + i * 6 + 3, none⟩ = some (.string (S X.link)) ∧ x.cell? ⟨b, off + i * 6 + 4, none⟩ = some (.int .i64 X.upd) ∧ x.cell? ⟨b, off + i * 6 + 5, none⟩ = some (.slice EB X.ents.length ed)) ∧ (x.cell? ⟨b, off + (i - 1) * 6, none⟩ = some (.slice QA P.path.length qc) ∧ x.cell? ⟨b, off + (i - 1) * 6 + 1, none⟩ = some (.string (S P.id)) ∧ x.cell? ⟨b, off + (i - 1) * 6 + 2, none⟩ = some (.string (S P.title)) ∧ x.cell? ⟨b, off + (i - 1) * 6 + 3, none⟩ = some (.string (S P.link)) ∧ x.cell? ⟨b, off + (i - 1) * 6 + 4, none⟩ = some (.int .i64 P.upd) ∧ x.cell? ⟨b, off + (i - 1) * 6 + 5, none⟩ = some (.slice FB P.ents.length fd))) (by kernel_rfl) ?_ (fun hHeld => ?_)
            · (try dsimp only); exact KEEP.out _ (Below.refl _ _).drew
            refine wpAnyH_take (i := 0) (oi := (⟨some 12, _, _, _, _, _⟩ : Oper)) (v := ?_) rfl (by kernel_rfl) (by kernel_rfl) (by kernel_rfl) (fun _ _ _ h => h) (Or.inl ⟨by rfl, ?_⟩) (by assumption) ?_
            rotate_left
            · intro wS hSw; (try dsimp only at hSw); go_simp <;> with_reducible rfl
            simp only [Act.put, List.setIfInBounds_toArray, List.set_cons_zero, List.set_cons_succ]
            refine wpAnyH_take (i := 1) (oi := (⟨some 13, _, _, _, _, _⟩ : Oper)) (v := ?_) rfl (by kernel_rfl) (by kernel_rfl) (by kernel_rfl) (fun _ _ _ h => h) (Or.inl ⟨by rfl, ?_⟩) (by assumption) ?_
            rotate_left
            · intro wS hSw; (try dsimp only at hSw); go_simp <;> with_reducible rfl
            simp only [Act.put, List.setIfInBounds_toArray, List.set_cons_zero, List.set_cons_succ]
            refine wpAnyH_take (i := 2) (oi := (⟨some 14, _, _, _, _, _⟩ : Oper)) (v := ?_) rfl (by kernel_rfl) (by kernel_rfl) (by kernel_rfl) (fun _ _ _ h => h) (Or.inl ⟨by rfl, ?_⟩) (by assumption) ?_
            rotate_left
            · intro wS hSw; (try dsimp only at hSw); go_simp <;> with_reducible rfl
            simp only [Act.put, List.setIfInBounds_toArray, List.set_cons_zero, List.set_cons_succ]
            refine wpAnyH_take (i := 3) (oi := (⟨some 15, _, _, _, _, _⟩ : Oper)) (v := ?_) rfl (by kernel_rfl) (by kernel_rfl) (by kernel_rfl) (fun _ _ _ h => h) (Or.inl ⟨by rfl, ?_⟩) (by assumption) ?_
            rotate_left
            · intro wS hSw; (try dsimp only at hSw); go_simp <;> with_reducible rfl
            simp only [Act.put, List.setIfInBounds_toArray, List.set_cons_zero, List.set_cons_succ]
            refine wpAnyH_take (i := 4) (oi := (⟨some 16, _, _, _, _, _⟩ : Oper)) (v := ?_) rfl (by kernel_rfl) (by kernel_rfl) (by kernel_rfl) (fun _ _ _ h => h) (Or.inl ⟨by rfl, ?_⟩) (by assumption) ?_
            rotate_left
            · intro wS hSw; (try dsimp only at hSw); go_simp <;> with_reducible rfl
            simp only [Act.put, List.setIfInBounds_toArray, List.set_cons_zero, List.set_cons_succ]
            refine wpAnyH_ready (rs := [5]) (by kernel_rfl) (by simp) ?_
            refine AllReadyH.cons (o := (⟨some 17, _, _, _, _, _⟩ : Oper)) rfl (fun K hK => ?_) ?_
            rotate_left
            · exact AllReadyH.nil
            go_simp
            (go_at_call 29; (with_reducible refine (HCK.out _ (Below.refl _ _).drew).mono ?_); rintro x w1 ⟨rfl, hb1⟩; have r1 := (Below.refl wr.heap.size wr).drew.trans hb1; have hz1 : wr.heap.size ≤ w1.heap.size := r1.size; clear hb1)
            refine hK.out _ _ ?_ (fun hHeld => ?_)
            · (try dsimp only); exact KEEP.out _ r1
            clear hK K
            try simp only [Act.put, List.setIfInBounds_toArray, List.set_cons_zero, List.set_cons_succ]
            refine wpAnyH_take (i := 6) (oi := (⟨some 18, _, _, _, _, _⟩ : Oper)) (v := ?_) rfl (by kernel_rfl) (by kernel_rfl) (by kernel_rfl) (fun _ _ _ h => h) (Or.inl ⟨by rfl, ?_⟩) (by assumption) ?_
            rotate_left
            · intro wS hSw; (try dsimp only at hSw); go_simp <;> with_reducible rfl
            simp only [Act.put, List.setIfInBounds_toArray, List.set_cons_zero, List.set_cons_succ]
            refine wpAnyH_take (i := 7) (oi := (⟨some 19, _, _, _, _, _⟩ : Oper)) (v := ?_) rfl (by kernel_rfl) (by kernel_rfl) (by kernel_rfl) (fun _ _ _ h => h) (Or.inl ⟨by rfl, ?_⟩) (by assumption) ?_
            rotate_left
            · intro wS hSw; (try dsimp only at hSw); go_simp <;> with_reducible rfl
            simp only [Act.put, List.setIfInBounds_toArray, List.set_cons_zero, List.set_cons_succ]
            refine wpAnyH_take (i := 8) (oi := (⟨some 20, _, _, _, _, _⟩ : Oper)) (v := ?_) rfl (by kernel_rfl) (by kernel_rfl) (by kernel_rfl) (fun _ _ _ h => h) (Or.inl ⟨by rfl, ?_⟩) (by assumption) ?_
            rotate_left
            · intro wS hSw; (try dsimp only at hSw); go_simp <;> with_reducible rfl
            simp only [Act.put, List.setIfInBounds_toArray, List.set_cons_zero, List.set_cons_succ]
            refine wpAnyH_take (i := 9) (oi := (⟨some 21, _, _, _, _, _⟩ : Oper)) (v := ?_) rfl (by kernel_rfl) (by kernel_rfl) (by kernel_rfl) (fun _ _ _ h => h) (Or.inl ⟨by rfl, ?_⟩) (by assumption) ?_
            rotate_left
            · intro wS hSw; (try dsimp only at hSw); go_simp <;> with_reducible rfl
            simp only [Act.put, List.setIfInBounds_toArray, List.set_cons_zero, List.set_cons_succ]
            refine wpAnyH_take (i := 10) (oi := (⟨some 22, _, _, _, _, _⟩ : Oper)) (v := ?_) rfl (by kernel_rfl) (by kernel_rfl) (by kernel_rfl) (fun _ _ _ h => h) (Or.inl ⟨by rfl, ?_⟩) (by assumption) ?_
            rotate_left
            · intro wS hSw; (try dsimp only at hSw); go_simp <;> with_reducible rfl
            simp only [Act.put, List.setIfInBounds_toArray, List.set_cons_zero, List.set_cons_succ]
            refine wpAnyH_take (i := 11) (oi := (⟨some 23, _, _, _, _, _⟩ : Oper)) (v := ?_) rfl (by kernel_rfl) (by kernel_rfl) (by kernel_rfl) (fun _ _ _ h => h) (Or.inl ⟨by rfl, ?_⟩) (by assumption) ?_
            rotate_left
            · intro wS hSw; (try dsimp only at hSw); go_simp <;> with_reducible rfl
            simp only [Act.put, List.setIfInBounds_toArray, List.set_cons_zero, List.set_cons_succ]
            refine wpAnyH_take (i := 12) (oi := (⟨some 24, _, _, _, _, _⟩ : Oper)) (v := ?_) rfl (by kernel_rfl) (by kernel_rfl) (by kernel_rfl) (fun _ _ _ h => h) (Or.inl ⟨by rfl, ?_⟩) (by assumption) ?_
            rotate_left
            · intro wS hSw; (try dsimp only at hSw); go_simp <;> with_reducible rfl
            simp only [Act.put, List.setIfInBounds_toArray, List.set_cons_zero, List.set_cons_succ]
            refine wpAnyH_take (i := 13) (oi := (⟨some 25, _, _, _, _, _⟩ : Oper)) (v := ?_) rfl (by kernel_rfl) (by kernel_rfl) (by kernel_rfl) (fun _ _ _ h => h) (Or.inl ⟨by rfl, ?_⟩) (by assumption) ?_
            rotate_left
            · intro wS hSw; (try dsimp only at hSw); go_simp <;> with_reducible rfl
            simp only [Act.put, List.setIfInBounds_toArray, List.set_cons_zero, List.set_cons_succ]
            refine wpAnyH_take (i := 14) (oi := (⟨some 26, _, _, _, _, _⟩ : Oper)) (v := ?_) rfl (by kernel_rfl) (by kernel_rfl) (by kernel_rfl) (fun _ _ _ h => h) (Or.inl ⟨by rfl, ?_⟩) (by assumption) ?_
            rotate_left
            · intro wS hSw; (try dsimp only at hSw); go_simp <;> with_reducible rfl
            simp only [Act.put, List.setIfInBounds_toArray, List.set_cons_zero, List.set_cons_succ]
            refine wpAnyH_take (i := 15) (oi := (⟨some 27, _, _, _, _, _⟩ : Oper)) (v := ?_) rfl (by kernel_rfl) (by kernel_rfl) (by kernel_rfl) (fun _ _ _ h => h) (Or.inl ⟨by rfl, ?_⟩) (by assumption) ?_
            rotate_left
            · intro wS hSw; (try dsimp only at hSw); go_simp <;> with_reducible rfl
            simp only [Act.put, List.setIfInBounds_toArray, List.set_cons_zero, List.set_cons_succ]
            refine wpAnyH_take (i := 16) (oi := (⟨some 28, _, _, _, _, _⟩ : Oper)) (v := ?_) rfl (by kernel_rfl) (by kernel_rfl) (by kernel_rfl) (fun _ _ _ h => h) (Or.inl ⟨by rfl, ?_⟩) (by assumption) ?_
            rotate_left
            · intro wS hSw; (try dsimp only at hSw); go_simp <;> with_reducible rfl
            simp only [Act.put, List.setIfInBounds_toArray, List.set_cons_zero, List.set_cons_succ]
            refine wpAnyH_take (i := 17) (oi := (⟨some 29, _, _, _, _, _⟩ : Oper)) (v := ?_) rfl (by kernel_rfl) (by kernel_rfl) (by kernel_rfl) (fun _ _ _ h => h) (Or.inl ⟨by rfl, ?_⟩) (by assumption) ?_
            rotate_left
            · intro wS hSw; (try dsimp only at hSw); go_simp <;> with_reducible rfl
            simp only [Act.put, List.setIfInBounds_toArray, List.set_cons_zero, List.set_cons_succ]
            refine wpAnyH_take (i := 18) (oi := (⟨some 30, _, _, _, _, _⟩ : Oper)) (v := ?_) rfl (by kernel_rfl) (by kernel_rfl) (by kernel_rfl) (fun _ _ _ h => h) (Or.inl ⟨by rfl, ?_⟩) (by assumption) ?_
            rotate_left
            · intro wS hSw; (try dsimp only at hSw); go_simp <;> with_reducible rfl
            simp only [Act.put, List.setIfInBounds_toArray, List.set_cons_zero, List.set_cons_succ]
            refine wpAnyH_take (i := 19) (oi := (⟨some 31, _, _, _, _, _⟩ : Oper)) (v := ?_) rfl (by kernel_rfl) (by kernel_rfl) (by kernel_rfl) (fun _ _ _ h => h) (Or.inl ⟨by rfl, ?_⟩) (by assumption) ?_
            rotate_left
            · intro wS hSw; (try dsimp only at hSw); go_simp <;> with_reducible rfl
            simp only [Act.put, List.setIfInBounds_toArray, List.set_cons_zero, List.set_cons_succ]
            refine wpAnyH_take (i := 20) (oi := (⟨some 32, _, _, _, _, _⟩ : Oper)) (v := ?_) rfl (by kernel_rfl) (by kernel_rfl) (by kernel_rfl) (fun _ _ _ h => h) (Or.inl ⟨by rfl, ?_⟩) (by assumption) ?_
            rotate_left
            · intro wS hSw; (try dsimp only at hSw); go_simp <;> with_reducible rfl
            simp only [Act.put, List.setIfInBounds_toArray, List.set_cons_zero, List.set_cons_succ]
            refine wpAnyH_take (i := 21) (oi := (⟨some 33, _, _, _, _, _⟩ : Oper)) (v := ?_) rfl (by kernel_rfl) (by kernel_rfl) (by kernel_rfl) (fun _ _ _ h => h) (Or.inl ⟨by rfl, ?_⟩) (by assumption) ?_
            rotate_left
            · intro wS hSw; (try dsimp only at hSw); go_simp <;> with_reducible rfl
            simp only [Act.put, List.setIfInBounds_toArray, List.set_cons_zero, List.set_cons_succ]
            refine wpAnyH_ready (rs := [22]) (by kernel_rfl) (by simp) ?_
            refine AllReadyH.cons (o := (⟨some 34, _, _, _, _, _⟩ : Oper)) rfl (fun K hK => ?_) ?_
            rotate_left
            · exact AllReadyH.nil
            go_simp
            (go_at_call 47; (with_reducible refine (HCM.out _ r1).mono ?_); rintro x w2 ⟨rfl, hb2⟩; have r2 := r1.trans (hb2.mono hz1); have hz2 : wr.heap.size ≤ w2.heap.size := r2.size; clear hb2)
            refine hK.out _ _ ?_ (fun hHeld => ?_)
            · (try dsimp only); exact KEEP.out _ r2
            clear hK K
            try simp only [Act.put, List.setIfInBounds_toArray, List.set_cons_zero, List.set_cons_succ]
            refine wpAnyH_take (i := 23) (oi := (⟨some 35, _, _, _, _, _⟩ : Oper)) (v := ?_) rfl (by kernel_rfl) (by kernel_rfl) (by kernel_rfl) (fun _ _ _ h => h) (Or.inl ⟨by rfl, ?_⟩) (by assumption) ?_
            rotate_left
            · intro wS hSw; (try dsimp only at hSw); go_simp <;> with_reducible rfl
            simp only [Act.put, List.setIfInBounds_toArray, List.set_cons_zero, List.set_cons_succ]
            refine wpAnyH_take (i := 24) (oi := (⟨some 36, _, _, _, _, _⟩ : Oper)) (v := ?_) rfl (by kernel_rfl) (by kernel_rfl) (by kernel_rfl) (fun _ _ _ h => h) (Or.inl ⟨by rfl, ?_⟩) (by assumption) ?_
            rotate_left
            · intro wS hSw; (try dsimp only at hSw); go_simp <;> with_reducible rfl
            simp only [Act.put, List.setIfInBounds_toArray, List.set_cons_zero, List.set_cons_succ]
            refine wpAnyH_take (i := 25) (oi := (⟨some 37, _, _, _, _, _⟩ : Oper)) (v := ?_) rfl (by kernel_rfl) (by kernel_rfl) (by kernel_rfl) (fun _ _ _ h => h) (Or.inl ⟨by rfl, ?_⟩) (by assumption) ?_
            rotate_left
            · intro wS hSw; (try dsimp only at hSw); go_simp <;> with_reducible rfl
            simp only [Act.put, List.setIfInBounds_toArray, List.set_cons_zero, List.set_cons_succ]
            refine wpAnyH_done (by kernel_rfl) ?_ _
            have HRB := Lib.hid r2
            clear r2
            go_wp2_with fail
            go_ret
            exact ⟨ret_int (by rw [HRR.out]; rfl), HB.out.trans (HRB.out.mono hsz)⟩
    · obtain rfl : i = l.length := by omega
      rw [ordG_end] at hres
      subst hres
      have hlt' : ¬ ((l.length : Int) < l.length) := by omega
      go_wp2_with fail
      go_ret
      exact ⟨rfl, HB.out⟩
end Go.Proofs.YtadkgjbidhfefaaDoor
set_option linter.unusedVariables false
namespace Go.Proofs.YtadkgjbidhfefaaDoor
open Go.RowKit

theorem h2a (W : World) (A B : Obj) (n : Nat) (hn : W.heap.size = n) : ((W.alloc A).alloc B).heap[n]? = some A := by
  subst hn; exact (Below.heap_alloc _ _ _ (by simp)).trans (heap_alloc_new W A)
theorem h2b (W : World) (A B : Obj) (n : Nat) (hn : W.heap.size + 1 = n) : ((W.alloc A).alloc B).heap[n]? = some B := by
  subst hn; have := heap_alloc_new (W.alloc A) B; simpa using this
theorem els_one13 {W : World} {b : Nat} {s0 : Bytes} (hb : W.heap[b]? = some (.cells #[.string (S s0)] 9)) : ElsP strE W (· < W.heap.size) (.slice (some ⟨b, 0, none⟩) 1 1) [s0] :=
  ⟨_, 1, rfl, Nat.le_refl _, .inr ⟨b, 0, rfl, heap_lt hb, fun i a hi => ⟨_, rfl, fun j v hj => by
    match j, hj with
    | 0, hj =>
      simp at hj; subst hj
      rw [Lib.cell_of_heap hb]
      match i, hi with
      | 0, hi => simp at hi; subst hi; rfl
      | i + 1, hi => simp at hi
    | j + 1, hj => simp at hj⟩⟩⟩
theorem els_two13 {W : World} {b : Nat} {s0 s1 : Bytes} (hb : W.heap[b]? = some (.cells #[.string (S s0), .string (S s1)] 9)) : ElsP strE W (· < W.heap.size) (.slice (some ⟨b, 0, none⟩) 2 2) [s0, s1] :=
  ⟨_, 2, rfl, Nat.le_refl _, .inr ⟨b, 0, rfl, heap_lt hb, fun i a hi => ⟨_, rfl, fun j v hj => by
    match j, hj with
    | 0, hj =>
      simp at hj; subst hj
      rw [Lib.cell_of_heap hb]
      match i, hi with
      | 0, hi => simp at hi; subst hi; rfl
      | 1, hi => simp at hi; subst hi; rfl
      | i + 2, hi => simp at hi
    | j + 1, hj => simp at hj⟩⟩⟩
def xE : En := ⟨[120], [], [], [], 7⟩
def aE : En := ⟨[97], [], [], [], 0⟩
def bE : En := ⟨[98], [], [], [], 0⟩
def zE : En := ⟨[], [], [], [], 0⟩
def fF : Fe := ⟨[], [102], [], [], 0, []⟩
theorem dec_one_dig (n : Nat) (h : n < 10) : Lib.itoa (n : Int) = [UInt8.ofNat (48 + n)] := by
  unfold Lib.itoa
  rw [if_neg (by omega)]
  exact Lib.decDigits_one h
theorem xE_key : keyOf (entVal xE) = [91, 34, 120, 34, 44, 34, 34, 44, 34, 34, 44, 34, 34, 44, 55, 93] := by
  rw [key_ent, show Lib.itoa xE.upd = [55] from dec_one_dig 7 (by decide)]
  decide +kernel
theorem later_ab : lat3 cmpK aE bE = bE := by
  have ha : kE aE = [91, 34, 97, 34, 44, 34, 34, 44, 34, 34, 44, 34, 34, 44, 48, 93] := by
    unfold kE
    rw [key_ent, show Lib.itoa aE.upd = [48] from dec_one_dig 0 (by decide)]
    decide +kernel
  have hb : kE bE = [91, 34, 98, 34, 44, 34, 34, 44, 34, 34, 44, 34, 34, 44, 48, 93] := by
    unfold kE
    rw [key_ent, show Lib.itoa bE.upd = [48] from dec_one_dig 0 (by decide)]
    decide +kernel
  unfold lat3 cmpK lex3
  simp only [ha, hb]
  rw [show cmpI aE.upd bE.upd = 0 from rfl]
  rfl
theorem fF_ok : ordFs [fF] = true := by decide +kernel
theorem zE_no : vldE zE = false := rfl

set_option maxHeartbeats 4000000 in
set_option maxRecDepth 100000 in
theorem alive13_any (w : World) (hT : TabJ w) : Calls Tryd.prog 27 #[] w fun e w' => e = .returned (.bool true) ∧ Below w.heap.size w w' := by
  have h1 : ∀ (W : World) (a b : Nat), W.heap[a]? = some (.cells #[.string ⟨#[97]⟩, .string ⟨#[98]⟩] 9) → W.heap[b]? = some (.cells #[.string ⟨#[97]⟩, .string ⟨#[98]⟩, .string ⟨#[99]⟩] 9) →
      Calls Tryd.prog 36 #[.slice (some ⟨a, 0, none⟩) 2 2, .slice (some ⟨b, 0, none⟩) 3 3] W fun e w' => e = .returned (.int .i64 (-1)) ∧ w' = W := fun W a b ha hb =>
    cmpPaths_any [[97], [98]] [[97], [98], [99]] _ _ W _ (els_two13 ha) (els_three hb) (by decide) (by decide)
  have h2 : ∀ (W : World) (a b : Nat), W.heap[a]? = some (.cells #[.string ⟨#[97]⟩, .string ⟨#[98]⟩, .string ⟨#[99]⟩] 9) → W.heap[b]? = some (.cells #[.string ⟨#[98]⟩] 9) →
      Calls Tryd.prog 36 #[.slice (some ⟨a, 0, none⟩) 3 3, .slice (some ⟨b, 0, none⟩) 1 1] W fun e w' => e = .returned (.int .i64 (-1)) ∧ w' = W := fun W a b ha hb =>
    cmpPaths_any [[97], [98], [99]] [[98]] _ _ W _ (els_three ha) (els_one13 hb) (by decide) (by decide)
  have h3 : ∀ W : World, Calls Tryd.prog 37 #[.agg #[.string ⟨#[]⟩, .string ⟨#[]⟩, .string ⟨#[]⟩, .string ⟨#[]⟩, .int .i64 5], .agg #[.string ⟨#[]⟩, .string ⟨#[]⟩, .string ⟨#[]⟩, .string ⟨#[]⟩, .int .i64 4]] W fun e w' => e = .returned (.int .i64 (-1)) ∧ Below W.heap.size W w' := fun W =>
    cmpEntries_any ⟨[], [], [], [], 5⟩ ⟨[], [], [], [], 4⟩ W
  have h4 : ∀ W : World, Below w.heap.size w W → Calls Tryd.prog 41 #[.agg #[.string ⟨#[120]⟩, .string ⟨#[]⟩, .string ⟨#[]⟩, .string ⟨#[]⟩, .int .i64 7]] W fun e w' => e = .returned (.string ⟨#[91, 34, 120, 34, 44, 34, 34, 44, 34, 34, 44, 34, 34, 44, 55, 93]⟩) ∧ Below W.heap.size W w' := fun W hW => by
    have := entryKey_any xE W (hT.next hW) (by constructor <;> decide) (by decide)
    rw [xE_key] at this
    exact this
  have h5 : ∀ (W : World) (b : Nat), Below w.heap.size w W → W.heap[b]? = some (.cells #[.slice none 0 0, .string ⟨#[102]⟩, .string ⟨#[]⟩, .string ⟨#[]⟩, .int .i64 0, .slice none 0 0] 55) →
      Calls Tryd.prog 32 #[.agg #[.slice (some ⟨b, 0, none⟩) 1 1]] W fun e w' => e = .returned (.int .i64 0) ∧ Below W.heap.size W w' := fun W b hW hb => by
    have := checkA_any [fF] (.slice (some ⟨b, 0, none⟩) 1 1) W (hT.next hW) ⟨_, 1, rfl, Nat.le_refl _, .inr ⟨b, 0, rfl, heap_lt hb, fun i a hi => by
      match i, hi with
      | 0, hi =>
        simp at hi; subst hi
        exact ⟨_, ⟨none, 0, none, 0, rfl, ElsP.nil _ _ _, ElsP.nil _ _ _, Nat.le_refl _, Nat.le_refl _⟩, (show W.rangeAt b (0 + 0 * 6) _ from range_of_heap hb)⟩
      | i + 1, hi => simp at hi⟩⟩ (by decide) (fun f hf => by
        rw [List.mem_singleton.1 hf]
        exact ⟨by decide, by decide, by decide, (fun e he => by cases he), by decide⟩)
    rw [fF_ok] at this
    exact this
  have h6 : ∀ W : World, Below w.heap.size w W → Calls Tryd.prog 30 #[.agg #[.string ⟨#[]⟩, .string ⟨#[]⟩, .string ⟨#[]⟩, .string ⟨#[]⟩, .int .i64 0]] W fun e w' => e = .returned (.int .i64 22) ∧ Below W.heap.size W w' := fun W hW =>
    checkEntry_any zE W (hT.next hW) (by decide)
  have h7 : ∀ W : World, Below w.heap.size w W → Calls Tryd.prog 38 #[.agg #[.string ⟨#[97]⟩, .string ⟨#[]⟩, .string ⟨#[]⟩, .string ⟨#[]⟩, .int .i64 0], .agg #[.string ⟨#[98]⟩, .string ⟨#[]⟩, .string ⟨#[]⟩, .string ⟨#[]⟩, .int .i64 0]] W fun e w' => e = .returned (.agg #[.string ⟨#[98]⟩, .string ⟨#[]⟩, .string ⟨#[]⟩, .string ⟨#[]⟩, .int .i64 0]) ∧ Below W.heap.size W w' := fun W hW => by
    have := laterEntry_any aE bE W (hT.next hW) (by constructor <;> decide) (by constructor <;> decide) (by decide) (by decide)
    rw [later_ab] at this
    exact this
  have hfld : ∀ W : World, (Instr.field 59 (.agg #[.string ⟨#[98]⟩, .string ⟨#[]⟩, .string ⟨#[]⟩, .string ⟨#[]⟩, .int .i64 0]) 0).run Tryd.prog W = .ok (.string ⟨#[98]⟩) W := fun W => by kernel_rfl
  have H1 := Lib.hid h1
  have H2 := Lib.hid h2
  have H3 := Lib.hid h3
  have H4 := Lib.hid h4
  have H5 := Lib.hid h5
  have H6 := Lib.hid h6
  have H7 := Lib.hid h7
  clear h1 h2 h3 h4 h5 h6 h7 hT
  go_enter Tryd.func27, Tryd.ntmps27
  go_wp2_with fail
  refine (H1.out _ _ _ ?_ ?_).mono ?_
  · exact h2a _ _ _ _ (by simp)
  · exact h2b _ _ _ _ (by simp)
  rintro e w1 ⟨rfl, rfl⟩
  go_wp2_with fail
  refine (H2.out _ _ _ ?_ ?_).mono ?_
  · exact h2a _ _ _ _ (by simp)
  · exact h2b _ _ _ _ (by simp)
  rintro e w2 ⟨rfl, rfl⟩
  have B2 : ∀ A B C D : Obj, Below w.heap.size w ((((w.alloc A).alloc B).alloc C).alloc D) := fun A B C D => ((((Below.refl _ _).alloc (Nat.le_refl _) A).alloc (by simp) B).alloc (by simp; omega) C).alloc (by simp; omega) D
  have HB2 := Lib.hid B2
  clear B2
  go_wp2_with fail
  refine (H3.out _).mono ?_
  rintro e w3 ⟨rfl, hb3⟩
  have B3 := Lib.hid ((HB2.out _ _ _ _).trans (hb3.mono (by simp; omega)))
  clear hb3
  go_wp2_with fail
  refine (H4.out _ B3.out).mono ?_
  rintro e w4 ⟨rfl, hb4⟩
  have B4 := Lib.hid (B3.out.trans (hb4.mono B3.out.size))
  clear hb4
  go_wp2_with fail
  refine (H5.out _ _ (B4.out.alloc B4.out.size _) (heap_alloc_new w4 _)).mono ?_
  rintro e w5 ⟨rfl, hb5⟩
  have B5 := Lib.hid ((B4.out.alloc B4.out.size _).trans (hb5.mono (by have := B4.out.size; simp; omega)))
  clear hb5
  go_wp2_with fail
  refine (H6.out _ B5.out).mono ?_
  rintro e w6 ⟨rfl, hb6⟩
  have B6 := Lib.hid (B5.out.trans (hb6.mono B5.out.size))
  clear hb6
  go_wp2_with fail
  refine (H7.out _ B6.out).mono ?_
  rintro e w7 ⟨rfl, hb7⟩
  go_wp2_with fail
  go_ret
  exact ⟨rfl, B6.out.trans (hb7.mono B6.out.size)⟩
end Go.Proofs.YtadkgjbidhfefaaDoor
set_option linter.unusedVariables false
namespace Go.Proofs.YtadkgjbidhfefaaDoor
open Go.RowKit

def enEq (a b : En) : Bool := (a.id == b.id) && ((a.title == b.title) && ((a.link == b.link) && ((a.content == b.content) && (a.upd == b.upd))))
theorem enEq_iff {a b : En} : enEq a b = true ↔ a = b := by
  cases a; cases b
  simp [enEq]
theorem enEq_same (a : En) : enEq a a = true := enEq_iff.2 rfl
theorem enEq_no {a b : En} (h : a ≠ b) : enEq a b = false := by
  cases hq : enEq a b with
  | false => rfl
  | true => exact absurd (enEq_iff.1 hq) h
theorem eqIn_ent (a b : En) (w : World) : (Op.equalIn 10000 59 (entV a) (entV b)).run Tryd.prog w = .ok (enEq a b) w := by
  have hS : Tryd.prog.underlying 59 = some (.struct (Tryd.prog.fieldsOf 59)) := by kernel_rfl
  have hp : Tryd.prog.stoodInHeld 59 = false := by kernel_rfl
  have u9 := Tryd.underlying9
  have u2 := Tryd.underlying2
  have a9 := Tryd.isAgg9
  have z9 := Tryd.sizeOf9
  have a2 := Tryd.isAgg2
  have z2 := Tryd.sizeOf2
  rw [show (10000 : Nat) = 9999 + 1 from rfl, run_equalIn_agg w 9999 59 _ _ hS hp]
  simp only [Program.fieldsOf, Tryd.underlying59]
  go_simp
  unfold enEq
  cases h1 : (a.id == b.id) <;> cases h2 : (a.title == b.title) <;> cases h3 : (a.link == b.link) <;> cases h4 : (a.content == b.content) <;> cases h5 : (a.upd == b.upd) <;> simp_all
theorem run_eq_ent (a b : En) (w : World) : (binOp .eql 59 (entV a) (entV b)).run Tryd.prog w = .ok (.bool (enEq a b)) w := by
  rw [run_eql_struct, eqIn_ent]; rfl
theorem run_ne_ent (a b : En) (w : World) : (binOp .neq 59 (entV a) (entV b)).run Tryd.prog w = .ok (.bool (!(enEq a b))) w := by
  rw [run_neq_struct, eqIn_ent]; rfl
end Go.Proofs.YtadkgjbidhfefaaDoor
set_option linter.unusedVariables false
set_option linter.unusedSimpArgs false
namespace Go.Proofs.YtadkgjbidhfefaaDoor
open Go.RowKit

set_option maxHeartbeats 4000000 in
set_option maxRecDepth 100000 in
theorem validE_any (e : En) (w : World) (hs : esz e ≤ 100000) :
    Calls Tryd.prog 40 #[entV e] w fun x w' => x = .returned (.bool ((strsE e).all utf8J)) ∧ Below w.heap.size w w' := by
  have hA0 : Below w.heap.size w (w.alloc (entBox e)) := (Below.refl _ _).alloc (Nat.le_refl _) _
  unfold esz at hs
  have h0 := fun W => refValid10_any e.id W (by omega)
  have h1 := fun W => refValid10_any e.title W (by omega)
  have h2 := fun W => refValid10_any e.link W (by omega)
  have h3 := fun W => refValid10_any e.content W (by omega)
  have HA0 := Lib.hid hA0
  have hx : ∀ W, Below (w.heap.size + 1) (w.alloc (entBox e)) W → W.cell? ⟨w.heap.size, 0, none⟩ = some (.string (S e.id)) ∧ W.cell? ⟨w.heap.size, 1, none⟩ = some (.string (S e.title)) ∧ W.cell? ⟨w.heap.size, 2, none⟩ = some (.string (S e.link)) ∧ W.cell? ⟨w.heap.size, 3, none⟩ = some (.string (S e.content)) ∧ W.cell? ⟨w.heap.size, 4, none⟩ = some (.int .i64 e.upd) := fun W hW =>
    cells5 ((hW.block w.heap.size (by omega)).trans (heap_alloc_new w (entBox e)))
  have KEEP := Lib.hid hx
  have hv : (strsE e).all utf8J = (utf8J e.id && (utf8J e.title && (utf8J e.link && utf8J e.content))) := by simp [strsE]
  rw [hv]
  have R0 := Lib.hid (show Below (w.heap.size + 1) (w.alloc (entBox e)) (w.alloc (entBox e)) from Below.refl _ _)
  clear hx hv hA0 hs
  generalize utf8J e.id = v0 at *
  generalize utf8J e.title = v1 at *
  generalize utf8J e.link = v2 at *
  generalize utf8J e.content = v3 at *
  have H0 := Lib.hid h0
  have H1 := Lib.hid h1
  have H2 := Lib.hid h2
  have H3 := Lib.hid h3
  clear h0 h1 h2 h3
  cases v0 with
  | false =>
    rw [Bool.false_and]
    go_enter Tryd.func40, Tryd.ntmps40
    go_wp2_with (first
      | (go_at_call 75; (with_reducible refine (H0.out _).mono ?_); rintro x w1 ⟨rfl, hb1⟩; have r1 := R0.out.trans (hb1.mono (by simp)); have hz1 : w.heap.size + 1 ≤ w1.heap.size := (by have := r1.size; simpa using this); obtain ⟨k0, k1, k2, k3, k4⟩ := KEEP.out _ r1; clear hb1)
      | (go_at_call 75; (with_reducible refine (H1.out _).mono ?_); rintro x w2 ⟨rfl, hb2⟩; have r2 := r1.trans (hb2.mono hz1); have hz2 : w.heap.size + 1 ≤ w2.heap.size := (by have := r2.size; simpa using this); clear k0 k1 k2 k3 k4; obtain ⟨k0, k1, k2, k3, k4⟩ := KEEP.out _ r2; clear hb2)
      | (go_at_call 75; (with_reducible refine (H2.out _).mono ?_); rintro x w3 ⟨rfl, hb3⟩; have r3 := r2.trans (hb3.mono hz2); have hz3 : w.heap.size + 1 ≤ w3.heap.size := (by have := r3.size; simpa using this); clear k0 k1 k2 k3 k4; obtain ⟨k0, k1, k2, k3, k4⟩ := KEEP.out _ r3; clear hb3)
      | (go_at_call 75; (with_reducible refine (H3.out _).mono ?_); rintro x w4 ⟨rfl, hb4⟩; have r4 := r3.trans (hb4.mono hz3); clear hb4))
    go_ret
    exact ⟨rfl, HA0.out.trans (r1.mono (Nat.le_succ _))⟩
  | true =>
    rw [Bool.true_and]
    cases v1 with
    | false =>
      rw [Bool.false_and]
      go_enter Tryd.func40, Tryd.ntmps40
      go_wp2_with (first
        | (go_at_call 75; (with_reducible refine (H0.out _).mono ?_); rintro x w1 ⟨rfl, hb1⟩; have r1 := R0.out.trans (hb1.mono (by simp)); have hz1 : w.heap.size + 1 ≤ w1.heap.size := (by have := r1.size; simpa using this); obtain ⟨k0, k1, k2, k3, k4⟩ := KEEP.out _ r1; clear hb1)
        | (go_at_call 75; (with_reducible refine (H1.out _).mono ?_); rintro x w2 ⟨rfl, hb2⟩; have r2 := r1.trans (hb2.mono hz1); have hz2 : w.heap.size + 1 ≤ w2.heap.size := (by have := r2.size; simpa using this); clear k0 k1 k2 k3 k4; obtain ⟨k0, k1, k2, k3, k4⟩ := KEEP.out _ r2; clear hb2)
        | (go_at_call 75; (with_reducible refine (H2.out _).mono ?_); rintro x w3 ⟨rfl, hb3⟩; have r3 := r2.trans (hb3.mono hz2); have hz3 : w.heap.size + 1 ≤ w3.heap.size := (by have := r3.size; simpa using this); clear k0 k1 k2 k3 k4; obtain ⟨k0, k1, k2, k3, k4⟩ := KEEP.out _ r3; clear hb3)
        | (go_at_call 75; (with_reducible refine (H3.out _).mono ?_); rintro x w4 ⟨rfl, hb4⟩; have r4 := r3.trans (hb4.mono hz3); clear hb4))
      go_ret
      exact ⟨rfl, HA0.out.trans (r2.mono (Nat.le_succ _))⟩
    | true =>
      rw [Bool.true_and]
      cases v2 with
      | false =>
        rw [Bool.false_and]
        go_enter Tryd.func40, Tryd.ntmps40
        go_wp2_with (first
          | (go_at_call 75; (with_reducible refine (H0.out _).mono ?_); rintro x w1 ⟨rfl, hb1⟩; have r1 := R0.out.trans (hb1.mono (by simp)); have hz1 : w.heap.size + 1 ≤ w1.heap.size := (by have := r1.size; simpa using this); obtain ⟨k0, k1, k2, k3, k4⟩ := KEEP.out _ r1; clear hb1)
          | (go_at_call 75; (with_reducible refine (H1.out _).mono ?_); rintro x w2 ⟨rfl, hb2⟩; have r2 := r1.trans (hb2.mono hz1); have hz2 : w.heap.size + 1 ≤ w2.heap.size := (by have := r2.size; simpa using this); clear k0 k1 k2 k3 k4; obtain ⟨k0, k1, k2, k3, k4⟩ := KEEP.out _ r2; clear hb2)
          | (go_at_call 75; (with_reducible refine (H2.out _).mono ?_); rintro x w3 ⟨rfl, hb3⟩; have r3 := r2.trans (hb3.mono hz2); have hz3 : w.heap.size + 1 ≤ w3.heap.size := (by have := r3.size; simpa using this); clear k0 k1 k2 k3 k4; obtain ⟨k0, k1, k2, k3, k4⟩ := KEEP.out _ r3; clear hb3)
          | (go_at_call 75; (with_reducible refine (H3.out _).mono ?_); rintro x w4 ⟨rfl, hb4⟩; have r4 := r3.trans (hb4.mono hz3); clear hb4))
        go_ret
        exact ⟨rfl, HA0.out.trans (r3.mono (Nat.le_succ _))⟩
      | true =>
        rw [Bool.true_and]
        go_enter Tryd.func40, Tryd.ntmps40
        go_wp2_with (first
          | (go_at_call 75; (with_reducible refine (H0.out _).mono ?_); rintro x w1 ⟨rfl, hb1⟩; have r1 := R0.out.trans (hb1.mono (by simp)); have hz1 : w.heap.size + 1 ≤ w1.heap.size := (by have := r1.size; simpa using this); obtain ⟨k0, k1, k2, k3, k4⟩ := KEEP.out _ r1; clear hb1)
          | (go_at_call 75; (with_reducible refine (H1.out _).mono ?_); rintro x w2 ⟨rfl, hb2⟩; have r2 := r1.trans (hb2.mono hz1); have hz2 : w.heap.size + 1 ≤ w2.heap.size := (by have := r2.size; simpa using this); clear k0 k1 k2 k3 k4; obtain ⟨k0, k1, k2, k3, k4⟩ := KEEP.out _ r2; clear hb2)
          | (go_at_call 75; (with_reducible refine (H2.out _).mono ?_); rintro x w3 ⟨rfl, hb3⟩; have r3 := r2.trans (hb3.mono hz2); have hz3 : w.heap.size + 1 ≤ w3.heap.size := (by have := r3.size; simpa using this); clear k0 k1 k2 k3 k4; obtain ⟨k0, k1, k2, k3, k4⟩ := KEEP.out _ r3; clear hb3)
          | (go_at_call 75; (with_reducible refine (H3.out _).mono ?_); rintro x w4 ⟨rfl, hb4⟩; have r4 := r3.trans (hb4.mono hz3); clear hb4))
        go_ret
        exact ⟨rfl, HA0.out.trans (r4.mono (Nat.le_succ _))⟩

/-- The three parameters' boxes, and the slice of the three. -/
structure Box3E (w : World) (B : Nat) (a b c : En) : Prop where
  one : w.heap[B]? = some (entBox a)
  two : w.heap[B + 1]? = some (entBox b)
  thr : w.heap[B + 1 + 1]? = some (entBox c)
theorem Box3E.new (w : World) (a b c : En) : Box3E (((w.alloc (entBox a)).alloc (entBox b)).alloc (entBox c)) w.heap.size a b c := by
  refine ⟨?_, ?_, ?_⟩
  · exact (Below.heap_alloc _ _ _ (by simp; omega)).trans ((Below.heap_alloc _ _ _ (by simp)).trans (heap_alloc_new w _))
  · refine (Below.heap_alloc _ _ _ (by simp)).trans ?_
    have := heap_alloc_new (w.alloc (entBox a)) (entBox b)
    simpa using this
  · have := heap_alloc_new ((w.alloc (entBox a)).alloc (entBox b)) (entBox c)
    simpa using this
theorem Box3E.next {w w' : World} {B : Nat} {a b c : En} (h : Box3E w B a b c) (hb : Below w.heap.size w w') : Box3E w' B a b c :=
  ⟨(hb.block _ (heap_lt h.one)).trans h.one, (hb.block _ (heap_lt h.two)).trans h.two, (hb.block _ (heap_lt h.thr)).trans h.thr⟩
abbrev rowO (a b c : En) : Obj := .cells #[.string (S a.id), .string (S a.title), .string (S a.link), .string (S a.content), .int .i64 a.upd, .string (S b.id), .string (S b.title), .string (S b.link), .string (S b.content), .int .i64 b.upd, .string (S c.id), .string (S c.title), .string (S c.link), .string (S c.content), .int .i64 c.upd] 59
theorem row_at {w : World} {g : Nat} {a b c : En} (h : w.heap[g]? = some (rowO a b c)) (i : Nat) (hi : i < 3) : w.rangeAt g (i * 5) (entCells ([a, b, c][i]'(by simpa using hi))) := by
  intro j v hj
  have hj5 : j < 5 := (List.getElem?_eq_some_iff.1 hj).1
  rw [Lib.cell_of_heap h]
  match i, hi with
  | 0, _ =>
    match j, hj5 with
    | 0, _ => exact hj
    | 1, _ => exact hj
    | 2, _ => exact hj
    | 3, _ => exact hj
    | 4, _ => exact hj
  | 1, _ =>
    match j, hj5 with
    | 0, _ => exact hj
    | 1, _ => exact hj
    | 2, _ => exact hj
    | 3, _ => exact hj
    | 4, _ => exact hj
  | 2, _ =>
    match j, hj5 with
    | 0, _ => exact hj
    | 1, _ => exact hj
    | 2, _ => exact hj
    | 3, _ => exact hj
    | 4, _ => exact hj

set_option maxHeartbeats 16000000 in
set_option maxRecDepth 100000 in
theorem law13later_any (a b c : En) (w : World) (hT : TabJ w) (hf : EFit a) (hg : EFit b) (hh : EFit c) (ha : ELen a) (hb : ELen b) (hc : ELen c) :
    Calls Tryd.prog 9 #[entV a, entV b, entV c] w fun e w' => e = .returned (.bool true) ∧ Below w.heap.size w w' := by
  have hal := fun W => fun (hW : Below w.heap.size w W) => alive13_any W (hT.next hW)
  have HAL := Lib.hid hal
  have hlen : ∀ e ∈ [a, b, c], ELen e := fun e he => by simp at he; rcases he with rfl | rfl | rfl <;> assumption
  have HLEN := Lib.hid hlen
  obtain ⟨l, hl⟩ : ∃ l, l = [a, b, c] := ⟨_, rfl⟩
  have E0 := Lib.hid (Box3E.new w a b c)
  have W0 : Hid (Below w.heap.size w ((((w.alloc (entBox a)).alloc (entBox b)).alloc (entBox c)).alloc (rowO a b c))) := ((((Below.refl _ _).alloc (Nat.le_refl _) _).alloc (by simp) _).alloc (by simp; omega) _).alloc (by simp; omega) _
  have hrow : ((((w.alloc (entBox a)).alloc (entBox b)).alloc (entBox c)).alloc (rowO a b c)).heap[w.heap.size + 1 + 1 + 1]? = some (rowO a b c) := by
    have := heap_alloc_new (((w.alloc (entBox a)).alloc (entBox b)).alloc (entBox c)) (rowO a b c)
    simpa using this
  have HROW := Lib.hid hrow
  obtain ⟨⟨a0, a1, a2, a3, a4⟩, ⟨b0, b1, b2, b3, b4⟩, c0, c1, c2, c3, c4⟩ := (show _ ∧ _ ∧ _ from ⟨cells5 E0.out.one, cells5 E0.out.two, cells5 E0.out.thr⟩)
  clear hal hlen hrow
  go_enter Tryd.func9, Tryd.ntmps9
  go_wp2_with fail
  clear a0 a1 a2 a3 a4 b0 b1 b2 b3 b4 c0 c1 c2 c3 c4
  go_loopw [15] (fun i15 wr => ∃ i : Nat, i ≤ 3 ∧ i15 = .int .i64 i ∧ (∀ j, (h : j < 3) → j < i → esz ([a, b, c][j]'(by simpa using h)) ≤ 3000) ∧ Below w.heap.size w wr ∧ Box3E wr w.heap.size a b c ∧ wr.heap[w.heap.size + 1 + 1 + 1]? = some (rowO a b c)) (fun i15 _ => 3 - (intOf i15).toNat)
  case atStart => exact ⟨0, by omega, rfl, fun j _ h => absurd h (Nat.not_lt_zero _), W0.out, E0.out.next ((Below.refl _ _).alloc (Nat.le_refl _) _), HROW.out⟩
  case round =>
    obtain ⟨i, hi, rfl, hsz0, hb0, hbx, hrw⟩ := hrel
    have HB := Lib.hid hb0
    have HBX := Lib.hid hbx
    have HRW := Lib.hid hrw
    have HSZ := Lib.hid hsz0
    have hsz := hb0.size
    have hgl := heap_lt hrw
    clear hb0 hbx hrw hsz0 W0 E0 HROW
    by_cases hlt : i < 3
    · have hlt' : (i : Int) < 3 := by omega
      have hr := row_at HRW.out i hlt
      have hxl := HLEN.out _ (List.getElem_mem (show i < [a, b, c].length by simpa using hlt))
      have hnx : esz ([a, b, c][i]'(by simpa using hlt)) ≤ 3000 → ∀ j, (h : j < 3) → j < i + 1 → esz ([a, b, c][j]'(by simpa using h)) ≤ 3000 := fun he j h hj => by
        by_cases h2 : j < i
        · exact HSZ.out j h h2
        · obtain rfl : j = i := by omega
          exact he
      generalize ([a, b, c][i]'(by simpa using hlt)) = X at *
      have HR1 := Lib.hid hr
      have HNX := Lib.hid hnx
      obtain ⟨l0, l1, l2, l3⟩ := hxl
      unfold esz at hnx
      clear hr hnx
      by_cases hbig : 3000 < X.id.length + X.title.length + X.link.length + X.content.length
      · have q : (3000 : Int) < (X.id.length : Int) + X.title.length + X.link.length + X.content.length := by omega
        go_wp2_with (first
          | (with_reducible refine gate ?_; refine wp_load_ent rfl _ rfl (w.heap.size + 1 + 1 + 1) (i * 5) rfl _ rfl HR1.out ?_)
          | (go_at_call 27; refine (HAL.out _ (HB.out.alloc hsz _)).mono ?_; rintro e w2 ⟨rfl, hb2⟩))
        go_ret
        exact ⟨rfl, (HB.out.alloc hsz _).trans (hb2.mono (by simp; omega))⟩
      · have q : ¬ ((3000 : Int) < (X.id.length : Int) + X.title.length + X.link.length + X.content.length) := by omega
        go_wp2_with (with_reducible refine gate ?_; refine wp_load_ent rfl _ rfl (w.heap.size + 1 + 1 + 1) (i * 5) rfl _ rfl HR1.out ?_)
        go_roundw
        case rel => exact ⟨i + 1, by omega, by go_num, HNX.out (by unfold esz; omega), HB.out.alloc hsz _, HBX.out.next ((Below.refl _ _).alloc (Nat.le_refl _) _), (Below.heap_alloc _ _ _ hgl).trans HRW.out⟩
        case measure => simp [intOf]; omega
    · obtain rfl : i = 3 := by omega
      have s0 : esz a ≤ 3000 := HSZ.out 0 (by omega) (by omega)
      have s1 : esz b ≤ 3000 := HSZ.out 1 (by omega) (by omega)
      have s2 : esz c ≤ 3000 := HSZ.out 2 (by omega) (by omega)
      have hla := fun W => fun (hW : Below w.heap.size w W) => laterEntry_any a b W (hT.next hW) hf hg (by unfold esz at s0; omega) (by unfold esz at s1; omega)
      have hrl := fun W => refLaterEntry_any a b W hf hg (by unfold esz at s0; omega) (by unfold esz at s1; omega)
      have haa := fun W => fun (hW : Below w.heap.size w W) => laterEntry_any a a W (hT.next hW) hf hf (by unfold esz at s0; omega) (by unfold esz at s0; omega)
      rw [lat3_same] at haa
      have hbc := fun W => fun (hW : Below w.heap.size w W) => laterEntry_any b c W (hT.next hW) hg hh (by unfold esz at s1; omega) (by unfold esz at s2; omega)
      have hxf : EFit (lat3 cmpK a b) ∧ esz (lat3 cmpK a b) ≤ 3000 := by unfold lat3; split <;> exact ⟨by assumption, by assumption⟩
      have hnf : EFit (lat3 cmpK b c) ∧ esz (lat3 cmpK b c) ≤ 3000 := by unfold lat3; split <;> exact ⟨by assumption, by assumption⟩
      have hxc := fun W => fun (hW : Below w.heap.size w W) => laterEntry_any (lat3 cmpK a b) c W (hT.next hW) hxf.1 hh (by have := hxf.2; unfold esz at this; omega) (by unfold esz at s2; omega)
      have han := fun W => fun (hW : Below w.heap.size w W) => laterEntry_any a (lat3 cmpK b c) W (hT.next hW) hf hnf.1 (by unfold esz at s0; omega) (by have := hnf.2; unfold esz at this; omega)
      rw [lat3_assoc ordK a b c] at hxc
      have hba := fun W => fun (hW : Below w.heap.size w W) => laterEntry_any b a W (hT.next hW) hg hf (by unfold esz at s1; omega) (by unfold esz at s0; omega)
      have hcm : (strsE a).all utf8J = true → (strsE b).all utf8J = true → lat3 cmpK b a = lat3 cmpK a b := fun h1 h2 => lat3_comm ordK a b fun h => by
        unfold cmpK lex3 at h
        split at h
        · exact key_inj h1 h2 (cmpB_eq h)
        · rename_i hn; exact absurd h hn
      have hva := fun W => validE_any a W (by omega)
      have hvb := fun W => validE_any b W (by omega)
      generalize (strsE a).all utf8J = va at *
      generalize (strsE b).all utf8J = vb at *
      generalize lat3 cmpK b a = K at *
      generalize lat3 cmpK a (lat3 cmpK b c) = M at *
      generalize lat3 cmpK b c = N at *
      generalize lat3 cmpK a b = L at *
      have HLA := Lib.hid hla
      have HRL := Lib.hid hrl
      have HAA := Lib.hid haa
      have HBC := Lib.hid hbc
      have HXC := Lib.hid hxc
      have HAN := Lib.hid han
      have HBA := Lib.hid hba
      have HCM := Lib.hid hcm
      have HVA := Lib.hid hva
      have HVB := Lib.hid hvb
      clear hla hrl haa hbc hxc han hba hcm hva hvb hxf hnf s0 s1 s2 hT HSZ HLEN hf hg hh ha hb hc hl HRW
      obtain ⟨⟨a0, a1, a2, a3, a4⟩, ⟨b0, b1, b2, b3, b4⟩, c0, c1, c2, c3, c4⟩ := (show _ ∧ _ ∧ _ from ⟨cells5 HBX.out.one, cells5 HBX.out.two, cells5 HBX.out.thr⟩)
      have hlt' : ¬ ((3 : Int) < 3) := by omega
      go_wp2_with fail
      refine (HLA.out _ HB.out).mono ?_
      rintro x w2 ⟨rfl, hb2⟩
      have HB2 := Lib.hid (HB.out.trans (hb2.mono hsz))
      have HX2 := Lib.hid (HBX.out.next hb2)
      have hz2w : w.heap.size ≤ w2.heap.size + 1 := by have := HB2.out.size; omega
      clear hb2 a0 a1 a2 a3 a4 b0 b1 b2 b3 b4 c0 c1 c2 c3 c4
      have HW3 := Lib.hid (show Below w.heap.size w (w2.alloc (entBox L)) from HB2.out.alloc HB2.out.size _)
      have HK3 := Lib.hid (HX2.out.next (w' := w2.alloc (entBox L)) ((Below.refl _ _).alloc (Nat.le_refl _) _))
      have KEEP : Hid (∀ W, Below (w2.heap.size + 1) (w2.alloc (entBox L)) W → (W.cell? ⟨w.heap.size, 0, none⟩ = some (.string (S a.id)) ∧ W.cell? ⟨w.heap.size, 1, none⟩ = some (.string (S a.title)) ∧ W.cell? ⟨w.heap.size, 2, none⟩ = some (.string (S a.link)) ∧ W.cell? ⟨w.heap.size, 3, none⟩ = some (.string (S a.content)) ∧ W.cell? ⟨w.heap.size, 4, none⟩ = some (.int .i64 a.upd)) ∧ (W.cell? ⟨w.heap.size + 1, 0, none⟩ = some (.string (S b.id)) ∧ W.cell? ⟨w.heap.size + 1, 1, none⟩ = some (.string (S b.title)) ∧ W.cell? ⟨w.heap.size + 1, 2, none⟩ = some (.string (S b.link)) ∧ W.cell? ⟨w.heap.size + 1, 3, none⟩ = some (.string (S b.content)) ∧ W.cell? ⟨w.heap.size + 1, 4, none⟩ = some (.int .i64 b.upd)) ∧ (W.cell? ⟨w.heap.size + 1 + 1, 0, none⟩ = some (.string (S c.id)) ∧ W.cell? ⟨w.heap.size + 1 + 1, 1, none⟩ = some (.string (S c.title)) ∧ W.cell? ⟨w.heap.size + 1 + 1, 2, none⟩ = some (.string (S c.link)) ∧ W.cell? ⟨w.heap.size + 1 + 1, 3, none⟩ = some (.string (S c.content)) ∧ W.cell? ⟨w.heap.size + 1 + 1, 4, none⟩ = some (.int .i64 c.upd)) ∧ (W.cell? ⟨w2.heap.size, 0, none⟩ = some (.string (S L.id)) ∧ W.cell? ⟨w2.heap.size, 1, none⟩ = some (.string (S L.title)) ∧ W.cell? ⟨w2.heap.size, 2, none⟩ = some (.string (S L.link)) ∧ W.cell? ⟨w2.heap.size, 3, none⟩ = some (.string (S L.content)) ∧ W.cell? ⟨w2.heap.size, 4, none⟩ = some (.int .i64 L.upd))) := fun W hW => by
        have h1 := HK3.out.next (w' := W) (by simpa using hW)
        exact ⟨cells5 h1.one, cells5 h1.two, cells5 h1.thr, cells5 ((hW.block w2.heap.size (by omega)).trans (heap_alloc_new w2 (entBox L)))⟩
      have n1 : ∀ W, (binOp .neq 59 (entV L) (entV L)).run Tryd.prog W = .ok (.bool false) W := fun W => by rw [run_ne_ent, enEq_same]; rfl
      have n2 : ∀ W, (binOp .neq 59 (entV a) (entV a)).run Tryd.prog W = .ok (.bool false) W := fun W => by rw [run_ne_ent, enEq_same]; rfl
      have n3 : ∀ W, (binOp .neq 59 (entV M) (entV M)).run Tryd.prog W = .ok (.bool false) W := fun W => by rw [run_ne_ent, enEq_same]; rfl
      have m1 : ∀ W, (Op.equalIn 10000 59 (entV L) (entV L)).run Tryd.prog W = .ok true W := fun W => by rw [eqIn_ent, enEq_same]
      have m2 : ∀ W, (Op.equalIn 10000 59 (entV a) (entV a)).run Tryd.prog W = .ok true W := fun W => by rw [eqIn_ent, enEq_same]
      have m3 : ∀ W, (Op.equalIn 10000 59 (entV M) (entV M)).run Tryd.prog W = .ok true W := fun W => by rw [eqIn_ent, enEq_same]
      have s4 := KEEP.out _ (Below.refl _ _)
      go_wp2_with fail
      clear s4
      go_region_held3 (fun x => (x.cell? ⟨w.heap.size, 0, none⟩ = some (.string (S a.id)) ∧ x.cell? ⟨w.heap.size, 1, none⟩ = some (.string (S a.title)) ∧ x.cell? ⟨w.heap.size, 2, none⟩ = some (.string (S a.link)) ∧ x.cell? ⟨w.heap.size, 3, none⟩ = some (.string (S a.content)) ∧ x.cell? ⟨w.heap.size, 4, none⟩ = some (.int .i64 a.upd)) ∧ (x.cell? ⟨w.heap.size + 1, 0, none⟩ = some (.string (S b.id)) ∧ x.cell? ⟨w.heap.size + 1, 1, none⟩ = some (.string (S b.title)) ∧ x.cell? ⟨w.heap.size + 1, 2, none⟩ = some (.string (S b.link)) ∧ x.cell? ⟨w.heap.size + 1, 3, none⟩ = some (.string (S b.content)) ∧ x.cell? ⟨w.heap.size + 1, 4, none⟩ = some (.int .i64 b.upd)) ∧ (x.cell? ⟨w.heap.size + 1 + 1, 0, none⟩ = some (.string (S c.id)) ∧ x.cell? ⟨w.heap.size + 1 + 1, 1, none⟩ = some (.string (S c.title)) ∧ x.cell? ⟨w.heap.size + 1 + 1, 2, none⟩ = some (.string (S c.link)) ∧ x.cell? ⟨w.heap.size + 1 + 1, 3, none⟩ = some (.string (S c.content)) ∧ x.cell? ⟨w.heap.size + 1 + 1, 4, none⟩ = some (.int .i64 c.upd)) ∧ (x.cell? ⟨w2.heap.size, 0, none⟩ = some (.string (S L.id)) ∧ x.cell? ⟨w2.heap.size, 1, none⟩ = some (.string (S L.title)) ∧ x.cell? ⟨w2.heap.size, 2, none⟩ = some (.string (S L.link)) ∧ x.cell? ⟨w2.heap.size, 3, none⟩ = some (.string (S L.content)) ∧ x.cell? ⟨w2.heap.size, 4, none⟩ = some (.int .i64 L.upd)))
        (first | exact KEEP.out _ r7 | exact KEEP.out _ r6 | exact KEEP.out _ r5 | exact KEEP.out _ r4 | exact KEEP.out _ r3 | exact KEEP.out _ (Below.refl _ _).drew)
        (first
            | ((go_at_call 39; (with_reducible refine (HRL.out _).mono ?_); rintro x w3 ⟨rfl, hb⟩; have r3 := (Below.refl (w2.heap.size + 1) (w2.alloc (entBox L))).drew.trans (hb.mono (by simp)); have hz3 : w2.heap.size + 1 ≤ w3.heap.size := (by have := r3.size; simpa using this); clear hb))
            | ((go_at_call 38; (with_reducible refine (HAA.out _ (HW3.out.trans (r3.mono hz2w))).mono ?_); rintro x w4 ⟨rfl, hb⟩; have r4 := r3.trans (hb.mono hz3); have hz4 : w2.heap.size + 1 ≤ w4.heap.size := (by have := r4.size; simpa using this); clear hb))
            | ((go_at_call 38; (with_reducible refine (HXC.out _ (HW3.out.trans (r6.mono hz2w))).mono ?_); rintro x w7 ⟨rfl, hb⟩; have r7 := r6.trans (hb.mono hz6); have hz7 : w2.heap.size + 1 ≤ w7.heap.size := (by have := r7.size; simpa using this); clear hb))
            | ((go_at_call 38; (with_reducible refine (HXC.out _ (HW3.out.trans (r5.mono hz2w))).mono ?_); rintro x w6 ⟨rfl, hb⟩; have r6 := r5.trans (hb.mono hz5); have hz6 : w2.heap.size + 1 ≤ w6.heap.size := (by have := r6.size; simpa using this); clear hb))
            | ((go_at_call 38; (with_reducible refine (HXC.out _ (HW3.out.trans (r4.mono hz2w))).mono ?_); rintro x w5 ⟨rfl, hb⟩; have r5 := r4.trans (hb.mono hz4); have hz5 : w2.heap.size + 1 ≤ w5.heap.size := (by have := r5.size; simpa using this); clear hb))
            | ((go_at_call 38; (with_reducible refine (HBC.out _ (HW3.out.trans (r6.mono hz2w))).mono ?_); rintro x w7 ⟨rfl, hb⟩; have r7 := r6.trans (hb.mono hz6); have hz7 : w2.heap.size + 1 ≤ w7.heap.size := (by have := r7.size; simpa using this); clear hb))
            | ((go_at_call 38; (with_reducible refine (HBC.out _ (HW3.out.trans (r5.mono hz2w))).mono ?_); rintro x w6 ⟨rfl, hb⟩; have r6 := r5.trans (hb.mono hz5); have hz6 : w2.heap.size + 1 ≤ w6.heap.size := (by have := r6.size; simpa using this); clear hb))
            | ((go_at_call 38; (with_reducible refine (HBC.out _ (HW3.out.trans (r4.mono hz2w))).mono ?_); rintro x w5 ⟨rfl, hb⟩; have r5 := r4.trans (hb.mono hz4); have hz5 : w2.heap.size + 1 ≤ w5.heap.size := (by have := r5.size; simpa using this); clear hb))
            | ((go_at_call 38; (with_reducible refine (HAN.out _ (HW3.out.trans (r6.mono hz2w))).mono ?_); rintro x w7 ⟨rfl, hb⟩; have r7 := r6.trans (hb.mono hz6); have hz7 : w2.heap.size + 1 ≤ w7.heap.size := (by have := r7.size; simpa using this); clear hb))
            | ((go_at_call 38; (with_reducible refine (HAN.out _ (HW3.out.trans (r5.mono hz2w))).mono ?_); rintro x w6 ⟨rfl, hb⟩; have r6 := r5.trans (hb.mono hz5); have hz6 : w2.heap.size + 1 ≤ w6.heap.size := (by have := r6.size; simpa using this); clear hb))
            | ((go_at_call 38; (with_reducible refine (HAN.out _ (HW3.out.trans (r4.mono hz2w))).mono ?_); rintro x w5 ⟨rfl, hb⟩; have r5 := r4.trans (hb.mono hz4); have hz5 : w2.heap.size + 1 ≤ w5.heap.size := (by have := r5.size; simpa using this); clear hb)))
      all_goals
        have HR7 := Lib.hid r7
        have hz7' := r7.size
        clear r3 r4 r5 r6 r7
        go_wp2_with fail
        cases va with
        | false =>
          refine wp_region_held_drew (S := fun x => (x.cell? ⟨w.heap.size, 0, none⟩ = some (.string (S a.id)) ∧ x.cell? ⟨w.heap.size, 1, none⟩ = some (.string (S a.title)) ∧ x.cell? ⟨w.heap.size, 2, none⟩ = some (.string (S a.link)) ∧ x.cell? ⟨w.heap.size, 3, none⟩ = some (.string (S a.content)) ∧ x.cell? ⟨w.heap.size, 4, none⟩ = some (.int .i64 a.upd)) ∧ (x.cell? ⟨w.heap.size + 1, 0, none⟩ = some (.string (S b.id)) ∧ x.cell? ⟨w.heap.size + 1, 1, none⟩ = some (.string (S b.title)) ∧ x.cell? ⟨w.heap.size + 1, 2, none⟩ = some (.string (S b.link)) ∧ x.cell? ⟨w.heap.size + 1, 3, none⟩ = some (.string (S b.content)) ∧ x.cell? ⟨w.heap.size + 1, 4, none⟩ = some (.int .i64 b.upd)) ∧ (x.cell? ⟨w.heap.size + 1 + 1, 0, none⟩ = some (.string (S c.id)) ∧ x.cell? ⟨w.heap.size + 1 + 1, 1, none⟩ = some (.string (S c.title)) ∧ x.cell? ⟨w.heap.size + 1 + 1, 2, none⟩ = some (.string (S c.link)) ∧ x.cell? ⟨w.heap.size + 1 + 1, 3, none⟩ = some (.string (S c.content)) ∧ x.cell? ⟨w.heap.size + 1 + 1, 4, none⟩ = some (.int .i64 c.upd)) ∧ (x.cell? ⟨w2.heap.size, 0, none⟩ = some (.string (S L.id)) ∧ x.cell? ⟨w2.heap.size, 1, none⟩ = some (.string (S L.title)) ∧ x.cell? ⟨w2.heap.size, 2, none⟩ = some (.string (S L.link)) ∧ x.cell? ⟨w2.heap.size, 3, none⟩ = some (.string (S L.content)) ∧ x.cell? ⟨w2.heap.size, 4, none⟩ = some (.int .i64 L.upd))) (by kernel_rfl) ?_ (fun hHeld => ?_)
          · (try dsimp only); exact KEEP.out _ HR7.out.drew
          refine wpAnyH_ready (rs := [0]) (by kernel_rfl) (by simp) ?_
          refine AllReadyH.cons (o := (⟨some 63, _, _, _, _, _⟩ : Oper)) rfl (fun K hK => ?_) ?_
          rotate_left
          · exact AllReadyH.nil
          go_simp
          (go_at_call 27; (with_reducible refine (HAL.out _ (HW3.out.trans ((HR7.out).mono hz2w)).drew).mono ?_); rintro x w8 ⟨rfl, hb⟩; have r8 := (HR7.out.drew).trans (hb.mono (by simpa using hz7)); have hz8 : w2.heap.size + 1 ≤ w8.heap.size := (by have := r8.size; simpa using this); clear hb)
          refine hK.out _ _ ?_ (fun hHeld => ?_)
          · (try dsimp only); exact KEEP.out _ r8
          clear hK K
          try simp only [Act.put, List.setIfInBounds_toArray, List.set_cons_zero, List.set_cons_succ]
          refine wpAnyH_take (i := 1) (oi := (⟨some 64, _, _, _, _, _⟩ : Oper)) (v := ?_) rfl (by kernel_rfl) (by kernel_rfl) (by kernel_rfl) (fun _ _ _ h => h) (Or.inl ⟨by rfl, ?_⟩) (by assumption) ?_
          rotate_left
          · intro wS hSw; (try dsimp only at hSw); go_simp <;> with_reducible rfl
          simp only [Act.put, List.setIfInBounds_toArray, List.set_cons_zero, List.set_cons_succ]
          refine wpAnyH_take (i := 2) (oi := (⟨some 65, _, _, _, _, _⟩ : Oper)) (v := ?_) rfl (by kernel_rfl) (by kernel_rfl) (by kernel_rfl) (fun _ _ _ h => h) (Or.inl ⟨by rfl, ?_⟩) (by assumption) ?_
          rotate_left
          · intro wS hSw; (try dsimp only at hSw); go_simp <;> with_reducible rfl
          simp only [Act.put, List.setIfInBounds_toArray, List.set_cons_zero, List.set_cons_succ]
          refine wpAnyH_ready (rs := [3]) (by kernel_rfl) (by simp) ?_
          refine AllReadyH.cons (o := (⟨some 66, _, _, _, _, _⟩ : Oper)) rfl (fun K hK => ?_) ?_
          rotate_left
          · exact AllReadyH.nil
          go_simp
          (go_at_call 40; (with_reducible refine (HVA.out _ ).mono ?_); rintro x w9 ⟨rfl, hb⟩; have r9 := (r8).trans (hb.mono hz8); have hz9 : w2.heap.size + 1 ≤ w9.heap.size := (by have := r9.size; simpa using this); clear hb)
          refine hK.out _ _ ?_ (fun hHeld => ?_)
          · (try dsimp only); exact KEEP.out _ r9
          clear hK K
          try simp only [Act.put, List.setIfInBounds_toArray, List.set_cons_zero, List.set_cons_succ]
          refine wpAnyH_take (i := 4) (oi := (⟨some 67, _, _, _, _, _⟩ : Oper)) (v := ?_) rfl (by kernel_rfl) (by kernel_rfl) (by kernel_rfl) (fun _ _ _ h => h) (Or.inl ⟨by rfl, ?_⟩) (by assumption) ?_
          rotate_left
          · intro wS hSw; (try dsimp only at hSw); go_simp <;> with_reducible rfl
          simp only [Act.put, List.setIfInBounds_toArray, List.set_cons_zero, List.set_cons_succ]
          refine wpAnyH_take (i := 5) (oi := (⟨some 68, _, _, _, _, _⟩ : Oper)) (v := ?_) rfl (by kernel_rfl) (by kernel_rfl) (by kernel_rfl) (fun _ _ _ h => h) (Or.inl ⟨by rfl, ?_⟩) (by assumption) ?_
          rotate_left
          · intro wS hSw; (try dsimp only at hSw); go_simp <;> with_reducible rfl
          simp only [Act.put, List.setIfInBounds_toArray, List.set_cons_zero, List.set_cons_succ]
          refine wpAnyH_take (i := 6) (oi := (⟨some 69, _, _, _, _, _⟩ : Oper)) (v := undef) rfl (by kernel_rfl) (by kernel_rfl) (by kernel_rfl) (fun _ _ _ h => h) (Or.inr ⟨by rfl, rfl⟩) (by assumption) ?_
          simp only [Act.put, List.setIfInBounds_toArray, List.set_cons_zero, List.set_cons_succ]
          refine wpAnyH_take (i := 7) (oi := (⟨some 70, _, _, _, _, _⟩ : Oper)) (v := undef) rfl (by kernel_rfl) (by kernel_rfl) (by kernel_rfl) (fun _ _ _ h => h) (Or.inr ⟨by rfl, rfl⟩) (by assumption) ?_
          simp only [Act.put, List.setIfInBounds_toArray, List.set_cons_zero, List.set_cons_succ]
          refine wpAnyH_take (i := 8) (oi := (⟨some 71, _, _, _, _, _⟩ : Oper)) (v := undef) rfl (by kernel_rfl) (by kernel_rfl) (by kernel_rfl) (fun _ _ _ h => h) (Or.inr ⟨by rfl, rfl⟩) (by assumption) ?_
          simp only [Act.put, List.setIfInBounds_toArray, List.set_cons_zero, List.set_cons_succ]
          refine wpAnyH_take (i := 9) (oi := (⟨some 72, _, _, _, _, _⟩ : Oper)) (v := ?_) rfl (by kernel_rfl) (by kernel_rfl) (by kernel_rfl) (fun _ _ _ h => h) (Or.inl ⟨by rfl, ?_⟩) (by assumption) ?_
          rotate_left
          · intro wS hSw; (try dsimp only at hSw); go_simp <;> with_reducible rfl
          simp only [Act.put, List.setIfInBounds_toArray, List.set_cons_zero, List.set_cons_succ]
          refine wpAnyH_take (i := 10) (oi := (⟨some 73, _, _, _, _, _⟩ : Oper)) (v := ?_) rfl (by kernel_rfl) (by kernel_rfl) (by kernel_rfl) (fun _ _ _ h => h) (Or.inl ⟨by rfl, ?_⟩) (by assumption) ?_
          rotate_left
          · intro wS hSw; (try dsimp only at hSw); go_simp <;> with_reducible rfl
          simp only [Act.put, List.setIfInBounds_toArray, List.set_cons_zero, List.set_cons_succ]
          refine wpAnyH_take (i := 11) (oi := (⟨some 74, _, _, _, _, _⟩ : Oper)) (v := undef) rfl (by kernel_rfl) (by kernel_rfl) (by kernel_rfl) (fun _ _ _ h => h) (Or.inr ⟨by rfl, rfl⟩) (by assumption) ?_
          simp only [Act.put, List.setIfInBounds_toArray, List.set_cons_zero, List.set_cons_succ]
          refine wpAnyH_take (i := 12) (oi := (⟨some 75, _, _, _, _, _⟩ : Oper)) (v := undef) rfl (by kernel_rfl) (by kernel_rfl) (by kernel_rfl) (fun _ _ _ h => h) (Or.inr ⟨by rfl, rfl⟩) (by assumption) ?_
          simp only [Act.put, List.setIfInBounds_toArray, List.set_cons_zero, List.set_cons_succ]
          refine wpAnyH_take (i := 13) (oi := (⟨some 76, _, _, _, _, _⟩ : Oper)) (v := undef) rfl (by kernel_rfl) (by kernel_rfl) (by kernel_rfl) (fun _ _ _ h => h) (Or.inr ⟨by rfl, rfl⟩) (by assumption) ?_
          simp only [Act.put, List.setIfInBounds_toArray, List.set_cons_zero, List.set_cons_succ]
          refine wpAnyH_take (i := 14) (oi := (⟨some 77, _, _, _, _, _⟩ : Oper)) (v := undef) rfl (by kernel_rfl) (by kernel_rfl) (by kernel_rfl) (fun _ _ _ h => h) (Or.inr ⟨by rfl, rfl⟩) (by assumption) ?_
          simp only [Act.put, List.setIfInBounds_toArray, List.set_cons_zero, List.set_cons_succ]
          refine wpAnyH_take (i := 15) (oi := (⟨some 78, _, _, _, _, _⟩ : Oper)) (v := undef) rfl (by kernel_rfl) (by kernel_rfl) (by kernel_rfl) (fun _ _ _ h => h) (Or.inr ⟨by rfl, rfl⟩) (by assumption) ?_
          simp only [Act.put, List.setIfInBounds_toArray, List.set_cons_zero, List.set_cons_succ]
          refine wpAnyH_take (i := 16) (oi := (⟨some 79, _, _, _, _, _⟩ : Oper)) (v := ?_) rfl (by kernel_rfl) (by kernel_rfl) (by kernel_rfl) (fun _ _ _ h => h) (Or.inl ⟨by rfl, ?_⟩) (by assumption) ?_
          rotate_left
          · intro wS hSw; (try dsimp only at hSw); go_simp <;> with_reducible rfl
          simp only [Act.put, List.setIfInBounds_toArray, List.set_cons_zero, List.set_cons_succ]
          refine wpAnyH_take (i := 17) (oi := (⟨some 80, _, _, _, _, _⟩ : Oper)) (v := ?_) rfl (by kernel_rfl) (by kernel_rfl) (by kernel_rfl) (fun _ _ _ h => h) (Or.inl ⟨by rfl, ?_⟩) (by assumption) ?_
          rotate_left
          · intro wS hSw; (try dsimp only at hSw); go_simp <;> with_reducible rfl
          simp only [Act.put, List.setIfInBounds_toArray, List.set_cons_zero, List.set_cons_succ]
          refine wpAnyH_take (i := 18) (oi := (⟨some 6, _, _, _, _, _⟩ : Oper)) (v := ?_) rfl (by kernel_rfl) (by kernel_rfl) (by kernel_rfl) (fun _ _ _ h => h) (Or.inl ⟨by rfl, ?_⟩) (by assumption) ?_
          rotate_left
          · intro wS hSw; (try dsimp only at hSw); go_simp <;> with_reducible rfl
          simp only [Act.put, List.setIfInBounds_toArray, List.set_cons_zero, List.set_cons_succ]
          refine wpAnyH_done (by kernel_rfl) ?_ _
          go_wp2_with fail
          go_ret
          exact ⟨rfl, HW3.out.trans (r9.mono hz2w)⟩
        | true =>
          cases vb with
          | false =>
            refine wp_region_held_drew (S := fun x => (x.cell? ⟨w.heap.size, 0, none⟩ = some (.string (S a.id)) ∧ x.cell? ⟨w.heap.size, 1, none⟩ = some (.string (S a.title)) ∧ x.cell? ⟨w.heap.size, 2, none⟩ = some (.string (S a.link)) ∧ x.cell? ⟨w.heap.size, 3, none⟩ = some (.string (S a.content)) ∧ x.cell? ⟨w.heap.size, 4, none⟩ = some (.int .i64 a.upd)) ∧ (x.cell? ⟨w.heap.size + 1, 0, none⟩ = some (.string (S b.id)) ∧ x.cell? ⟨w.heap.size + 1, 1, none⟩ = some (.string (S b.title)) ∧ x.cell? ⟨w.heap.size + 1, 2, none⟩ = some (.string (S b.link)) ∧ x.cell? ⟨w.heap.size + 1, 3, none⟩ = some (.string (S b.content)) ∧ x.cell? ⟨w.heap.size + 1, 4, none⟩ = some (.int .i64 b.upd)) ∧ (x.cell? ⟨w.heap.size + 1 + 1, 0, none⟩ = some (.string (S c.id)) ∧ x.cell? ⟨w.heap.size + 1 + 1, 1, none⟩ = some (.string (S c.title)) ∧ x.cell? ⟨w.heap.size + 1 + 1, 2, none⟩ = some (.string (S c.link)) ∧ x.cell? ⟨w.heap.size + 1 + 1, 3, none⟩ = some (.string (S c.content)) ∧ x.cell? ⟨w.heap.size + 1 + 1, 4, none⟩ = some (.int .i64 c.upd)) ∧ (x.cell? ⟨w2.heap.size, 0, none⟩ = some (.string (S L.id)) ∧ x.cell? ⟨w2.heap.size, 1, none⟩ = some (.string (S L.title)) ∧ x.cell? ⟨w2.heap.size, 2, none⟩ = some (.string (S L.link)) ∧ x.cell? ⟨w2.heap.size, 3, none⟩ = some (.string (S L.content)) ∧ x.cell? ⟨w2.heap.size, 4, none⟩ = some (.int .i64 L.upd))) (by kernel_rfl) ?_ (fun hHeld => ?_)
            · (try dsimp only); exact KEEP.out _ HR7.out.drew
            refine wpAnyH_ready (rs := [0]) (by kernel_rfl) (by simp) ?_
            refine AllReadyH.cons (o := (⟨some 63, _, _, _, _, _⟩ : Oper)) rfl (fun K hK => ?_) ?_
            rotate_left
            · exact AllReadyH.nil
            go_simp
            (go_at_call 27; (with_reducible refine (HAL.out _ (HW3.out.trans ((HR7.out).mono hz2w)).drew).mono ?_); rintro x w8 ⟨rfl, hb⟩; have r8 := (HR7.out.drew).trans (hb.mono (by simpa using hz7)); have hz8 : w2.heap.size + 1 ≤ w8.heap.size := (by have := r8.size; simpa using this); clear hb)
            refine hK.out _ _ ?_ (fun hHeld => ?_)
            · (try dsimp only); exact KEEP.out _ r8
            clear hK K
            try simp only [Act.put, List.setIfInBounds_toArray, List.set_cons_zero, List.set_cons_succ]
            refine wpAnyH_take (i := 1) (oi := (⟨some 64, _, _, _, _, _⟩ : Oper)) (v := ?_) rfl (by kernel_rfl) (by kernel_rfl) (by kernel_rfl) (fun _ _ _ h => h) (Or.inl ⟨by rfl, ?_⟩) (by assumption) ?_
            rotate_left
            · intro wS hSw; (try dsimp only at hSw); go_simp <;> with_reducible rfl
            simp only [Act.put, List.setIfInBounds_toArray, List.set_cons_zero, List.set_cons_succ]
            refine wpAnyH_take (i := 2) (oi := (⟨some 65, _, _, _, _, _⟩ : Oper)) (v := ?_) rfl (by kernel_rfl) (by kernel_rfl) (by kernel_rfl) (fun _ _ _ h => h) (Or.inl ⟨by rfl, ?_⟩) (by assumption) ?_
            rotate_left
            · intro wS hSw; (try dsimp only at hSw); go_simp <;> with_reducible rfl
            simp only [Act.put, List.setIfInBounds_toArray, List.set_cons_zero, List.set_cons_succ]
            refine wpAnyH_ready (rs := [3]) (by kernel_rfl) (by simp) ?_
            refine AllReadyH.cons (o := (⟨some 66, _, _, _, _, _⟩ : Oper)) rfl (fun K hK => ?_) ?_
            rotate_left
            · exact AllReadyH.nil
            go_simp
            (go_at_call 40; (with_reducible refine (HVA.out _ ).mono ?_); rintro x w9 ⟨rfl, hb⟩; have r9 := (r8).trans (hb.mono hz8); have hz9 : w2.heap.size + 1 ≤ w9.heap.size := (by have := r9.size; simpa using this); clear hb)
            refine hK.out _ _ ?_ (fun hHeld => ?_)
            · (try dsimp only); exact KEEP.out _ r9
            clear hK K
            try simp only [Act.put, List.setIfInBounds_toArray, List.set_cons_zero, List.set_cons_succ]
            refine wpAnyH_take (i := 4) (oi := (⟨some 67, _, _, _, _, _⟩ : Oper)) (v := ?_) rfl (by kernel_rfl) (by kernel_rfl) (by kernel_rfl) (fun _ _ _ h => h) (Or.inl ⟨by rfl, ?_⟩) (by assumption) ?_
            rotate_left
            · intro wS hSw; (try dsimp only at hSw); go_simp <;> with_reducible rfl
            simp only [Act.put, List.setIfInBounds_toArray, List.set_cons_zero, List.set_cons_succ]
            refine wpAnyH_take (i := 5) (oi := (⟨some 68, _, _, _, _, _⟩ : Oper)) (v := ?_) rfl (by kernel_rfl) (by kernel_rfl) (by kernel_rfl) (fun _ _ _ h => h) (Or.inl ⟨by rfl, ?_⟩) (by assumption) ?_
            rotate_left
            · intro wS hSw; (try dsimp only at hSw); go_simp <;> with_reducible rfl
            simp only [Act.put, List.setIfInBounds_toArray, List.set_cons_zero, List.set_cons_succ]
            refine wpAnyH_take (i := 6) (oi := (⟨some 69, _, _, _, _, _⟩ : Oper)) (v := ?_) rfl (by kernel_rfl) (by kernel_rfl) (by kernel_rfl) (fun _ _ _ h => h) (Or.inl ⟨by rfl, ?_⟩) (by assumption) ?_
            rotate_left
            · intro wS hSw; (try dsimp only at hSw); go_simp <;> with_reducible rfl
            simp only [Act.put, List.setIfInBounds_toArray, List.set_cons_zero, List.set_cons_succ]
            refine wpAnyH_ready (rs := [7]) (by kernel_rfl) (by simp) ?_
            refine AllReadyH.cons (o := (⟨some 70, _, _, _, _, _⟩ : Oper)) rfl (fun K hK => ?_) ?_
            rotate_left
            · exact AllReadyH.nil
            go_simp
            (go_at_call 40; (with_reducible refine (HVB.out _ ).mono ?_); rintro x w10 ⟨rfl, hb⟩; have r10 := (r9).trans (hb.mono hz9); have hz10 : w2.heap.size + 1 ≤ w10.heap.size := (by have := r10.size; simpa using this); clear hb)
            refine hK.out _ _ ?_ (fun hHeld => ?_)
            · (try dsimp only); exact KEEP.out _ r10
            clear hK K
            try simp only [Act.put, List.setIfInBounds_toArray, List.set_cons_zero, List.set_cons_succ]
            refine wpAnyH_take (i := 8) (oi := (⟨some 71, _, _, _, _, _⟩ : Oper)) (v := ?_) rfl (by kernel_rfl) (by kernel_rfl) (by kernel_rfl) (fun _ _ _ h => h) (Or.inl ⟨by rfl, ?_⟩) (by assumption) ?_
            rotate_left
            · intro wS hSw; (try dsimp only at hSw); go_simp <;> with_reducible rfl
            simp only [Act.put, List.setIfInBounds_toArray, List.set_cons_zero, List.set_cons_succ]
            refine wpAnyH_take (i := 9) (oi := (⟨some 72, _, _, _, _, _⟩ : Oper)) (v := ?_) rfl (by kernel_rfl) (by kernel_rfl) (by kernel_rfl) (fun _ _ _ h => h) (Or.inl ⟨by rfl, ?_⟩) (by assumption) ?_
            rotate_left
            · intro wS hSw; (try dsimp only at hSw); go_simp <;> with_reducible rfl
            simp only [Act.put, List.setIfInBounds_toArray, List.set_cons_zero, List.set_cons_succ]
            refine wpAnyH_take (i := 10) (oi := (⟨some 73, _, _, _, _, _⟩ : Oper)) (v := ?_) rfl (by kernel_rfl) (by kernel_rfl) (by kernel_rfl) (fun _ _ _ h => h) (Or.inl ⟨by rfl, ?_⟩) (by assumption) ?_
            rotate_left
            · intro wS hSw; (try dsimp only at hSw); go_simp <;> with_reducible rfl
            simp only [Act.put, List.setIfInBounds_toArray, List.set_cons_zero, List.set_cons_succ]
            refine wpAnyH_take (i := 11) (oi := (⟨some 74, _, _, _, _, _⟩ : Oper)) (v := undef) rfl (by kernel_rfl) (by kernel_rfl) (by kernel_rfl) (fun _ _ _ h => h) (Or.inr ⟨by rfl, rfl⟩) (by assumption) ?_
            simp only [Act.put, List.setIfInBounds_toArray, List.set_cons_zero, List.set_cons_succ]
            refine wpAnyH_take (i := 12) (oi := (⟨some 75, _, _, _, _, _⟩ : Oper)) (v := undef) rfl (by kernel_rfl) (by kernel_rfl) (by kernel_rfl) (fun _ _ _ h => h) (Or.inr ⟨by rfl, rfl⟩) (by assumption) ?_
            simp only [Act.put, List.setIfInBounds_toArray, List.set_cons_zero, List.set_cons_succ]
            refine wpAnyH_take (i := 13) (oi := (⟨some 76, _, _, _, _, _⟩ : Oper)) (v := undef) rfl (by kernel_rfl) (by kernel_rfl) (by kernel_rfl) (fun _ _ _ h => h) (Or.inr ⟨by rfl, rfl⟩) (by assumption) ?_
            simp only [Act.put, List.setIfInBounds_toArray, List.set_cons_zero, List.set_cons_succ]
            refine wpAnyH_take (i := 14) (oi := (⟨some 77, _, _, _, _, _⟩ : Oper)) (v := undef) rfl (by kernel_rfl) (by kernel_rfl) (by kernel_rfl) (fun _ _ _ h => h) (Or.inr ⟨by rfl, rfl⟩) (by assumption) ?_
            simp only [Act.put, List.setIfInBounds_toArray, List.set_cons_zero, List.set_cons_succ]
            refine wpAnyH_take (i := 15) (oi := (⟨some 78, _, _, _, _, _⟩ : Oper)) (v := undef) rfl (by kernel_rfl) (by kernel_rfl) (by kernel_rfl) (fun _ _ _ h => h) (Or.inr ⟨by rfl, rfl⟩) (by assumption) ?_
            simp only [Act.put, List.setIfInBounds_toArray, List.set_cons_zero, List.set_cons_succ]
            refine wpAnyH_take (i := 16) (oi := (⟨some 79, _, _, _, _, _⟩ : Oper)) (v := ?_) rfl (by kernel_rfl) (by kernel_rfl) (by kernel_rfl) (fun _ _ _ h => h) (Or.inl ⟨by rfl, ?_⟩) (by assumption) ?_
            rotate_left
            · intro wS hSw; (try dsimp only at hSw); go_simp <;> with_reducible rfl
            simp only [Act.put, List.setIfInBounds_toArray, List.set_cons_zero, List.set_cons_succ]
            refine wpAnyH_take (i := 17) (oi := (⟨some 80, _, _, _, _, _⟩ : Oper)) (v := ?_) rfl (by kernel_rfl) (by kernel_rfl) (by kernel_rfl) (fun _ _ _ h => h) (Or.inl ⟨by rfl, ?_⟩) (by assumption) ?_
            rotate_left
            · intro wS hSw; (try dsimp only at hSw); go_simp <;> with_reducible rfl
            simp only [Act.put, List.setIfInBounds_toArray, List.set_cons_zero, List.set_cons_succ]
            refine wpAnyH_take (i := 18) (oi := (⟨some 6, _, _, _, _, _⟩ : Oper)) (v := ?_) rfl (by kernel_rfl) (by kernel_rfl) (by kernel_rfl) (fun _ _ _ h => h) (Or.inl ⟨by rfl, ?_⟩) (by assumption) ?_
            rotate_left
            · intro wS hSw; (try dsimp only at hSw); go_simp <;> with_reducible rfl
            simp only [Act.put, List.setIfInBounds_toArray, List.set_cons_zero, List.set_cons_succ]
            refine wpAnyH_done (by kernel_rfl) ?_ _
            go_wp2_with fail
            go_ret
            exact ⟨rfl, HW3.out.trans (r10.mono hz2w)⟩
          | true =>
            have hk := HCM.out rfl rfl
            rw [hk] at HBA
            have n4 : ∀ W, (binOp .eql 59 (entV L) (entV L)).run Tryd.prog W = .ok (.bool true) W := fun W => by rw [run_eq_ent, enEq_same]
            clear hk
            refine wp_region_held_drew (S := fun x => (x.cell? ⟨w.heap.size, 0, none⟩ = some (.string (S a.id)) ∧ x.cell? ⟨w.heap.size, 1, none⟩ = some (.string (S a.title)) ∧ x.cell? ⟨w.heap.size, 2, none⟩ = some (.string (S a.link)) ∧ x.cell? ⟨w.heap.size, 3, none⟩ = some (.string (S a.content)) ∧ x.cell? ⟨w.heap.size, 4, none⟩ = some (.int .i64 a.upd)) ∧ (x.cell? ⟨w.heap.size + 1, 0, none⟩ = some (.string (S b.id)) ∧ x.cell? ⟨w.heap.size + 1, 1, none⟩ = some (.string (S b.title)) ∧ x.cell? ⟨w.heap.size + 1, 2, none⟩ = some (.string (S b.link)) ∧ x.cell? ⟨w.heap.size + 1, 3, none⟩ = some (.string (S b.content)) ∧ x.cell? ⟨w.heap.size + 1, 4, none⟩ = some (.int .i64 b.upd)) ∧ (x.cell? ⟨w.heap.size + 1 + 1, 0, none⟩ = some (.string (S c.id)) ∧ x.cell? ⟨w.heap.size + 1 + 1, 1, none⟩ = some (.string (S c.title)) ∧ x.cell? ⟨w.heap.size + 1 + 1, 2, none⟩ = some (.string (S c.link)) ∧ x.cell? ⟨w.heap.size + 1 + 1, 3, none⟩ = some (.string (S c.content)) ∧ x.cell? ⟨w.heap.size + 1 + 1, 4, none⟩ = some (.int .i64 c.upd)) ∧ (x.cell? ⟨w2.heap.size, 0, none⟩ = some (.string (S L.id)) ∧ x.cell? ⟨w2.heap.size, 1, none⟩ = some (.string (S L.title)) ∧ x.cell? ⟨w2.heap.size, 2, none⟩ = some (.string (S L.link)) ∧ x.cell? ⟨w2.heap.size, 3, none⟩ = some (.string (S L.content)) ∧ x.cell? ⟨w2.heap.size, 4, none⟩ = some (.int .i64 L.upd))) (by kernel_rfl) ?_ (fun hHeld => ?_)
            · (try dsimp only); exact KEEP.out _ HR7.out.drew
            refine wpAnyH_ready (rs := [0]) (by kernel_rfl) (by simp) ?_
            refine AllReadyH.cons (o := (⟨some 63, _, _, _, _, _⟩ : Oper)) rfl (fun K hK => ?_) ?_
            rotate_left
            · exact AllReadyH.nil
            go_simp
            (go_at_call 27; (with_reducible refine (HAL.out _ (HW3.out.trans ((HR7.out).mono hz2w)).drew).mono ?_); rintro x w8 ⟨rfl, hb⟩; have r8 := (HR7.out.drew).trans (hb.mono (by simpa using hz7)); have hz8 : w2.heap.size + 1 ≤ w8.heap.size := (by have := r8.size; simpa using this); clear hb)
            refine hK.out _ _ ?_ (fun hHeld => ?_)
            · (try dsimp only); exact KEEP.out _ r8
            clear hK K
            try simp only [Act.put, List.setIfInBounds_toArray, List.set_cons_zero, List.set_cons_succ]
            refine wpAnyH_take (i := 1) (oi := (⟨some 64, _, _, _, _, _⟩ : Oper)) (v := ?_) rfl (by kernel_rfl) (by kernel_rfl) (by kernel_rfl) (fun _ _ _ h => h) (Or.inl ⟨by rfl, ?_⟩) (by assumption) ?_
            rotate_left
            · intro wS hSw; (try dsimp only at hSw); go_simp <;> with_reducible rfl
            simp only [Act.put, List.setIfInBounds_toArray, List.set_cons_zero, List.set_cons_succ]
            refine wpAnyH_take (i := 2) (oi := (⟨some 65, _, _, _, _, _⟩ : Oper)) (v := ?_) rfl (by kernel_rfl) (by kernel_rfl) (by kernel_rfl) (fun _ _ _ h => h) (Or.inl ⟨by rfl, ?_⟩) (by assumption) ?_
            rotate_left
            · intro wS hSw; (try dsimp only at hSw); go_simp <;> with_reducible rfl
            simp only [Act.put, List.setIfInBounds_toArray, List.set_cons_zero, List.set_cons_succ]
            refine wpAnyH_ready (rs := [3]) (by kernel_rfl) (by simp) ?_
            refine AllReadyH.cons (o := (⟨some 66, _, _, _, _, _⟩ : Oper)) rfl (fun K hK => ?_) ?_
            rotate_left
            · exact AllReadyH.nil
            go_simp
            (go_at_call 40; (with_reducible refine (HVA.out _ ).mono ?_); rintro x w9 ⟨rfl, hb⟩; have r9 := (r8).trans (hb.mono hz8); have hz9 : w2.heap.size + 1 ≤ w9.heap.size := (by have := r9.size; simpa using this); clear hb)
            refine hK.out _ _ ?_ (fun hHeld => ?_)
            · (try dsimp only); exact KEEP.out _ r9
            clear hK K
            try simp only [Act.put, List.setIfInBounds_toArray, List.set_cons_zero, List.set_cons_succ]
            refine wpAnyH_take (i := 4) (oi := (⟨some 67, _, _, _, _, _⟩ : Oper)) (v := ?_) rfl (by kernel_rfl) (by kernel_rfl) (by kernel_rfl) (fun _ _ _ h => h) (Or.inl ⟨by rfl, ?_⟩) (by assumption) ?_
            rotate_left
            · intro wS hSw; (try dsimp only at hSw); go_simp <;> with_reducible rfl
            simp only [Act.put, List.setIfInBounds_toArray, List.set_cons_zero, List.set_cons_succ]
            refine wpAnyH_take (i := 5) (oi := (⟨some 68, _, _, _, _, _⟩ : Oper)) (v := ?_) rfl (by kernel_rfl) (by kernel_rfl) (by kernel_rfl) (fun _ _ _ h => h) (Or.inl ⟨by rfl, ?_⟩) (by assumption) ?_
            rotate_left
            · intro wS hSw; (try dsimp only at hSw); go_simp <;> with_reducible rfl
            simp only [Act.put, List.setIfInBounds_toArray, List.set_cons_zero, List.set_cons_succ]
            refine wpAnyH_take (i := 6) (oi := (⟨some 69, _, _, _, _, _⟩ : Oper)) (v := ?_) rfl (by kernel_rfl) (by kernel_rfl) (by kernel_rfl) (fun _ _ _ h => h) (Or.inl ⟨by rfl, ?_⟩) (by assumption) ?_
            rotate_left
            · intro wS hSw; (try dsimp only at hSw); go_simp <;> with_reducible rfl
            simp only [Act.put, List.setIfInBounds_toArray, List.set_cons_zero, List.set_cons_succ]
            refine wpAnyH_ready (rs := [7]) (by kernel_rfl) (by simp) ?_
            refine AllReadyH.cons (o := (⟨some 70, _, _, _, _, _⟩ : Oper)) rfl (fun K hK => ?_) ?_
            rotate_left
            · exact AllReadyH.nil
            go_simp
            (go_at_call 40; (with_reducible refine (HVB.out _ ).mono ?_); rintro x w10 ⟨rfl, hb⟩; have r10 := (r9).trans (hb.mono hz9); have hz10 : w2.heap.size + 1 ≤ w10.heap.size := (by have := r10.size; simpa using this); clear hb)
            refine hK.out _ _ ?_ (fun hHeld => ?_)
            · (try dsimp only); exact KEEP.out _ r10
            clear hK K
            try simp only [Act.put, List.setIfInBounds_toArray, List.set_cons_zero, List.set_cons_succ]
            refine wpAnyH_take (i := 8) (oi := (⟨some 71, _, _, _, _, _⟩ : Oper)) (v := ?_) rfl (by kernel_rfl) (by kernel_rfl) (by kernel_rfl) (fun _ _ _ h => h) (Or.inl ⟨by rfl, ?_⟩) (by assumption) ?_
            rotate_left
            · intro wS hSw; (try dsimp only at hSw); go_simp <;> with_reducible rfl
            simp only [Act.put, List.setIfInBounds_toArray, List.set_cons_zero, List.set_cons_succ]
            refine wpAnyH_take (i := 9) (oi := (⟨some 72, _, _, _, _, _⟩ : Oper)) (v := ?_) rfl (by kernel_rfl) (by kernel_rfl) (by kernel_rfl) (fun _ _ _ h => h) (Or.inl ⟨by rfl, ?_⟩) (by assumption) ?_
            rotate_left
            · intro wS hSw; (try dsimp only at hSw); go_simp <;> with_reducible rfl
            simp only [Act.put, List.setIfInBounds_toArray, List.set_cons_zero, List.set_cons_succ]
            refine wpAnyH_take (i := 10) (oi := (⟨some 73, _, _, _, _, _⟩ : Oper)) (v := ?_) rfl (by kernel_rfl) (by kernel_rfl) (by kernel_rfl) (fun _ _ _ h => h) (Or.inl ⟨by rfl, ?_⟩) (by assumption) ?_
            rotate_left
            · intro wS hSw; (try dsimp only at hSw); go_simp <;> with_reducible rfl
            simp only [Act.put, List.setIfInBounds_toArray, List.set_cons_zero, List.set_cons_succ]
            refine wpAnyH_take (i := 11) (oi := (⟨some 74, _, _, _, _, _⟩ : Oper)) (v := ?_) rfl (by kernel_rfl) (by kernel_rfl) (by kernel_rfl) (fun _ _ _ h => h) (Or.inl ⟨by rfl, ?_⟩) (by assumption) ?_
            rotate_left
            · intro wS hSw; (try dsimp only at hSw); go_simp <;> with_reducible rfl
            simp only [Act.put, List.setIfInBounds_toArray, List.set_cons_zero, List.set_cons_succ]
            refine wpAnyH_take (i := 12) (oi := (⟨some 75, _, _, _, _, _⟩ : Oper)) (v := ?_) rfl (by kernel_rfl) (by kernel_rfl) (by kernel_rfl) (fun _ _ _ h => h) (Or.inl ⟨by rfl, ?_⟩) (by assumption) ?_
            rotate_left
            · intro wS hSw; (try dsimp only at hSw); go_simp <;> with_reducible rfl
            simp only [Act.put, List.setIfInBounds_toArray, List.set_cons_zero, List.set_cons_succ]
            refine wpAnyH_take (i := 14) (oi := (⟨some 77, _, _, _, _, _⟩ : Oper)) (v := ?_) rfl (by kernel_rfl) (by kernel_rfl) (by kernel_rfl) (fun _ _ _ h => h) (Or.inl ⟨by rfl, ?_⟩) (by assumption) ?_
            rotate_left
            · intro wS hSw; (try dsimp only at hSw); go_simp <;> with_reducible rfl
            simp only [Act.put, List.setIfInBounds_toArray, List.set_cons_zero, List.set_cons_succ]
            refine wpAnyH_ready (rs := [13]) (by kernel_rfl) (by simp) ?_
            refine AllReadyH.cons (o := (⟨some 76, _, _, _, _, _⟩ : Oper)) rfl (fun K hK => ?_) ?_
            rotate_left
            · exact AllReadyH.nil
            go_simp
            (go_at_call 38; (with_reducible refine (HBA.out _ (HW3.out.trans (r10.mono hz2w))).mono ?_); rintro x w11 ⟨rfl, hb⟩; have r11 := (r10).trans (hb.mono hz10); have hz11 : w2.heap.size + 1 ≤ w11.heap.size := (by have := r11.size; simpa using this); clear hb)
            refine hK.out _ _ ?_ (fun hHeld => ?_)
            · (try dsimp only); exact KEEP.out _ r11
            clear hK K
            try simp only [Act.put, List.setIfInBounds_toArray, List.set_cons_zero, List.set_cons_succ]
            refine wpAnyH_take (i := 15) (oi := (⟨some 78, _, _, _, _, _⟩ : Oper)) (v := ?_) rfl (by kernel_rfl) (by kernel_rfl) (by kernel_rfl) (fun _ _ _ h => h) (Or.inl ⟨by rfl, ?_⟩) (by assumption) ?_
            rotate_left
            · intro wS hSw; (try dsimp only at hSw); go_simp <;> with_reducible rfl
            simp only [Act.put, List.setIfInBounds_toArray, List.set_cons_zero, List.set_cons_succ]
            refine wpAnyH_take (i := 16) (oi := (⟨some 79, _, _, _, _, _⟩ : Oper)) (v := ?_) rfl (by kernel_rfl) (by kernel_rfl) (by kernel_rfl) (fun _ _ _ h => h) (Or.inl ⟨by rfl, ?_⟩) (by assumption) ?_
            rotate_left
            · intro wS hSw; (try dsimp only at hSw); go_simp <;> with_reducible rfl
            simp only [Act.put, List.setIfInBounds_toArray, List.set_cons_zero, List.set_cons_succ]
            refine wpAnyH_take (i := 17) (oi := (⟨some 80, _, _, _, _, _⟩ : Oper)) (v := ?_) rfl (by kernel_rfl) (by kernel_rfl) (by kernel_rfl) (fun _ _ _ h => h) (Or.inl ⟨by rfl, ?_⟩) (by assumption) ?_
            rotate_left
            · intro wS hSw; (try dsimp only at hSw); go_simp <;> with_reducible rfl
            simp only [Act.put, List.setIfInBounds_toArray, List.set_cons_zero, List.set_cons_succ]
            refine wpAnyH_take (i := 18) (oi := (⟨some 6, _, _, _, _, _⟩ : Oper)) (v := ?_) rfl (by kernel_rfl) (by kernel_rfl) (by kernel_rfl) (fun _ _ _ h => h) (Or.inl ⟨by rfl, ?_⟩) (by assumption) ?_
            rotate_left
            · intro wS hSw; (try dsimp only at hSw); go_simp <;> with_reducible rfl
            simp only [Act.put, List.setIfInBounds_toArray, List.set_cons_zero, List.set_cons_succ]
            refine wpAnyH_done (by kernel_rfl) ?_ _
            go_wp2_with fail
            go_ret
            exact ⟨rfl, HW3.out.trans (r11.mono hz2w)⟩
end Go.Proofs.YtadkgjbidhfefaaDoor
