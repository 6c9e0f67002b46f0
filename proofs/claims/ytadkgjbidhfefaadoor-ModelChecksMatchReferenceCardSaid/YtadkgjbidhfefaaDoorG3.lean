/-
  Several texts in one file, in build order:
  - Walks of chapter 13: Check of an archive (both).
  - Chapter 13's statements: the examples of the chapter.
  - Walks of chapter 13's statements: is an archive too large to be tested?
  - Walks of chapter 13's statements: the checks.
-/
import Derived.Test.YtadkgjbidhfefaaDoorRchF13
import Derived.Test.YtadkgjbidhfefaaDoorOrdf13
import Derived.Test.YtadkgjbidhfefaaDoorChkF13
import Derived.WalkSpells
import Derived.WalkLawsBesides
set_option linter.unusedVariables false
set_option linter.unusedSimpArgs false
namespace Go.Proofs.YtadkgjbidhfefaaDoor
open Go.RowKit

set_option maxHeartbeats 1000000 in
set_option maxRecDepth 100000 in
theorem checkA_any (l : List Fe) (u : Value) (w : World) (hT : TabJ w) (h : ElsP feeE w (· < w.heap.size) u l) (hl : l.length ≤ 1000000000000) (hs : ∀ f ∈ l, FSz f) :
    Calls Tryd.prog 32 #[.agg #[u]] w fun x w' => x = .returned (.int .i64 (er13 (ordFs l))) ∧ Below w.heap.size w w' := by
  have hA0 : Below w.heap.size w (w.alloc (.cells #[u] 50)) := (Below.refl _ _).alloc (Nat.le_refl _) _
  have hor := orderedF_any l u (w.alloc (.cells #[u] 50)) (hT.next hA0) (h.keep feeE_ok hA0.block (fun k hk => Nat.lt_of_lt_of_le hk hA0.size)) hl hs
  obtain ⟨FA, fc, rfl, _⟩ := h.slice
  have HOR := Lib.hid hor
  have HA0 := Lib.hid hA0
  have HCK := Lib.hid (fun b W => checked_any b W)
  clear hor hA0 hT h hs
  generalize ordFs l = R at *
  go_enter Tryd.func32, Tryd.ntmps32
  go_wp2_with (first
    | (go_at_call 67; refine HOR.out.mono ?_; rintro x w1 ⟨rfl, hb1⟩)
    | (go_at_call 62; refine (HCK.out _ _).mono ?_; rintro x w1 ⟨rfl, rfl⟩))
  go_ret
  exact ⟨rfl, HA0.out.trans (hb1.mono (by simp))⟩
set_option maxHeartbeats 8000000 in
set_option maxRecDepth 100000 in
theorem refCheckA_any (l : List Fe) (u : Value) (w : World) (h : ElsP feeE w (· < w.heap.size) u l) (hl : l.length ≤ 1000000000000) (hs : ∀ f ∈ l, FSz f) :
    Calls Tryd.prog 33 #[.agg #[u]] w fun x w' => x = .returned (.int .i64 (er13 (ordFs l))) ∧ Below w.heap.size w w' := by
  obtain ⟨FA, fc, rfl, _⟩ := h.slice
  obtain ⟨R, hR⟩ : ∃ R, ordFs l = R := ⟨_, rfl⟩
  rw [hR]
  have HL := Lib.hid h
  have HS := Lib.hid hs
  have HR0 := Lib.hid (show ordG vldF cmpF Fe.id (l.take 0) (l.drop 0) = R from hR)
  have HW0 := Lib.hid (show Below w.heap.size w (w.alloc (.cells #[.slice FA l.length fc] 50)) from (Below.refl _ _).alloc (Nat.le_refl _) _)
  have HX0 := Lib.hid (heap_alloc_new w (.cells #[.slice FA l.length fc] 50))
  clear h hs hR
  go_enter Tryd.func33, Tryd.ntmps33
  go_wp2_with fail
  go_loopw [3] (fun i4 wr => ∃ i : Nat, i ≤ l.length ∧ i4 = .int .i64 i ∧ ordG vldF cmpF Fe.id ((l).take i) ((l).drop i) = R ∧ Below w.heap.size w wr ∧ wr.heap[w.heap.size]? = some (.cells #[.slice FA l.length fc] 50)) (fun i4 _ => l.length - (intOf i4).toNat)
  case atStart => exact ⟨0, Nat.zero_le _, rfl, HR0.out, HW0.out, HX0.out⟩
  case round =>
    obtain ⟨i, hi, rfl, hres, hb, hX⟩ := hrel
    have HX := Lib.hid hX
    have hwx := heap_lt hX
    have hhd := (show wr.cell? ⟨w.heap.size, 0, none⟩ = some (.slice FA l.length fc) from by rw [Lib.cell_of_heap hX]; rfl)
    have HB := Lib.hid hb
    have hsz := hb.size
    clear hb HR0 HW0 HX0 hX
    by_cases hlt : i < l.length
    · have hlt' : (i : Int) < l.length := by omega
      obtain ⟨b, off, cs, rfl, hpb, hr, hcs⟩ := fees_at (HL.out.keep feeE_ok HB.out.block (fun _ h => h)) hlt
      have hxs := HS.out _ (List.getElem_mem hlt)
      have hbl : b < wr.heap.size := Nat.lt_of_lt_of_le hpb hsz
      have hdr : ∀ W, Below wr.heap.size wr W → W.cell? ⟨w.heap.size, 0, none⟩ = some (.slice (some ⟨b, off, none⟩) l.length fc) := fun W hW => (hW.cell (p := ⟨w.heap.size, 0, none⟩) hwx).trans hhd
      have HDR := Lib.hid hdr
      have hst0 : i = 0 → (vldF l[i] && ordG vldF cmpF Fe.id ((l).take (i + 1)) ((l).drop (i + 1))) = R := fun h => by subst h; rw [← hres, ordG_zero hlt]
      have hst1 : ∀ h : 0 < i, (vldF l[i] && decide (cmpF (l[i - 1]'(by omega)) l[i] < 0) && !((((l).take i).map Fe.id).contains l[i].id) && ordG vldF cmpF Fe.id ((l).take (i + 1)) ((l).drop (i + 1))) = R := fun h => by rw [← hres, ordG_step hlt h]
      have hpr : ∀ h : 0 < i, ∃ ds, wr.rangeAt b (off + (i - 1) * 6) ds ∧ FeeP wr (· < w.heap.size) (l[i - 1]'(by omega)) ds ∧ FSz (l[i - 1]'(by omega)) := fun h => by
        obtain ⟨b', off', ds, hA, _, hr', hds⟩ := fees_at (HL.out.keep feeE_ok HB.out.block (fun _ h => h)) (show i - 1 < l.length by omega)
        cases hA
        exact ⟨ds, hr', hds, HS.out _ (List.getElem_mem _)⟩
      have hcj : ∀ (j : Nat) (hj : j < l.length) W, Below wr.heap.size wr W → W.cell? ⟨w.heap.size, 0, none⟩ = some (.slice (some ⟨b, off, none⟩) l.length fc) ∧ W.cell? ⟨b, off + j * 6 + 1, none⟩ = some (.string (S (l[j]'hj).id)) ∧ W.cell? ⟨b, off + i * 6 + 1, none⟩ = some (.string (S (l[i]'hlt).id)) := fun j hj W hW => by
        obtain ⟨b', off', ds, hA, _, hr', hds⟩ := fees_at (HL.out.keep feeE_ok HB.out.block (fun _ h => h)) hj
        cases hA
        obtain ⟨_, _, _, _, rfl, _⟩ := hds
        obtain ⟨_, _, _, _, rfl, _⟩ := id hcs
        exact ⟨HDR.out W hW, (hW.cell (p := ⟨b, off + j * 6 + 1, none⟩) hbl).trans (hr' 1 _ rfl), (hW.cell (p := ⟨b, off + i * 6 + 1, none⟩) hbl).trans (hr 1 _ rfl)⟩
      obtain ⟨q, hq⟩ : ∃ q, (((l).take i).map Fe.id).contains l[i].id = q := ⟨_, rfl⟩
      have hq0 : i = 0 → q = false := fun h => by subst h; rw [← hq]; rfl
      rw [hq] at hst1
      have HCJ := Lib.hid hcj
      clear hres hcj hdr
      have hxc : l[i] = l[i] := rfl
      generalize l[i] = X at *
      have hvx : ∀ W, Below wr.heap.size wr W → FeeP W (· < W.heap.size) X cs := fun W hW => hcs.keep (fun k hk => hW.block k (Nat.lt_of_lt_of_le hk hsz)) (fun k hk => Nat.lt_of_lt_of_le (Nat.lt_of_lt_of_le hk hsz) hW.size)
      obtain ⟨PA, pc, EB, ed, rfl, _, _, _, _⟩ := hcs
      have HQ := Lib.hid (show ((((l).take i).map Fe.id).drop 0).contains X.id = q from hq)
      generalize hN : ordG vldF cmpF Fe.id ((l).take (i + 1)) ((l).drop (i + 1)) = N at *
      have HN := Lib.hid hN
      have hck := fun W => fun (hW : Below wr.heap.size wr W) => refCheckFeed_any X _ W hxs ⟨_, rfl, hvx W hW⟩
      have hxk : ∀ W, Below wr.heap.size wr W → W.cell? ⟨w.heap.size, 0, none⟩ = some (.slice (some ⟨b, off, none⟩) l.length fc) ∧ W.cell? ⟨b, off + i * 6, none⟩ = some (.slice PA X.path.length pc) ∧ W.cell? ⟨b, off + i * 6 + 1, none⟩ = some (.string (S X.id)) ∧ W.cell? ⟨b, off + i * 6 + 2, none⟩ = some (.string (S X.title)) ∧ W.cell? ⟨b, off + i * 6 + 3, none⟩ = some (.string (S X.link)) ∧ W.cell? ⟨b, off + i * 6 + 4, none⟩ = some (.int .i64 X.upd) ∧ W.cell? ⟨b, off + i * 6 + 5, none⟩ = some (.slice EB X.ents.length ed) := fun W hW => by
        have hr2 := rangeAt_keep hr (hW.block b hbl)
        exact ⟨HDR.out W hW, hr2 0 _ rfl, hr2 1 _ rfl, hr2 2 _ rfl, hr2 3 _ rfl, hr2 4 _ rfl, hr2 5 _ rfl⟩
      have KX := Lib.hid hxk
      clear hN hr hq hxk hxc
      cases hc : vldF X with
      | false =>
        rw [hc] at hck hst0 hst1
        rw [show er13 false = 22 from rfl] at hck
        have hr : R = false := by
          by_cases h : i = 0
          · rw [← hst0 h]; rfl
          · rw [← hst1 (by omega)]; rfl
        have HCK := Lib.hid hck
        have HRR := Lib.hid hr
        have KEEP := KX
        clear hck hst0 hst1 hq0 hpr hr hc
        go_wp2_with fail
        refine wp_region_held_drew (S := fun x => x.cell? ⟨w.heap.size, 0, none⟩ = some (.slice (some ⟨b, off, none⟩) l.length fc) ∧ x.cell? ⟨b, off + i * 6, none⟩ = some (.slice PA X.path.length pc) ∧ x.cell? ⟨b, off + i * 6 + 1, none⟩ = some (.string (S X.id)) ∧ x.cell? ⟨b, off + i * 6 + 2, none⟩ = some (.string (S X.title)) ∧ x.cell? ⟨b, off + i * 6 + 3, none⟩ = some (.string (S X.link)) ∧ x.cell? ⟨b, off + i * 6 + 4, none⟩ = some (.int .i64 X.upd) ∧ x.cell? ⟨b, off + i * 6 + 5, none⟩ = some (.slice EB X.ents.length ed)) (by kernel_rfl) ?_ (fun hHeld => ?_)
        · (try dsimp only); exact KEEP.out _ (Below.refl _ _).drew
        refine wpAnyH_take (i := 0) (oi := (⟨some 12, _, _, _, _, _⟩ : Oper)) (v := ?_) rfl (by kernel_rfl) (by kernel_rfl) (by kernel_rfl) (fun _ _ _ h => h) (Or.inl ⟨by rfl, ?_⟩) (by assumption) ?_
        rotate_left
        · intro wS hSw; (try dsimp only at hSw); go_simp <;> with_reducible rfl
        simp only [Act.put, List.setIfInBounds_toArray, List.set_cons_zero, List.set_cons_succ]
        refine wpAnyH_take (i := 1) (oi := (⟨some 13, _, _, _, _, _⟩ : Oper)) (v := ?_) rfl (by kernel_rfl) (by kernel_rfl) (by kernel_rfl) (fun _ _ _ h => h) (Or.inl ⟨by rfl, ?_⟩) (by assumption) ?_
        rotate_left
        · intro wS hSw; (try dsimp only at hSw); go_simp <;> with_reducible rfl
        simp only [Act.put, List.setIfInBounds_toArray, List.set_cons_zero, List.set_cons_succ]
        refine wpAnyH_take (i := 2) (oi := (⟨some 14, _, _, _, _, _⟩ : Oper)) (v := ?_) rfl (by kernel_rfl) (by kernel_rfl) (by kernel_rfl) (fun _ _ _ h => h) (Or.inl ⟨by rfl, ?_⟩) (by assumption) ?_
        rotate_left
        · intro wS hSw; (try dsimp only at hSw); go_simp <;> with_reducible rfl
        simp only [Act.put, List.setIfInBounds_toArray, List.set_cons_zero, List.set_cons_succ]
        refine wpAnyH_take (i := 3) (oi := (⟨some 15, _, _, _, _, _⟩ : Oper)) (v := ?_) rfl (by kernel_rfl) (by kernel_rfl) (by kernel_rfl) (fun _ _ _ h => h) (Or.inl ⟨by rfl, ?_⟩) (by assumption) ?_
        rotate_left
        · intro wS hSw; (try dsimp only at hSw); go_simp <;> with_reducible rfl
        simp only [Act.put, List.setIfInBounds_toArray, List.set_cons_zero, List.set_cons_succ]
        refine wpAnyH_take (i := 4) (oi := (⟨some 16, _, _, _, _, _⟩ : Oper)) (v := ?_) rfl (by kernel_rfl) (by kernel_rfl) (by kernel_rfl) (fun _ _ _ h => h) (Or.inl ⟨by rfl, ?_⟩) (by assumption) ?_
        rotate_left
        · intro wS hSw; (try dsimp only at hSw); go_simp <;> with_reducible rfl
        simp only [Act.put, List.setIfInBounds_toArray, List.set_cons_zero, List.set_cons_succ]
        refine wpAnyH_ready (rs := [5]) (by kernel_rfl) (by simp) ?_
        refine AllReadyH.cons (o := (⟨some 17, _, _, _, _, _⟩ : Oper)) rfl (fun K hK => ?_) ?_
        rotate_left
        · exact AllReadyH.nil
        go_simp
        (go_at_call 29; (with_reducible refine (HCK.out _ (Below.refl _ _).drew).mono ?_); rintro x w1 ⟨rfl, hb1⟩; have r1 := (Below.refl wr.heap.size wr).drew.trans hb1; have hz1 : wr.heap.size ≤ w1.heap.size := r1.size; clear hb1)
        refine hK.out _ _ ?_ (fun hHeld => ?_)
        · (try dsimp only); exact KEEP.out _ r1
        clear hK K
        try simp only [Act.put, List.setIfInBounds_toArray, List.set_cons_zero, List.set_cons_succ]
        refine wpAnyH_take (i := 6) (oi := (⟨some 18, _, _, _, _, _⟩ : Oper)) (v := ?_) rfl (by kernel_rfl) (by kernel_rfl) (by kernel_rfl) (fun _ _ _ h => h) (Or.inl ⟨by rfl, ?_⟩) (by assumption) ?_
        rotate_left
        · intro wS hSw; (try dsimp only at hSw); go_simp <;> with_reducible rfl
        simp only [Act.put, List.setIfInBounds_toArray, List.set_cons_zero, List.set_cons_succ]
        refine wpAnyH_take (i := 7) (oi := (⟨some 19, _, _, _, _, _⟩ : Oper)) (v := ?_) rfl (by kernel_rfl) (by kernel_rfl) (by kernel_rfl) (fun _ _ _ h => h) (Or.inl ⟨by rfl, ?_⟩) (by assumption) ?_
        rotate_left
        · intro wS hSw; (try dsimp only at hSw); go_simp <;> with_reducible rfl
        simp only [Act.put, List.setIfInBounds_toArray, List.set_cons_zero, List.set_cons_succ]
        refine wpAnyH_take (i := 8) (oi := (⟨some 20, _, _, _, _, _⟩ : Oper)) (v := undef) rfl (by kernel_rfl) (by kernel_rfl) (by kernel_rfl) (fun _ _ _ h => h) (Or.inr ⟨by rfl, rfl⟩) (by assumption) ?_
        simp only [Act.put, List.setIfInBounds_toArray, List.set_cons_zero, List.set_cons_succ]
        refine wpAnyH_take (i := 9) (oi := (⟨some 21, _, _, _, _, _⟩ : Oper)) (v := undef) rfl (by kernel_rfl) (by kernel_rfl) (by kernel_rfl) (fun _ _ _ h => h) (Or.inr ⟨by rfl, rfl⟩) (by assumption) ?_
        simp only [Act.put, List.setIfInBounds_toArray, List.set_cons_zero, List.set_cons_succ]
        refine wpAnyH_take (i := 10) (oi := (⟨some 22, _, _, _, _, _⟩ : Oper)) (v := undef) rfl (by kernel_rfl) (by kernel_rfl) (by kernel_rfl) (fun _ _ _ h => h) (Or.inr ⟨by rfl, rfl⟩) (by assumption) ?_
        simp only [Act.put, List.setIfInBounds_toArray, List.set_cons_zero, List.set_cons_succ]
        refine wpAnyH_take (i := 11) (oi := (⟨some 23, _, _, _, _, _⟩ : Oper)) (v := undef) rfl (by kernel_rfl) (by kernel_rfl) (by kernel_rfl) (fun _ _ _ h => h) (Or.inr ⟨by rfl, rfl⟩) (by assumption) ?_
        simp only [Act.put, List.setIfInBounds_toArray, List.set_cons_zero, List.set_cons_succ]
        refine wpAnyH_take (i := 12) (oi := (⟨some 24, _, _, _, _, _⟩ : Oper)) (v := undef) rfl (by kernel_rfl) (by kernel_rfl) (by kernel_rfl) (fun _ _ _ h => h) (Or.inr ⟨by rfl, rfl⟩) (by assumption) ?_
        simp only [Act.put, List.setIfInBounds_toArray, List.set_cons_zero, List.set_cons_succ]
        refine wpAnyH_take (i := 13) (oi := (⟨some 25, _, _, _, _, _⟩ : Oper)) (v := undef) rfl (by kernel_rfl) (by kernel_rfl) (by kernel_rfl) (fun _ _ _ h => h) (Or.inr ⟨by rfl, rfl⟩) (by assumption) ?_
        simp only [Act.put, List.setIfInBounds_toArray, List.set_cons_zero, List.set_cons_succ]
        refine wpAnyH_take (i := 14) (oi := (⟨some 26, _, _, _, _, _⟩ : Oper)) (v := undef) rfl (by kernel_rfl) (by kernel_rfl) (by kernel_rfl) (fun _ _ _ h => h) (Or.inr ⟨by rfl, rfl⟩) (by assumption) ?_
        simp only [Act.put, List.setIfInBounds_toArray, List.set_cons_zero, List.set_cons_succ]
        refine wpAnyH_take (i := 15) (oi := (⟨some 27, _, _, _, _, _⟩ : Oper)) (v := undef) rfl (by kernel_rfl) (by kernel_rfl) (by kernel_rfl) (fun _ _ _ h => h) (Or.inr ⟨by rfl, rfl⟩) (by assumption) ?_
        simp only [Act.put, List.setIfInBounds_toArray, List.set_cons_zero, List.set_cons_succ]
        refine wpAnyH_take (i := 16) (oi := (⟨some 28, _, _, _, _, _⟩ : Oper)) (v := undef) rfl (by kernel_rfl) (by kernel_rfl) (by kernel_rfl) (fun _ _ _ h => h) (Or.inr ⟨by rfl, rfl⟩) (by assumption) ?_
        simp only [Act.put, List.setIfInBounds_toArray, List.set_cons_zero, List.set_cons_succ]
        refine wpAnyH_take (i := 17) (oi := (⟨some 29, _, _, _, _, _⟩ : Oper)) (v := undef) rfl (by kernel_rfl) (by kernel_rfl) (by kernel_rfl) (fun _ _ _ h => h) (Or.inr ⟨by rfl, rfl⟩) (by assumption) ?_
        simp only [Act.put, List.setIfInBounds_toArray, List.set_cons_zero, List.set_cons_succ]
        refine wpAnyH_take (i := 18) (oi := (⟨some 30, _, _, _, _, _⟩ : Oper)) (v := undef) rfl (by kernel_rfl) (by kernel_rfl) (by kernel_rfl) (fun _ _ _ h => h) (Or.inr ⟨by rfl, rfl⟩) (by assumption) ?_
        simp only [Act.put, List.setIfInBounds_toArray, List.set_cons_zero, List.set_cons_succ]
        refine wpAnyH_take (i := 19) (oi := (⟨some 31, _, _, _, _, _⟩ : Oper)) (v := undef) rfl (by kernel_rfl) (by kernel_rfl) (by kernel_rfl) (fun _ _ _ h => h) (Or.inr ⟨by rfl, rfl⟩) (by assumption) ?_
        simp only [Act.put, List.setIfInBounds_toArray, List.set_cons_zero, List.set_cons_succ]
        refine wpAnyH_take (i := 20) (oi := (⟨some 32, _, _, _, _, _⟩ : Oper)) (v := undef) rfl (by kernel_rfl) (by kernel_rfl) (by kernel_rfl) (fun _ _ _ h => h) (Or.inr ⟨by rfl, rfl⟩) (by assumption) ?_
        simp only [Act.put, List.setIfInBounds_toArray, List.set_cons_zero, List.set_cons_succ]
        refine wpAnyH_take (i := 21) (oi := (⟨some 33, _, _, _, _, _⟩ : Oper)) (v := undef) rfl (by kernel_rfl) (by kernel_rfl) (by kernel_rfl) (fun _ _ _ h => h) (Or.inr ⟨by rfl, rfl⟩) (by assumption) ?_
        simp only [Act.put, List.setIfInBounds_toArray, List.set_cons_zero, List.set_cons_succ]
        refine wpAnyH_take (i := 22) (oi := (⟨some 34, _, _, _, _, _⟩ : Oper)) (v := undef) rfl (by kernel_rfl) (by kernel_rfl) (by kernel_rfl) (fun _ _ _ h => h) (Or.inr ⟨by rfl, rfl⟩) (by assumption) ?_
        simp only [Act.put, List.setIfInBounds_toArray, List.set_cons_zero, List.set_cons_succ]
        refine wpAnyH_take (i := 23) (oi := (⟨some 35, _, _, _, _, _⟩ : Oper)) (v := undef) rfl (by kernel_rfl) (by kernel_rfl) (by kernel_rfl) (fun _ _ _ h => h) (Or.inr ⟨by rfl, rfl⟩) (by assumption) ?_
        simp only [Act.put, List.setIfInBounds_toArray, List.set_cons_zero, List.set_cons_succ]
        refine wpAnyH_take (i := 24) (oi := (⟨some 36, _, _, _, _, _⟩ : Oper)) (v := undef) rfl (by kernel_rfl) (by kernel_rfl) (by kernel_rfl) (fun _ _ _ h => h) (Or.inr ⟨by rfl, rfl⟩) (by assumption) ?_
        simp only [Act.put, List.setIfInBounds_toArray, List.set_cons_zero, List.set_cons_succ]
        refine wpAnyH_take (i := 25) (oi := (⟨some 37, _, _, _, _, _⟩ : Oper)) (v := ?_) rfl (by kernel_rfl) (by kernel_rfl) (by kernel_rfl) (fun _ _ _ h => h) (Or.inl ⟨by rfl, ?_⟩) (by assumption) ?_
        rotate_left
        · intro wS hSw; (try dsimp only at hSw); go_simp <;> with_reducible rfl
        simp only [Act.put, List.setIfInBounds_toArray, List.set_cons_zero, List.set_cons_succ]
        refine wpAnyH_done (by kernel_rfl) ?_ _
        have HRB := Lib.hid r1
        clear r1
        go_wp2_with fail
        go_ret
        exact ⟨ret_int (by rw [HRR.out]; rfl), HB.out.trans (HRB.out.mono hsz)⟩
      | true =>
        rw [hc] at hck hst0 hst1
        rw [show er13 true = 0 from rfl] at hck
        simp only [Bool.true_and] at hst0 hst1
        have HCK := Lib.hid hck
        clear hck hc
        by_cases h0 : i = 0
        · have q0 : decide ((0 : Int) < (i : Int)) = false := decide_eq_false (by omega)
          have q0' : decide (0 < i) = false := decide_eq_false (by omega)
          have HST := Lib.hid (show (!q && N) = R by rw [hq0 h0, ← hst0 h0]; rfl)
          have KEEP := KX
          clear hst0 hst1 hq0 hpr h0
          go_wp2_with fail
          refine wp_region_held_drew (S := fun x => x.cell? ⟨w.heap.size, 0, none⟩ = some (.slice (some ⟨b, off, none⟩) l.length fc) ∧ x.cell? ⟨b, off + i * 6, none⟩ = some (.slice PA X.path.length pc) ∧ x.cell? ⟨b, off + i * 6 + 1, none⟩ = some (.string (S X.id)) ∧ x.cell? ⟨b, off + i * 6 + 2, none⟩ = some (.string (S X.title)) ∧ x.cell? ⟨b, off + i * 6 + 3, none⟩ = some (.string (S X.link)) ∧ x.cell? ⟨b, off + i * 6 + 4, none⟩ = some (.int .i64 X.upd) ∧ x.cell? ⟨b, off + i * 6 + 5, none⟩ = some (.slice EB X.ents.length ed)) (by kernel_rfl) ?_ (fun hHeld => ?_)
          · (try dsimp only); exact KEEP.out _ (Below.refl _ _).drew
          refine wpAnyH_take (i := 0) (oi := (⟨some 12, _, _, _, _, _⟩ : Oper)) (v := ?_) rfl (by kernel_rfl) (by kernel_rfl) (by kernel_rfl) (fun _ _ _ h => h) (Or.inl ⟨by rfl, ?_⟩) (by assumption) ?_
          rotate_left
          · intro wS hSw; (try dsimp only at hSw); go_simp <;> with_reducible rfl
          simp only [Act.put, List.setIfInBounds_toArray, List.set_cons_zero, List.set_cons_succ]
          refine wpAnyH_take (i := 1) (oi := (⟨some 13, _, _, _, _, _⟩ : Oper)) (v := ?_) rfl (by kernel_rfl) (by kernel_rfl) (by kernel_rfl) (fun _ _ _ h => h) (Or.inl ⟨by rfl, ?_⟩) (by assumption) ?_
          rotate_left
          · intro wS hSw; (try dsimp only at hSw); go_simp <;> with_reducible rfl
          simp only [Act.put, List.setIfInBounds_toArray, List.set_cons_zero, List.set_cons_succ]
          refine wpAnyH_take (i := 2) (oi := (⟨some 14, _, _, _, _, _⟩ : Oper)) (v := ?_) rfl (by kernel_rfl) (by kernel_rfl) (by kernel_rfl) (fun _ _ _ h => h) (Or.inl ⟨by rfl, ?_⟩) (by assumption) ?_
          rotate_left
          · intro wS hSw; (try dsimp only at hSw); go_simp <;> with_reducible rfl
          simp only [Act.put, List.setIfInBounds_toArray, List.set_cons_zero, List.set_cons_succ]
          refine wpAnyH_take (i := 3) (oi := (⟨some 15, _, _, _, _, _⟩ : Oper)) (v := ?_) rfl (by kernel_rfl) (by kernel_rfl) (by kernel_rfl) (fun _ _ _ h => h) (Or.inl ⟨by rfl, ?_⟩) (by assumption) ?_
          rotate_left
          · intro wS hSw; (try dsimp only at hSw); go_simp <;> with_reducible rfl
          simp only [Act.put, List.setIfInBounds_toArray, List.set_cons_zero, List.set_cons_succ]
          refine wpAnyH_take (i := 4) (oi := (⟨some 16, _, _, _, _, _⟩ : Oper)) (v := ?_) rfl (by kernel_rfl) (by kernel_rfl) (by kernel_rfl) (fun _ _ _ h => h) (Or.inl ⟨by rfl, ?_⟩) (by assumption) ?_
          rotate_left
          · intro wS hSw; (try dsimp only at hSw); go_simp <;> with_reducible rfl
          simp only [Act.put, List.setIfInBounds_toArray, List.set_cons_zero, List.set_cons_succ]
          refine wpAnyH_ready (rs := [5]) (by kernel_rfl) (by simp) ?_
          refine AllReadyH.cons (o := (⟨some 17, _, _, _, _, _⟩ : Oper)) rfl (fun K hK => ?_) ?_
          rotate_left
          · exact AllReadyH.nil
          go_simp
          (go_at_call 29; (with_reducible refine (HCK.out _ (Below.refl _ _).drew).mono ?_); rintro x w1 ⟨rfl, hb1⟩; have r1 := (Below.refl wr.heap.size wr).drew.trans hb1; have hz1 : wr.heap.size ≤ w1.heap.size := r1.size; clear hb1)
          refine hK.out _ _ ?_ (fun hHeld => ?_)
          · (try dsimp only); exact KEEP.out _ r1
          clear hK K
          try simp only [Act.put, List.setIfInBounds_toArray, List.set_cons_zero, List.set_cons_succ]
          refine wpAnyH_take (i := 6) (oi := (⟨some 18, _, _, _, _, _⟩ : Oper)) (v := ?_) rfl (by kernel_rfl) (by kernel_rfl) (by kernel_rfl) (fun _ _ _ h => h) (Or.inl ⟨by rfl, ?_⟩) (by assumption) ?_
          rotate_left
          · intro wS hSw; (try dsimp only at hSw); go_simp <;> with_reducible rfl
          simp only [Act.put, List.setIfInBounds_toArray, List.set_cons_zero, List.set_cons_succ]
          refine wpAnyH_take (i := 7) (oi := (⟨some 19, _, _, _, _, _⟩ : Oper)) (v := ?_) rfl (by kernel_rfl) (by kernel_rfl) (by kernel_rfl) (fun _ _ _ h => h) (Or.inl ⟨by rfl, ?_⟩) (by assumption) ?_
          rotate_left
          · intro wS hSw; (try dsimp only at hSw); go_simp <;> with_reducible rfl
          simp only [Act.put, List.setIfInBounds_toArray, List.set_cons_zero, List.set_cons_succ]
          refine wpAnyH_take (i := 8) (oi := (⟨some 20, _, _, _, _, _⟩ : Oper)) (v := ?_) rfl (by kernel_rfl) (by kernel_rfl) (by kernel_rfl) (fun _ _ _ h => h) (Or.inl ⟨by rfl, ?_⟩) (by assumption) ?_
          rotate_left
          · intro wS hSw; (try dsimp only at hSw); go_simp <;> with_reducible rfl
          simp only [Act.put, List.setIfInBounds_toArray, List.set_cons_zero, List.set_cons_succ]
          refine wpAnyH_take (i := 9) (oi := (⟨some 21, _, _, _, _, _⟩ : Oper)) (v := ?_) rfl (by kernel_rfl) (by kernel_rfl) (by kernel_rfl) (fun _ _ _ h => h) (Or.inl ⟨by rfl, ?_⟩) (by assumption) ?_
          rotate_left
          · intro wS hSw; (try dsimp only at hSw); go_simp <;> with_reducible rfl
          simp only [Act.put, List.setIfInBounds_toArray, List.set_cons_zero, List.set_cons_succ]
          refine wpAnyH_take (i := 10) (oi := (⟨some 22, _, _, _, _, _⟩ : Oper)) (v := ?_) rfl (by kernel_rfl) (by kernel_rfl) (by kernel_rfl) (fun _ _ _ h => h) (Or.inl ⟨by rfl, ?_⟩) (by assumption) ?_
          rotate_left
          · intro wS hSw; (try dsimp only at hSw); go_simp <;> with_reducible rfl
          simp only [Act.put, List.setIfInBounds_toArray, List.set_cons_zero, List.set_cons_succ]
          refine wpAnyH_take (i := 11) (oi := (⟨some 23, _, _, _, _, _⟩ : Oper)) (v := undef) rfl (by kernel_rfl) (by kernel_rfl) (by kernel_rfl) (fun _ _ _ h => h) (Or.inr ⟨by rfl, rfl⟩) (by assumption) ?_
          simp only [Act.put, List.setIfInBounds_toArray, List.set_cons_zero, List.set_cons_succ]
          refine wpAnyH_take (i := 12) (oi := (⟨some 24, _, _, _, _, _⟩ : Oper)) (v := undef) rfl (by kernel_rfl) (by kernel_rfl) (by kernel_rfl) (fun _ _ _ h => h) (Or.inr ⟨by rfl, rfl⟩) (by assumption) ?_
          simp only [Act.put, List.setIfInBounds_toArray, List.set_cons_zero, List.set_cons_succ]
          refine wpAnyH_take (i := 13) (oi := (⟨some 25, _, _, _, _, _⟩ : Oper)) (v := undef) rfl (by kernel_rfl) (by kernel_rfl) (by kernel_rfl) (fun _ _ _ h => h) (Or.inr ⟨by rfl, rfl⟩) (by assumption) ?_
          simp only [Act.put, List.setIfInBounds_toArray, List.set_cons_zero, List.set_cons_succ]
          refine wpAnyH_take (i := 14) (oi := (⟨some 26, _, _, _, _, _⟩ : Oper)) (v := undef) rfl (by kernel_rfl) (by kernel_rfl) (by kernel_rfl) (fun _ _ _ h => h) (Or.inr ⟨by rfl, rfl⟩) (by assumption) ?_
          simp only [Act.put, List.setIfInBounds_toArray, List.set_cons_zero, List.set_cons_succ]
          refine wpAnyH_take (i := 15) (oi := (⟨some 27, _, _, _, _, _⟩ : Oper)) (v := undef) rfl (by kernel_rfl) (by kernel_rfl) (by kernel_rfl) (fun _ _ _ h => h) (Or.inr ⟨by rfl, rfl⟩) (by assumption) ?_
          simp only [Act.put, List.setIfInBounds_toArray, List.set_cons_zero, List.set_cons_succ]
          refine wpAnyH_take (i := 16) (oi := (⟨some 28, _, _, _, _, _⟩ : Oper)) (v := undef) rfl (by kernel_rfl) (by kernel_rfl) (by kernel_rfl) (fun _ _ _ h => h) (Or.inr ⟨by rfl, rfl⟩) (by assumption) ?_
          simp only [Act.put, List.setIfInBounds_toArray, List.set_cons_zero, List.set_cons_succ]
          refine wpAnyH_take (i := 17) (oi := (⟨some 29, _, _, _, _, _⟩ : Oper)) (v := undef) rfl (by kernel_rfl) (by kernel_rfl) (by kernel_rfl) (fun _ _ _ h => h) (Or.inr ⟨by rfl, rfl⟩) (by assumption) ?_
          simp only [Act.put, List.setIfInBounds_toArray, List.set_cons_zero, List.set_cons_succ]
          refine wpAnyH_take (i := 18) (oi := (⟨some 30, _, _, _, _, _⟩ : Oper)) (v := undef) rfl (by kernel_rfl) (by kernel_rfl) (by kernel_rfl) (fun _ _ _ h => h) (Or.inr ⟨by rfl, rfl⟩) (by assumption) ?_
          simp only [Act.put, List.setIfInBounds_toArray, List.set_cons_zero, List.set_cons_succ]
          refine wpAnyH_take (i := 19) (oi := (⟨some 31, _, _, _, _, _⟩ : Oper)) (v := undef) rfl (by kernel_rfl) (by kernel_rfl) (by kernel_rfl) (fun _ _ _ h => h) (Or.inr ⟨by rfl, rfl⟩) (by assumption) ?_
          simp only [Act.put, List.setIfInBounds_toArray, List.set_cons_zero, List.set_cons_succ]
          refine wpAnyH_take (i := 20) (oi := (⟨some 32, _, _, _, _, _⟩ : Oper)) (v := undef) rfl (by kernel_rfl) (by kernel_rfl) (by kernel_rfl) (fun _ _ _ h => h) (Or.inr ⟨by rfl, rfl⟩) (by assumption) ?_
          simp only [Act.put, List.setIfInBounds_toArray, List.set_cons_zero, List.set_cons_succ]
          refine wpAnyH_take (i := 21) (oi := (⟨some 33, _, _, _, _, _⟩ : Oper)) (v := undef) rfl (by kernel_rfl) (by kernel_rfl) (by kernel_rfl) (fun _ _ _ h => h) (Or.inr ⟨by rfl, rfl⟩) (by assumption) ?_
          simp only [Act.put, List.setIfInBounds_toArray, List.set_cons_zero, List.set_cons_succ]
          refine wpAnyH_take (i := 22) (oi := (⟨some 34, _, _, _, _, _⟩ : Oper)) (v := undef) rfl (by kernel_rfl) (by kernel_rfl) (by kernel_rfl) (fun _ _ _ h => h) (Or.inr ⟨by rfl, rfl⟩) (by assumption) ?_
          simp only [Act.put, List.setIfInBounds_toArray, List.set_cons_zero, List.set_cons_succ]
          refine wpAnyH_take (i := 23) (oi := (⟨some 35, _, _, _, _, _⟩ : Oper)) (v := undef) rfl (by kernel_rfl) (by kernel_rfl) (by kernel_rfl) (fun _ _ _ h => h) (Or.inr ⟨by rfl, rfl⟩) (by assumption) ?_
          simp only [Act.put, List.setIfInBounds_toArray, List.set_cons_zero, List.set_cons_succ]
          refine wpAnyH_take (i := 24) (oi := (⟨some 36, _, _, _, _, _⟩ : Oper)) (v := ?_) rfl (by kernel_rfl) (by kernel_rfl) (by kernel_rfl) (fun _ _ _ h => h) (Or.inl ⟨by rfl, ?_⟩) (by assumption) ?_
          rotate_left
          · intro wS hSw; (try dsimp only at hSw); go_simp <;> with_reducible rfl
          simp only [Act.put, List.setIfInBounds_toArray, List.set_cons_zero, List.set_cons_succ]
          refine wpAnyH_take (i := 25) (oi := (⟨some 37, _, _, _, _, _⟩ : Oper)) (v := ?_) rfl (by kernel_rfl) (by kernel_rfl) (by kernel_rfl) (fun _ _ _ h => h) (Or.inl ⟨by rfl, ?_⟩) (by assumption) ?_
          rotate_left
          · intro wS hSw; (try dsimp only at hSw); go_simp <;> with_reducible rfl
          simp only [Act.put, List.setIfInBounds_toArray, List.set_cons_zero, List.set_cons_succ]
          refine wpAnyH_done (by kernel_rfl) ?_ _
          have HRB := Lib.hid r1
          have hzr : w.heap.size ≤ w1.heap.size := Nat.le_trans hsz r1.size
          have HWC := Lib.hid (HB.out.trans (r1.mono hsz))
          clear r1
          go_wp2_with fail
          obtain ⟨wo, rfl⟩ : ∃ x : World, x = wr := ⟨_, rfl⟩
          go_loopw [4] (fun j5 wr => ∃ j : Nat, j ≤ i ∧ j5 = .int .i64 j ∧ ((((l).take i).map Fe.id).drop j).contains X.id = q ∧ Below wo.heap.size wo wr) (fun j5 _ => i - (intOf j5).toNat)
          case atStart => exact ⟨0, Nat.zero_le _, rfl, HQ.out, HRB.out⟩
          case round =>
            obtain ⟨j, hj, rfl, hres, hb⟩ := hrel
            have HRQ := Lib.hid hb
            have hzq : wo.heap.size ≤ wr.heap.size := hb.size
            clear hb HRB
            by_cases hlj : j < i
            · have hlj' : (j : Int) < i := by omega
              have hjl : j < l.length := by omega
              have hjl' : (j : Int) < l.length := by omega
              have hcj := HCJ.out j hjl wr HRQ.out
              obtain ⟨c1, c2, c3⟩ := hcj
              rw [drop_ids hlj (by omega)] at hres
              generalize (l[j]'hjl).id = y at *
              by_cases hy : y = X.id
              · subst hy
                have hq : q = true := by rw [← hres]; simp
                have HRR := Lib.hid (show R = false by have := HST.out; rw [hq] at this; rw [← this]; rfl)
                clear hres hq
                go_wp2_with fail
                go_quiet (fail)
                go_wp2_with fail
                go_ret
                exact ⟨ret_int (by rw [HRR.out]; rfl), (HB.out.trans (HRQ.out.mono hsz)).trans ((below_drewN13 _ _).mono (Nat.le_trans hsz hzq))⟩
              · have t1 : (y == X.id) = false := by rw [beq_eq_false_iff_ne]; exact hy
                have t2 : (X.id == y) = false := by rw [beq_eq_false_iff_ne]; exact fun e => hy e.symm
                rw [List.contains_cons, t2, Bool.false_or] at hres
                have HRES := Lib.hid hres
                clear hres hy t2
                go_wp2_with fail
                go_quiet (fail)
                go_wp2_with fail
                go_roundw
                case rel => exact ⟨j + 1, by omega, by go_num, HRES.out, HRQ.out.trans ((below_drewN13 _ _).mono hzq)⟩
                case measure => simp [intOf]; omega
            · obtain rfl : j = i := by omega
              have hq : q = false := by rw [← hres, List.drop_of_length_le (by simp; omega)]; rfl
              have HRR := Lib.hid (show ordG vldF cmpF Fe.id ((l).take (j + 1)) ((l).drop (j + 1)) = R by have := HST.out; rw [hq, Bool.not_false, Bool.true_and] at this; rw [HN.out]; exact this)
              have hlj' : ¬ ((j : Int) < j) := by omega
              clear hres hq hlj
              go_wp2_with fail
              go_roundw
              case rel => exact ⟨j + 1, by omega, by go_num, HRR.out, HB.out.trans (HRQ.out.mono hsz), (HRQ.out.block _ hwx).trans HX.out⟩
              case measure => simp [intOf]; omega
        · have q0 : decide ((0 : Int) < (i : Int)) = true := decide_eq_true (by omega)
          have q0' : decide (0 < i) = true := decide_eq_true (by omega)
          have w1' : IntKind.i64.wrap ((i : Int) - 1) = (i : Int) - 1 := by rw [IntKind.wrap_i64]; omega
          have w2' : (0 : Int) ≤ (i : Int) - 1 := by omega
          have w3' : ((i : Int) - 1).toNat = i - 1 := by omega
          have w4' : (i : Int) - 1 < l.length := by omega
          have w5' : (1 : Int) ≤ i := by omega
          obtain ⟨ds, hpr1, hds, hpz⟩ := hpr (by omega)
          have hst := hst1 (by omega)
          generalize (l[i - 1]'(by omega)) = P at *
          have hvp : ∀ W, Below wr.heap.size wr W → FeeP W (· < W.heap.size) P ds := fun W hW => hds.keep (fun k hk => hW.block k (Nat.lt_of_lt_of_le hk hsz)) (fun k hk => Nat.lt_of_lt_of_le (Nat.lt_of_lt_of_le hk hsz) hW.size)
          obtain ⟨QA, qc, FB, fd, rfl, _, _, _, _⟩ := hds
          have hcm := fun W => fun (hW : Below wr.heap.size wr W) => refCmpFeeds_any P X _ _ W ⟨_, rfl, hvp W hW⟩ ⟨_, rfl, hvx W hW⟩ (by have := hpz.path; omega) (by have := hxs.path; omega)
          generalize cmpF P X = m at *
          have HCM := Lib.hid hcm
          have KEEP : Hid (∀ W, Below wr.heap.size wr W → (W.cell? ⟨w.heap.size, 0, none⟩ = some (.slice (some ⟨b, off, none⟩) l.length fc) ∧ W.cell? ⟨b, off + i * 6, none⟩ = some (.slice PA X.path.length pc) ∧ W.cell? ⟨b, off + i * 6 + 1, none⟩ = some (.string (S X.id)) ∧ W.cell? ⟨b, off + i * 6 + 2, none⟩ = some (.string (S X.title)) ∧ W.cell? ⟨b, off + i * 6 + 3, none⟩ = some (.string (S X.link)) ∧ W.cell? ⟨b, off + i * 6 + 4, none⟩ = some (.int .i64 X.upd) ∧ W.cell? ⟨b, off + i * 6 + 5, none⟩ = some (.slice EB X.ents.length ed)) ∧ (W.cell? ⟨b, off + (i - 1) * 6, none⟩ = some (.slice QA P.path.length qc) ∧ W.cell? ⟨b, off + (i - 1) * 6 + 1, none⟩ = some (.string (S P.id)) ∧ W.cell? ⟨b, off + (i - 1) * 6 + 2, none⟩ = some (.string (S P.title)) ∧ W.cell? ⟨b, off + (i - 1) * 6 + 3, none⟩ = some (.string (S P.link)) ∧ W.cell? ⟨b, off + (i - 1) * 6 + 4, none⟩ = some (.int .i64 P.upd) ∧ W.cell? ⟨b, off + (i - 1) * 6 + 5, none⟩ = some (.slice FB P.ents.length fd))) := fun W hW => by
            have hr2 := rangeAt_keep hpr1 (hW.block b hbl)
            exact ⟨KX.out W hW, hr2 0 _ rfl, hr2 1 _ rfl, hr2 2 _ rfl, hr2 3 _ rfl, hr2 4 _ rfl, hr2 5 _ rfl⟩
          clear hcm hpr hpr1 hst0 hst1 hq0 h0
          by_cases hm : m < 0
          · have qm : decide ((0 : Int) ≤ m) = false := decide_eq_false (by omega)
            rw [decide_eq_true hm] at hst
            simp only [Bool.true_and] at hst
            have HST := Lib.hid hst
            clear hst hm
            go_wp2_with fail
            refine wp_region_held_drew (S := fun x => (x.cell? ⟨w.heap.size, 0, none⟩ = some (.slice (some ⟨b, off, none⟩) l.length fc) ∧ x.cell? ⟨b, off + i * 6, none⟩ = some (.slice PA X.path.length pc) ∧ x.cell? ⟨b, off + i * 6 + 1, none⟩ = some (.string (S X.id)) ∧ x.cell? ⟨b, off + i * 6 + 2, none⟩ = some (.string (S X.title)) ∧ x.cell? ⟨b, off + i * 6 + 3, none⟩ = some (.string (S X.link)) ∧ x.cell? ⟨b, off + i * 6 + 4, none⟩ = some (.int .i64 X.upd) ∧ x.cell? ⟨b, off + i * 6 + 5, none⟩ = some (.slice EB X.ents.length ed)) ∧ (x.cell? ⟨b, off + (i - 1) * 6, none⟩ = some (.slice QA P.path.length qc) ∧ x.cell? ⟨b, off + (i - 1) * 6 + 1, none⟩ = some (.string (S P.id)) ∧ x.cell? ⟨b, off + (i - 1) * 6 + 2, none⟩ = some (.string (S P.title)) ∧ x.cell? ⟨b, off + (i - 1) * 6 + 3, none⟩ = some (.string (S P.link)) ∧ x.cell? ⟨b, off + (i - 1) * 6 + 4, none⟩ = some (.int .i64 P.upd) ∧ x.cell? ⟨b, off + (i - 1) * 6 + 5, none⟩ = some (.slice FB P.ents.length fd))) (by kernel_rfl) ?_ (fun hHeld => ?_)
            · (try dsimp only); exact KEEP.out _ (Below.refl _ _).drew
            refine wpAnyH_take (i := 0) (oi := (⟨some 12, _, _, _, _, _⟩ : Oper)) (v := ?_) rfl (by kernel_rfl) (by kernel_rfl) (by kernel_rfl) (fun _ _ _ h => h) (Or.inl ⟨by rfl, ?_⟩) (by assumption) ?_
            rotate_left
            · intro wS hSw; (try dsimp only at hSw); go_simp <;> with_reducible rfl
            simp only [Act.put, List.setIfInBounds_toArray, List.set_cons_zero, List.set_cons_succ]
            refine wpAnyH_take (i := 1) (oi := (⟨some 13, _, _, _, _, _⟩ : Oper)) (v := ?_) rfl (by kernel_rfl) (by kernel_rfl) (by kernel_rfl) (fun _ _ _ h => h) (Or.inl ⟨by rfl, ?_⟩) (by assumption) ?_
            rotate_left
            · intro wS hSw; (try dsimp only at hSw); go_simp <;> with_reducible rfl
            simp only [Act.put, List.setIfInBounds_toArray, List.set_cons_zero, List.set_cons_succ]
            refine wpAnyH_take (i := 2) (oi := (⟨some 14, _, _, _, _, _⟩ : Oper)) (v := ?_) rfl (by kernel_rfl) (by kernel_rfl) (by kernel_rfl) (fun _ _ _ h => h) (Or.inl ⟨by rfl, ?_⟩) (by assumption) ?_
            rotate_left
            · intro wS hSw; (try dsimp only at hSw); go_simp <;> with_reducible rfl
            simp only [Act.put, List.setIfInBounds_toArray, List.set_cons_zero, List.set_cons_succ]
            refine wpAnyH_take (i := 3) (oi := (⟨some 15, _, _, _, _, _⟩ : Oper)) (v := ?_) rfl (by kernel_rfl) (by kernel_rfl) (by kernel_rfl) (fun _ _ _ h => h) (Or.inl ⟨by rfl, ?_⟩) (by assumption) ?_
            rotate_left
            · intro wS hSw; (try dsimp only at hSw); go_simp <;> with_reducible rfl
            simp only [Act.put, List.setIfInBounds_toArray, List.set_cons_zero, List.set_cons_succ]
            refine wpAnyH_take (i := 4) (oi := (⟨some 16, _, _, _, _, _⟩ : Oper)) (v := ?_) rfl (by kernel_rfl) (by kernel_rfl) (by kernel_rfl) (fun _ _ _ h => h) (Or.inl ⟨by rfl, ?_⟩) (by assumption) ?_
            rotate_left
            · intro wS hSw; (try dsimp only at hSw); go_simp <;> with_reducible rfl
            simp only [Act.put, List.setIfInBounds_toArray, List.set_cons_zero, List.set_cons_succ]
            refine wpAnyH_ready (rs := [5]) (by kernel_rfl) (by simp) ?_
            refine AllReadyH.cons (o := (⟨some 17, _, _, _, _, _⟩ : Oper)) rfl (fun K hK => ?_) ?_
            rotate_left
            · exact AllReadyH.nil
            go_simp
            (go_at_call 29; (with_reducible refine (HCK.out _ (Below.refl _ _).drew).mono ?_); rintro x w1 ⟨rfl, hb1⟩; have r1 := (Below.refl wr.heap.size wr).drew.trans hb1; have hz1 : wr.heap.size ≤ w1.heap.size := r1.size; clear hb1)
            refine hK.out _ _ ?_ (fun hHeld => ?_)
            · (try dsimp only); exact KEEP.out _ r1
            clear hK K
            try simp only [Act.put, List.setIfInBounds_toArray, List.set_cons_zero, List.set_cons_succ]
            refine wpAnyH_take (i := 6) (oi := (⟨some 18, _, _, _, _, _⟩ : Oper)) (v := ?_) rfl (by kernel_rfl) (by kernel_rfl) (by kernel_rfl) (fun _ _ _ h => h) (Or.inl ⟨by rfl, ?_⟩) (by assumption) ?_
            rotate_left
            · intro wS hSw; (try dsimp only at hSw); go_simp <;> with_reducible rfl
            simp only [Act.put, List.setIfInBounds_toArray, List.set_cons_zero, List.set_cons_succ]
            refine wpAnyH_take (i := 7) (oi := (⟨some 19, _, _, _, _, _⟩ : Oper)) (v := ?_) rfl (by kernel_rfl) (by kernel_rfl) (by kernel_rfl) (fun _ _ _ h => h) (Or.inl ⟨by rfl, ?_⟩) (by assumption) ?_
            rotate_left
            · intro wS hSw; (try dsimp only at hSw); go_simp <;> with_reducible rfl
            simp only [Act.put, List.setIfInBounds_toArray, List.set_cons_zero, List.set_cons_succ]
            refine wpAnyH_take (i := 8) (oi := (⟨some 20, _, _, _, _, _⟩ : Oper)) (v := ?_) rfl (by kernel_rfl) (by kernel_rfl) (by kernel_rfl) (fun _ _ _ h => h) (Or.inl ⟨by rfl, ?_⟩) (by assumption) ?_
            rotate_left
            · intro wS hSw; (try dsimp only at hSw); go_simp <;> with_reducible rfl
            simp only [Act.put, List.setIfInBounds_toArray, List.set_cons_zero, List.set_cons_succ]
            refine wpAnyH_take (i := 9) (oi := (⟨some 21, _, _, _, _, _⟩ : Oper)) (v := ?_) rfl (by kernel_rfl) (by kernel_rfl) (by kernel_rfl) (fun _ _ _ h => h) (Or.inl ⟨by rfl, ?_⟩) (by assumption) ?_
            rotate_left
            · intro wS hSw; (try dsimp only at hSw); go_simp <;> with_reducible rfl
            simp only [Act.put, List.setIfInBounds_toArray, List.set_cons_zero, List.set_cons_succ]
            refine wpAnyH_take (i := 10) (oi := (⟨some 22, _, _, _, _, _⟩ : Oper)) (v := ?_) rfl (by kernel_rfl) (by kernel_rfl) (by kernel_rfl) (fun _ _ _ h => h) (Or.inl ⟨by rfl, ?_⟩) (by assumption) ?_
            rotate_left
            · intro wS hSw; (try dsimp only at hSw); go_simp <;> with_reducible rfl
            simp only [Act.put, List.setIfInBounds_toArray, List.set_cons_zero, List.set_cons_succ]
            refine wpAnyH_take (i := 11) (oi := (⟨some 23, _, _, _, _, _⟩ : Oper)) (v := ?_) rfl (by kernel_rfl) (by kernel_rfl) (by kernel_rfl) (fun _ _ _ h => h) (Or.inl ⟨by rfl, ?_⟩) (by assumption) ?_
            rotate_left
            · intro wS hSw; (try dsimp only at hSw); go_simp <;> with_reducible rfl
            simp only [Act.put, List.setIfInBounds_toArray, List.set_cons_zero, List.set_cons_succ]
            refine wpAnyH_take (i := 12) (oi := (⟨some 24, _, _, _, _, _⟩ : Oper)) (v := ?_) rfl (by kernel_rfl) (by kernel_rfl) (by kernel_rfl) (fun _ _ _ h => h) (Or.inl ⟨by rfl, ?_⟩) (by assumption) ?_
            rotate_left
            · intro wS hSw; (try dsimp only at hSw); go_simp <;> with_reducible rfl
            simp only [Act.put, List.setIfInBounds_toArray, List.set_cons_zero, List.set_cons_succ]
            refine wpAnyH_take (i := 13) (oi := (⟨some 25, _, _, _, _, _⟩ : Oper)) (v := ?_) rfl (by kernel_rfl) (by kernel_rfl) (by kernel_rfl) (fun _ _ _ h => h) (Or.inl ⟨by rfl, ?_⟩) (by assumption) ?_
            rotate_left
            · intro wS hSw; (try dsimp only at hSw); go_simp <;> with_reducible rfl
            simp only [Act.put, List.setIfInBounds_toArray, List.set_cons_zero, List.set_cons_succ]
            refine wpAnyH_take (i := 14) (oi := (⟨some 26, _, _, _, _, _⟩ : Oper)) (v := ?_) rfl (by kernel_rfl) (by kernel_rfl) (by kernel_rfl) (fun _ _ _ h => h) (Or.inl ⟨by rfl, ?_⟩) (by assumption) ?_
            rotate_left
            · intro wS hSw; (try dsimp only at hSw); go_simp <;> with_reducible rfl
            simp only [Act.put, List.setIfInBounds_toArray, List.set_cons_zero, List.set_cons_succ]
            refine wpAnyH_take (i := 15) (oi := (⟨some 27, _, _, _, _, _⟩ : Oper)) (v := ?_) rfl (by kernel_rfl) (by kernel_rfl) (by kernel_rfl) (fun _ _ _ h => h) (Or.inl ⟨by rfl, ?_⟩) (by assumption) ?_
            rotate_left
            · intro wS hSw; (try dsimp only at hSw); go_simp <;> with_reducible rfl
            simp only [Act.put, List.setIfInBounds_toArray, List.set_cons_zero, List.set_cons_succ]
            refine wpAnyH_take (i := 16) (oi := (⟨some 28, _, _, _, _, _⟩ : Oper)) (v := ?_) rfl (by kernel_rfl) (by kernel_rfl) (by kernel_rfl) (fun _ _ _ h => h) (Or.inl ⟨by rfl, ?_⟩) (by assumption) ?_
            rotate_left
            · intro wS hSw; (try dsimp only at hSw); go_simp <;> with_reducible rfl
            simp only [Act.put, List.setIfInBounds_toArray, List.set_cons_zero, List.set_cons_succ]
            refine wpAnyH_take (i := 17) (oi := (⟨some 29, _, _, _, _, _⟩ : Oper)) (v := ?_) rfl (by kernel_rfl) (by kernel_rfl) (by kernel_rfl) (fun _ _ _ h => h) (Or.inl ⟨by rfl, ?_⟩) (by assumption) ?_
            rotate_left
            · intro wS hSw; (try dsimp only at hSw); go_simp <;> with_reducible rfl
            simp only [Act.put, List.setIfInBounds_toArray, List.set_cons_zero, List.set_cons_succ]
            refine wpAnyH_take (i := 18) (oi := (⟨some 30, _, _, _, _, _⟩ : Oper)) (v := ?_) rfl (by kernel_rfl) (by kernel_rfl) (by kernel_rfl) (fun _ _ _ h => h) (Or.inl ⟨by rfl, ?_⟩) (by assumption) ?_
            rotate_left
            · intro wS hSw; (try dsimp only at hSw); go_simp <;> with_reducible rfl
            simp only [Act.put, List.setIfInBounds_toArray, List.set_cons_zero, List.set_cons_succ]
            refine wpAnyH_take (i := 19) (oi := (⟨some 31, _, _, _, _, _⟩ : Oper)) (v := ?_) rfl (by kernel_rfl) (by kernel_rfl) (by kernel_rfl) (fun _ _ _ h => h) (Or.inl ⟨by rfl, ?_⟩) (by assumption) ?_
            rotate_left
            · intro wS hSw; (try dsimp only at hSw); go_simp <;> with_reducible rfl
            simp only [Act.put, List.setIfInBounds_toArray, List.set_cons_zero, List.set_cons_succ]
            refine wpAnyH_take (i := 20) (oi := (⟨some 32, _, _, _, _, _⟩ : Oper)) (v := ?_) rfl (by kernel_rfl) (by kernel_rfl) (by kernel_rfl) (fun _ _ _ h => h) (Or.inl ⟨by rfl, ?_⟩) (by assumption) ?_
            rotate_left
            · intro wS hSw; (try dsimp only at hSw); go_simp <;> with_reducible rfl
            simp only [Act.put, List.setIfInBounds_toArray, List.set_cons_zero, List.set_cons_succ]
            refine wpAnyH_take (i := 21) (oi := (⟨some 33, _, _, _, _, _⟩ : Oper)) (v := ?_) rfl (by kernel_rfl) (by kernel_rfl) (by kernel_rfl) (fun _ _ _ h => h) (Or.inl ⟨by rfl, ?_⟩) (by assumption) ?_
            rotate_left
            · intro wS hSw; (try dsimp only at hSw); go_simp <;> with_reducible rfl
            simp only [Act.put, List.setIfInBounds_toArray, List.set_cons_zero, List.set_cons_succ]
            refine wpAnyH_ready (rs := [22]) (by kernel_rfl) (by simp) ?_
            refine AllReadyH.cons (o := (⟨some 34, _, _, _, _, _⟩ : Oper)) rfl (fun K hK => ?_) ?_
            rotate_left
            · exact AllReadyH.nil
            go_simp
            (go_at_call 47; (with_reducible refine (HCM.out _ r1).mono ?_); rintro x w2 ⟨rfl, hb2⟩; have r2 := r1.trans (hb2.mono hz1); have hz2 : wr.heap.size ≤ w2.heap.size := r2.size; clear hb2)
            refine hK.out _ _ ?_ (fun hHeld => ?_)
            · (try dsimp only); exact KEEP.out _ r2
            clear hK K
            try simp only [Act.put, List.setIfInBounds_toArray, List.set_cons_zero, List.set_cons_succ]
            refine wpAnyH_take (i := 23) (oi := (⟨some 35, _, _, _, _, _⟩ : Oper)) (v := ?_) rfl (by kernel_rfl) (by kernel_rfl) (by kernel_rfl) (fun _ _ _ h => h) (Or.inl ⟨by rfl, ?_⟩) (by assumption) ?_
            rotate_left
            · intro wS hSw; (try dsimp only at hSw); go_simp <;> with_reducible rfl
            simp only [Act.put, List.setIfInBounds_toArray, List.set_cons_zero, List.set_cons_succ]
            refine wpAnyH_take (i := 24) (oi := (⟨some 36, _, _, _, _, _⟩ : Oper)) (v := ?_) rfl (by kernel_rfl) (by kernel_rfl) (by kernel_rfl) (fun _ _ _ h => h) (Or.inl ⟨by rfl, ?_⟩) (by assumption) ?_
            rotate_left
            · intro wS hSw; (try dsimp only at hSw); go_simp <;> with_reducible rfl
            simp only [Act.put, List.setIfInBounds_toArray, List.set_cons_zero, List.set_cons_succ]
            refine wpAnyH_take (i := 25) (oi := (⟨some 37, _, _, _, _, _⟩ : Oper)) (v := ?_) rfl (by kernel_rfl) (by kernel_rfl) (by kernel_rfl) (fun _ _ _ h => h) (Or.inl ⟨by rfl, ?_⟩) (by assumption) ?_
            rotate_left
            · intro wS hSw; (try dsimp only at hSw); go_simp <;> with_reducible rfl
            simp only [Act.put, List.setIfInBounds_toArray, List.set_cons_zero, List.set_cons_succ]
            refine wpAnyH_done (by kernel_rfl) ?_ _
            clear w1' w2' w3' w4' w5'
            have HRB := Lib.hid r2
            have hzr : w.heap.size ≤ w2.heap.size := Nat.le_trans hsz r2.size
            have HWC := Lib.hid (HB.out.trans (r2.mono hsz))
            clear r2
            go_wp2_with fail
            obtain ⟨wo, rfl⟩ : ∃ x : World, x = wr := ⟨_, rfl⟩
            go_loopw [4] (fun j5 wr => ∃ j : Nat, j ≤ i ∧ j5 = .int .i64 j ∧ ((((l).take i).map Fe.id).drop j).contains X.id = q ∧ Below wo.heap.size wo wr) (fun j5 _ => i - (intOf j5).toNat)
            case atStart => exact ⟨0, Nat.zero_le _, rfl, HQ.out, HRB.out⟩
            case round =>
              obtain ⟨j, hj, rfl, hres, hb⟩ := hrel
              have HRQ := Lib.hid hb
              have hzq : wo.heap.size ≤ wr.heap.size := hb.size
              clear hb HRB
              by_cases hlj : j < i
              · have hlj' : (j : Int) < i := by omega
                have hjl : j < l.length := by omega
                have hjl' : (j : Int) < l.length := by omega
                have hcj := HCJ.out j hjl wr HRQ.out
                obtain ⟨c1, c2, c3⟩ := hcj
                rw [drop_ids hlj (by omega)] at hres
                generalize (l[j]'hjl).id = y at *
                by_cases hy : y = X.id
                · subst hy
                  have hq : q = true := by rw [← hres]; simp
                  have HRR := Lib.hid (show R = false by have := HST.out; rw [hq] at this; rw [← this]; rfl)
                  clear hres hq
                  go_wp2_with fail
                  go_quiet (fail)
                  go_wp2_with fail
                  go_ret
                  exact ⟨ret_int (by rw [HRR.out]; rfl), (HB.out.trans (HRQ.out.mono hsz)).trans ((below_drewN13 _ _).mono (Nat.le_trans hsz hzq))⟩
                · have t1 : (y == X.id) = false := by rw [beq_eq_false_iff_ne]; exact hy
                  have t2 : (X.id == y) = false := by rw [beq_eq_false_iff_ne]; exact fun e => hy e.symm
                  rw [List.contains_cons, t2, Bool.false_or] at hres
                  have HRES := Lib.hid hres
                  clear hres hy t2
                  go_wp2_with fail
                  go_quiet (fail)
                  go_wp2_with fail
                  go_roundw
                  case rel => exact ⟨j + 1, by omega, by go_num, HRES.out, HRQ.out.trans ((below_drewN13 _ _).mono hzq)⟩
                  case measure => simp [intOf]; omega
              · obtain rfl : j = i := by omega
                have hq : q = false := by rw [← hres, List.drop_of_length_le (by simp; omega)]; rfl
                have HRR := Lib.hid (show ordG vldF cmpF Fe.id ((l).take (j + 1)) ((l).drop (j + 1)) = R by have := HST.out; rw [hq, Bool.not_false, Bool.true_and] at this; rw [HN.out]; exact this)
                have hlj' : ¬ ((j : Int) < j) := by omega
                clear hres hq hlj
                go_wp2_with fail
                go_roundw
                case rel => exact ⟨j + 1, by omega, by go_num, HRR.out, HB.out.trans (HRQ.out.mono hsz), (HRQ.out.block _ hwx).trans HX.out⟩
                case measure => simp [intOf]; omega
          · have qm : decide ((0 : Int) ≤ m) = true := decide_eq_true (by omega)
            rw [decide_eq_false hm] at hst
            have hr : R = false := by rw [← hst]; rfl
            have HRR := Lib.hid hr
            clear hst hr hm
            go_wp2_with fail
            refine wp_region_held_drew (S := fun x => (x.cell? ⟨w.heap.size, 0, none⟩ = some (.slice (some ⟨b, off, none⟩) l.length fc) ∧ x.cell? ⟨b, off + i * 6, none⟩ = some (.slice PA X.path.length pc) ∧ x.cell? ⟨b, off + i * 6 + 1, none⟩ = some (.string (S X.id)) ∧ x.cell? ⟨b, off + i * 6 + 2, none⟩ = some (.string (S X.title)) ∧ x.cell? ⟨b, off + i * 6 + 3, none⟩ = some (.string (S X.link)) ∧ x.cell? ⟨b, off + i * 6 + 4, none⟩ = some (.int .i64 X.upd) ∧ x.cell? ⟨b, off + i * 6 + 5, none⟩ = some (.slice EB X.ents.length ed)) ∧ (x.cell? ⟨b, off + (i - 1) * 6, none⟩ = some (.slice QA P.path.length qc) ∧ x.cell? ⟨b, off + (i - 1) * 6 + 1, none⟩ = some (.string (S P.id)) ∧ x.cell? ⟨b, off + (i - 1) * 6 + 2, none⟩ = some (.string (S P.title)) ∧ x.cell? ⟨b, off + (i - 1) * 6 + 3, none⟩ = some (.string (S P.link)) ∧ x.cell? ⟨b, off + (i - 1) * 6 + 4, none⟩ = some (.int .i64 P.upd) ∧ x.cell? ⟨b, off + (i - 1) * 6 + 5, none⟩ = some (.slice FB P.ents.length fd))) (by kernel_rfl) ?_ (fun hHeld => ?_)
            · (try dsimp only); exact KEEP.out _ (Below.refl _ _).drew
            refine wpAnyH_take (i := 0) (oi := (⟨some 12, _, _, _, _, _⟩ : Oper)) (v := ?_) rfl (by kernel_rfl) (by kernel_rfl) (by kernel_rfl) (fun _ _ _ h => h) (Or.inl ⟨by rfl, ?_⟩) (by assumption) ?_
            rotate_left
            · intro wS hSw; (try dsimp only at hSw); go_simp <;> with_reducible rfl
            simp only [Act.put, List.setIfInBounds_toArray, List.set_cons_zero, List.set_cons_succ]
            refine wpAnyH_take (i := 1) (oi := (⟨some 13, _, _, _, _, _⟩ : Oper)) (v := ?_) rfl (by kernel_rfl) (by kernel_rfl) (by kernel_rfl) (fun _ _ _ h => h) (Or.inl ⟨by rfl, ?_⟩) (by assumption) ?_
            rotate_left
            · intro wS hSw; (try dsimp only at hSw); go_simp <;> with_reducible rfl
            simp only [Act.put, List.setIfInBounds_toArray, List.set_cons_zero, List.set_cons_succ]
            refine wpAnyH_take (i := 2) (oi := (⟨some 14, _, _, _, _, _⟩ : Oper)) (v := ?_) rfl (by kernel_rfl) (by kernel_rfl) (by kernel_rfl) (fun _ _ _ h => h) (Or.inl ⟨by rfl, ?_⟩) (by assumption) ?_
            rotate_left
            · intro wS hSw; (try dsimp only at hSw); go_simp <;> with_reducible rfl
            simp only [Act.put, List.setIfInBounds_toArray, List.set_cons_zero, List.set_cons_succ]
            refine wpAnyH_take (i := 3) (oi := (⟨some 15, _, _, _, _, _⟩ : Oper)) (v := ?_) rfl (by kernel_rfl) (by kernel_rfl) (by kernel_rfl) (fun _ _ _ h => h) (Or.inl ⟨by rfl, ?_⟩) (by assumption) ?_
            rotate_left
            · intro wS hSw; (try dsimp only at hSw); go_simp <;> with_reducible rfl
            simp only [Act.put, List.setIfInBounds_toArray, List.set_cons_zero, List.set_cons_succ]
            refine wpAnyH_take (i := 4) (oi := (⟨some 16, _, _, _, _, _⟩ : Oper)) (v := ?_) rfl (by kernel_rfl) (by kernel_rfl) (by kernel_rfl) (fun _ _ _ h => h) (Or.inl ⟨by rfl, ?_⟩) (by assumption) ?_
            rotate_left
            · intro wS hSw; (try dsimp only at hSw); go_simp <;> with_reducible rfl
            simp only [Act.put, List.setIfInBounds_toArray, List.set_cons_zero, List.set_cons_succ]
            refine wpAnyH_ready (rs := [5]) (by kernel_rfl) (by simp) ?_
            refine AllReadyH.cons (o := (⟨some 17, _, _, _, _, _⟩ : Oper)) rfl (fun K hK => ?_) ?_
            rotate_left
            · exact AllReadyH.nil
            go_simp
            (go_at_call 29; (with_reducible refine (HCK.out _ (Below.refl _ _).drew).mono ?_); rintro x w1 ⟨rfl, hb1⟩; have r1 := (Below.refl wr.heap.size wr).drew.trans hb1; have hz1 : wr.heap.size ≤ w1.heap.size := r1.size; clear hb1)
            refine hK.out _ _ ?_ (fun hHeld => ?_)
            · (try dsimp only); exact KEEP.out _ r1
            clear hK K
            try simp only [Act.put, List.setIfInBounds_toArray, List.set_cons_zero, List.set_cons_succ]
            refine wpAnyH_take (i := 6) (oi := (⟨some 18, _, _, _, _, _⟩ : Oper)) (v := ?_) rfl (by kernel_rfl) (by kernel_rfl) (by kernel_rfl) (fun _ _ _ h => h) (Or.inl ⟨by rfl, ?_⟩) (by assumption) ?_
            rotate_left
            · intro wS hSw; (try dsimp only at hSw); go_simp <;> with_reducible rfl
            simp only [Act.put, List.setIfInBounds_toArray, List.set_cons_zero, List.set_cons_succ]
            refine wpAnyH_take (i := 7) (oi := (⟨some 19, _, _, _, _, _⟩ : Oper)) (v := ?_) rfl (by kernel_rfl) (by kernel_rfl) (by kernel_rfl) (fun _ _ _ h => h) (Or.inl ⟨by rfl, ?_⟩) (by assumption) ?_
            rotate_left
            · intro wS hSw; (try dsimp only at hSw); go_simp <;> with_reducible rfl
            simp only [Act.put, List.setIfInBounds_toArray, List.set_cons_zero, List.set_cons_succ]
            refine wpAnyH_take (i := 8) (oi := (⟨some 20, _, _, _, _, _⟩ : Oper)) (v := ?_) rfl (by kernel_rfl) (by kernel_rfl) (by kernel_rfl) (fun _ _ _ h => h) (Or.inl ⟨by rfl, ?_⟩) (by assumption) ?_
            rotate_left
            · intro wS hSw; (try dsimp only at hSw); go_simp <;> with_reducible rfl
            simp only [Act.put, List.setIfInBounds_toArray, List.set_cons_zero, List.set_cons_succ]
            refine wpAnyH_take (i := 9) (oi := (⟨some 21, _, _, _, _, _⟩ : Oper)) (v := ?_) rfl (by kernel_rfl) (by kernel_rfl) (by kernel_rfl) (fun _ _ _ h => h) (Or.inl ⟨by rfl, ?_⟩) (by assumption) ?_
            rotate_left
            · intro wS hSw; (try dsimp only at hSw); go_simp <;> with_reducible rfl
            simp only [Act.put, List.setIfInBounds_toArray, List.set_cons_zero, List.set_cons_succ]
            refine wpAnyH_take (i := 10) (oi := (⟨some 22, _, _, _, _, _⟩ : Oper)) (v := ?_) rfl (by kernel_rfl) (by kernel_rfl) (by kernel_rfl) (fun _ _ _ h => h) (Or.inl ⟨by rfl, ?_⟩) (by assumption) ?_
            rotate_left
            · intro wS hSw; (try dsimp only at hSw); go_simp <;> with_reducible rfl
            simp only [Act.put, List.setIfInBounds_toArray, List.set_cons_zero, List.set_cons_succ]
            refine wpAnyH_take (i := 11) (oi := (⟨some 23, _, _, _, _, _⟩ : Oper)) (v := ?_) rfl (by kernel_rfl) (by kernel_rfl) (by kernel_rfl) (fun _ _ _ h => h) (Or.inl ⟨by rfl, ?_⟩) (by assumption) ?_
            rotate_left
            · intro wS hSw; (try dsimp only at hSw); go_simp <;> with_reducible rfl
            simp only [Act.put, List.setIfInBounds_toArray, List.set_cons_zero, List.set_cons_succ]
            refine wpAnyH_take (i := 12) (oi := (⟨some 24, _, _, _, _, _⟩ : Oper)) (v := ?_) rfl (by kernel_rfl) (by kernel_rfl) (by kernel_rfl) (fun _ _ _ h => h) (Or.inl ⟨by rfl, ?_⟩) (by assumption) ?_
            rotate_left
            · intro wS hSw; (try dsimp only at hSw); go_simp <;> with_reducible rfl
            simp only [Act.put, List.setIfInBounds_toArray, List.set_cons_zero, List.set_cons_succ]
            refine wpAnyH_take (i := 13) (oi := (⟨some 25, _, _, _, _, _⟩ : Oper)) (v := ?_) rfl (by kernel_rfl) (by kernel_rfl) (by kernel_rfl) (fun _ _ _ h => h) (Or.inl ⟨by rfl, ?_⟩) (by assumption) ?_
            rotate_left
            · intro wS hSw; (try dsimp only at hSw); go_simp <;> with_reducible rfl
            simp only [Act.put, List.setIfInBounds_toArray, List.set_cons_zero, List.set_cons_succ]
            refine wpAnyH_take (i := 14) (oi := (⟨some 26, _, _, _, _, _⟩ : Oper)) (v := ?_) rfl (by kernel_rfl) (by kernel_rfl) (by kernel_rfl) (fun _ _ _ h => h) (Or.inl ⟨by rfl, ?_⟩) (by assumption) ?_
            rotate_left
            · intro wS hSw; (try dsimp only at hSw); go_simp <;> with_reducible rfl
            simp only [Act.put, List.setIfInBounds_toArray, List.set_cons_zero, List.set_cons_succ]
            refine wpAnyH_take (i := 15) (oi := (⟨some 27, _, _, _, _, _⟩ : Oper)) (v := ?_) rfl (by kernel_rfl) (by kernel_rfl) (by kernel_rfl) (fun _ _ _ h => h) (Or.inl ⟨by rfl, ?_⟩) (by assumption) ?_
            rotate_left
            · intro wS hSw; (try dsimp only at hSw); go_simp <;> with_reducible rfl
            simp only [Act.put, List.setIfInBounds_toArray, List.set_cons_zero, List.set_cons_succ]
            refine wpAnyH_take (i := 16) (oi := (⟨some 28, _, _, _, _, _⟩ : Oper)) (v := ?_) rfl (by kernel_rfl) (by kernel_rfl) (by kernel_rfl) (fun _ _ _ h => h) (Or.inl ⟨by rfl, ?_⟩) (by assumption) ?_
            rotate_left
            · intro wS hSw; (try dsimp only at hSw); go_simp <;> with_reducible rfl
            simp only [Act.put, List.setIfInBounds_toArray, List.set_cons_zero, List.set_cons_succ]
            refine wpAnyH_take (i := 17) (oi := (⟨some 29, _, _, _, _, _⟩ : Oper)) (v := ?_) rfl (by kernel_rfl) (by kernel_rfl) (by kernel_rfl) (fun _ _ _ h => h) (Or.inl ⟨by rfl, ?_⟩) (by assumption) ?_
            rotate_left
            · intro wS hSw; (try dsimp only at hSw); go_simp <;> with_reducible rfl
            simp only [Act.put, List.setIfInBounds_toArray, List.set_cons_zero, List.set_cons_succ]
            refine wpAnyH_take (i := 18) (oi := (⟨some 30, _, _, _, _, _⟩ : Oper)) (v := ?_) rfl (by kernel_rfl) (by kernel_rfl) (by kernel_rfl) (fun _ _ _ h => h) (Or.inl ⟨by rfl, ?_⟩) (by assumption) ?_
            rotate_left
            · intro wS hSw; (try dsimp only at hSw); go_simp <;> with_reducible rfl
            simp only [Act.put, List.setIfInBounds_toArray, List.set_cons_zero, List.set_cons_succ]
            refine wpAnyH_take (i := 19) (oi := (⟨some 31, _, _, _, _, _⟩ : Oper)) (v := ?_) rfl (by kernel_rfl) (by kernel_rfl) (by kernel_rfl) (fun _ _ _ h => h) (Or.inl ⟨by rfl, ?_⟩) (by assumption) ?_
            rotate_left
            · intro wS hSw; (try dsimp only at hSw); go_simp <;> with_reducible rfl
            simp only [Act.put, List.setIfInBounds_toArray, List.set_cons_zero, List.set_cons_succ]
            refine wpAnyH_take (i := 20) (oi := (⟨some 32, _, _, _, _, _⟩ : Oper)) (v := ?_) rfl (by kernel_rfl) (by kernel_rfl) (by kernel_rfl) (fun _ _ _ h => h) (Or.inl ⟨by rfl, ?_⟩) (by assumption) ?_
            rotate_left
            · intro wS hSw; (try dsimp only at hSw); go_simp <;> with_reducible rfl
            simp only [Act.put, List.setIfInBounds_toArray, List.set_cons_zero, List.set_cons_succ]
            refine wpAnyH_take (i := 21) (oi := (⟨some 33, _, _, _, _, _⟩ : Oper)) (v := ?_) rfl (by kernel_rfl) (by kernel_rfl) (by kernel_rfl) (fun _ _ _ h => h) (Or.inl ⟨by rfl, ?_⟩) (by assumption) ?_
            rotate_left
            · intro wS hSw; (try dsimp only at hSw); go_simp <;> with_reducible rfl
            simp only [Act.put, List.setIfInBounds_toArray, List.set_cons_zero, List.set_cons_succ]
            refine wpAnyH_ready (rs := [22]) (by kernel_rfl) (by simp) ?_
            refine AllReadyH.cons (o := (⟨some 34, _, _, _, _, _⟩ : Oper)) rfl (fun K hK => ?_) ?_
            rotate_left
            · exact AllReadyH.nil
            go_simp
            (go_at_call 47; (with_reducible refine (HCM.out _ r1).mono ?_); rintro x w2 ⟨rfl, hb2⟩; have r2 := r1.trans (hb2.mono hz1); have hz2 : wr.heap.size ≤ w2.heap.size := r2.size; clear hb2)
            refine hK.out _ _ ?_ (fun hHeld => ?_)
            · (try dsimp only); exact KEEP.out _ r2
            clear hK K
            try simp only [Act.put, List.setIfInBounds_toArray, List.set_cons_zero, List.set_cons_succ]
            refine wpAnyH_take (i := 23) (oi := (⟨some 35, _, _, _, _, _⟩ : Oper)) (v := ?_) rfl (by kernel_rfl) (by kernel_rfl) (by kernel_rfl) (fun _ _ _ h => h) (Or.inl ⟨by rfl, ?_⟩) (by assumption) ?_
            rotate_left
            · intro wS hSw; (try dsimp only at hSw); go_simp <;> with_reducible rfl
            simp only [Act.put, List.setIfInBounds_toArray, List.set_cons_zero, List.set_cons_succ]
            refine wpAnyH_take (i := 24) (oi := (⟨some 36, _, _, _, _, _⟩ : Oper)) (v := ?_) rfl (by kernel_rfl) (by kernel_rfl) (by kernel_rfl) (fun _ _ _ h => h) (Or.inl ⟨by rfl, ?_⟩) (by assumption) ?_
            rotate_left
            · intro wS hSw; (try dsimp only at hSw); go_simp <;> with_reducible rfl
            simp only [Act.put, List.setIfInBounds_toArray, List.set_cons_zero, List.set_cons_succ]
            refine wpAnyH_take (i := 25) (oi := (⟨some 37, _, _, _, _, _⟩ : Oper)) (v := ?_) rfl (by kernel_rfl) (by kernel_rfl) (by kernel_rfl) (fun _ _ _ h => h) (Or.inl ⟨by rfl, ?_⟩) (by assumption) ?_
            rotate_left
            · intro wS hSw; (try dsimp only at hSw); go_simp <;> with_reducible rfl
            simp only [Act.put, List.setIfInBounds_toArray, List.set_cons_zero, List.set_cons_succ]
            refine wpAnyH_done (by kernel_rfl) ?_ _
            have HRB := Lib.hid r2
            clear r2
            go_wp2_with fail
            go_ret
            exact ⟨ret_int (by rw [HRR.out]; rfl), HB.out.trans (HRB.out.mono hsz)⟩
    · obtain rfl : i = l.length := by omega
      rw [ordG_end] at hres
      subst hres
      have hlt' : ¬ ((l.length : Int) < l.length) := by omega
      go_wp2_with fail
      go_ret
      exact ⟨rfl, HB.out⟩
end Go.Proofs.YtadkgjbidhfefaaDoor
set_option linter.unusedVariables false
namespace Go.Proofs.YtadkgjbidhfefaaDoor
open Go.RowKit

theorem h2a (W : World) (A B : Obj) (n : Nat) (hn : W.heap.size = n) : ((W.alloc A).alloc B).heap[n]? = some A := by
  subst hn; exact (Below.heap_alloc _ _ _ (by simp)).trans (heap_alloc_new W A)
theorem h2b (W : World) (A B : Obj) (n : Nat) (hn : W.heap.size + 1 = n) : ((W.alloc A).alloc B).heap[n]? = some B := by
  subst hn; have := heap_alloc_new (W.alloc A) B; simpa using this
theorem els_one13 {W : World} {b : Nat} {s0 : Bytes} (hb : W.heap[b]? = some (.cells #[.string (S s0)] 9)) : ElsP strE W (· < W.heap.size) (.slice (some ⟨b, 0, none⟩) 1 1) [s0] :=
  ⟨_, 1, rfl, Nat.le_refl _, .inr ⟨b, 0, rfl, heap_lt hb, fun i a hi => ⟨_, rfl, fun j v hj => by
    match j, hj with
    | 0, hj =>
      simp at hj; subst hj
      rw [Lib.cell_of_heap hb]
      match i, hi with
      | 0, hi => simp at hi; subst hi; rfl
      | i + 1, hi => simp at hi
    | j + 1, hj => simp at hj⟩⟩⟩
theorem els_two13 {W : World} {b : Nat} {s0 s1 : Bytes} (hb : W.heap[b]? = some (.cells #[.string (S s0), .string (S s1)] 9)) : ElsP strE W (· < W.heap.size) (.slice (some ⟨b, 0, none⟩) 2 2) [s0, s1] :=
  ⟨_, 2, rfl, Nat.le_refl _, .inr ⟨b, 0, rfl, heap_lt hb, fun i a hi => ⟨_, rfl, fun j v hj => by
    match j, hj with
    | 0, hj =>
      simp at hj; subst hj
      rw [Lib.cell_of_heap hb]
      match i, hi with
      | 0, hi => simp at hi; subst hi; rfl
      | 1, hi => simp at hi; subst hi; rfl
      | i + 2, hi => simp at hi
    | j + 1, hj => simp at hj⟩⟩⟩
def xE : En := ⟨[120], [], [], [], 7⟩
def aE : En := ⟨[97], [], [], [], 0⟩
def bE : En := ⟨[98], [], [], [], 0⟩
def zE : En := ⟨[], [], [], [], 0⟩
def fF : Fe := ⟨[], [102], [], [], 0, []⟩
theorem dec_one_dig (n : Nat) (h : n < 10) : Lib.itoa (n : Int) = [UInt8.ofNat (48 + n)] := by
  unfold Lib.itoa
  rw [if_neg (by omega)]
  exact Lib.decDigits_one h
theorem xE_key : keyOf (entVal xE) = [91, 34, 120, 34, 44, 34, 34, 44, 34, 34, 44, 34, 34, 44, 55, 93] := by
  rw [key_ent, show Lib.itoa xE.upd = [55] from dec_one_dig 7 (by decide)]
  decide +kernel
theorem later_ab : lat3 cmpK aE bE = bE := by
  have ha : kE aE = [91, 34, 97, 34, 44, 34, 34, 44, 34, 34, 44, 34, 34, 44, 48, 93] := by
    unfold kE
    rw [key_ent, show Lib.itoa aE.upd = [48] from dec_one_dig 0 (by decide)]
    decide +kernel
  have hb : kE bE = [91, 34, 98, 34, 44, 34, 34, 44, 34, 34, 44, 34, 34, 44, 48, 93] := by
    unfold kE
    rw [key_ent, show Lib.itoa bE.upd = [48] from dec_one_dig 0 (by decide)]
    decide +kernel
  unfold lat3 cmpK lex3
  simp only [ha, hb]
  rw [show cmpI aE.upd bE.upd = 0 from rfl]
  rfl
theorem fF_ok : ordFs [fF] = true := by decide +kernel
theorem zE_no : vldE zE = false := rfl

set_option maxHeartbeats 4000000 in
set_option maxRecDepth 100000 in
theorem alive13_any (w : World) (hT : TabJ w) : Calls Tryd.prog 27 #[] w fun e w' => e = .returned (.bool true) ∧ Below w.heap.size w w' := by
  have h1 : ∀ (W : World) (a b : Nat), W.heap[a]? = some (.cells #[.string ⟨#[97]⟩, .string ⟨#[98]⟩] 9) → W.heap[b]? = some (.cells #[.string ⟨#[97]⟩, .string ⟨#[98]⟩, .string ⟨#[99]⟩] 9) →
      Calls Tryd.prog 36 #[.slice (some ⟨a, 0, none⟩) 2 2, .slice (some ⟨b, 0, none⟩) 3 3] W fun e w' => e = .returned (.int .i64 (-1)) ∧ w' = W := fun W a b ha hb =>
    cmpPaths_any [[97], [98]] [[97], [98], [99]] _ _ W _ (els_two13 ha) (els_three hb) (by decide) (by decide)
  have h2 : ∀ (W : World) (a b : Nat), W.heap[a]? = some (.cells #[.string ⟨#[97]⟩, .string ⟨#[98]⟩, .string ⟨#[99]⟩] 9) → W.heap[b]? = some (.cells #[.string ⟨#[98]⟩] 9) →
      Calls Tryd.prog 36 #[.slice (some ⟨a, 0, none⟩) 3 3, .slice (some ⟨b, 0, none⟩) 1 1] W fun e w' => e = .returned (.int .i64 (-1)) ∧ w' = W := fun W a b ha hb =>
    cmpPaths_any [[97], [98], [99]] [[98]] _ _ W _ (els_three ha) (els_one13 hb) (by decide) (by decide)
  have h3 : ∀ W : World, Calls Tryd.prog 37 #[.agg #[.string ⟨#[]⟩, .string ⟨#[]⟩, .string ⟨#[]⟩, .string ⟨#[]⟩, .int .i64 5], .agg #[.string ⟨#[]⟩, .string ⟨#[]⟩, .string ⟨#[]⟩, .string ⟨#[]⟩, .int .i64 4]] W fun e w' => e = .returned (.int .i64 (-1)) ∧ Below W.heap.size W w' := fun W =>
    cmpEntries_any ⟨[], [], [], [], 5⟩ ⟨[], [], [], [], 4⟩ W
  have h4 : ∀ W : World, Below w.heap.size w W → Calls Tryd.prog 41 #[.agg #[.string ⟨#[120]⟩, .string ⟨#[]⟩, .string ⟨#[]⟩, .string ⟨#[]⟩, .int .i64 7]] W fun e w' => e = .returned (.string ⟨#[91, 34, 120, 34, 44, 34, 34, 44, 34, 34, 44, 34, 34, 44, 55, 93]⟩) ∧ Below W.heap.size W w' := fun W hW => by
    have := entryKey_any xE W (hT.next hW) (by constructor <;> decide) (by decide)
    rw [xE_key] at this
    exact this
  have h5 : ∀ (W : World) (b : Nat), Below w.heap.size w W → W.heap[b]? = some (.cells #[.slice none 0 0, .string ⟨#[102]⟩, .string ⟨#[]⟩, .string ⟨#[]⟩, .int .i64 0, .slice none 0 0] 55) →
      Calls Tryd.prog 32 #[.agg #[.slice (some ⟨b, 0, none⟩) 1 1]] W fun e w' => e = .returned (.int .i64 0) ∧ Below W.heap.size W w' := fun W b hW hb => by
    have := checkA_any [fF] (.slice (some ⟨b, 0, none⟩) 1 1) W (hT.next hW) ⟨_, 1, rfl, Nat.le_refl _, .inr ⟨b, 0, rfl, heap_lt hb, fun i a hi => by
      match i, hi with
      | 0, hi =>
        simp at hi; subst hi
        exact ⟨_, ⟨none, 0, none, 0, rfl, ElsP.nil _ _ _, ElsP.nil _ _ _, Nat.le_refl _, Nat.le_refl _⟩, (show W.rangeAt b (0 + 0 * 6) _ from range_of_heap hb)⟩
      | i + 1, hi => simp at hi⟩⟩ (by decide) (fun f hf => by
        rw [List.mem_singleton.1 hf]
        exact ⟨by decide, by decide, by decide, (fun e he => by cases he), by decide⟩)
    rw [fF_ok] at this
    exact this
  have h6 : ∀ W : World, Below w.heap.size w W → Calls Tryd.prog 30 #[.agg #[.string ⟨#[]⟩, .string ⟨#[]⟩, .string ⟨#[]⟩, .string ⟨#[]⟩, .int .i64 0]] W fun e w' => e = .returned (.int .i64 22) ∧ Below W.heap.size W w' := fun W hW =>
    checkEntry_any zE W (hT.next hW) (by decide)
  have h7 : ∀ W : World, Below w.heap.size w W → Calls Tryd.prog 38 #[.agg #[.string ⟨#[97]⟩, .string ⟨#[]⟩, .string ⟨#[]⟩, .string ⟨#[]⟩, .int .i64 0], .agg #[.string ⟨#[98]⟩, .string ⟨#[]⟩, .string ⟨#[]⟩, .string ⟨#[]⟩, .int .i64 0]] W fun e w' => e = .returned (.agg #[.string ⟨#[98]⟩, .string ⟨#[]⟩, .string ⟨#[]⟩, .string ⟨#[]⟩, .int .i64 0]) ∧ Below W.heap.size W w' := fun W hW => by
    have := laterEntry_any aE bE W (hT.next hW) (by constructor <;> decide) (by constructor <;> decide) (by decide) (by decide)
    rw [later_ab] at this
    exact this
  have hfld : ∀ W : World, (Instr.field 59 (.agg #[.string ⟨#[98]⟩, .string ⟨#[]⟩, .string ⟨#[]⟩, .string ⟨#[]⟩, .int .i64 0]) 0).run Tryd.prog W = .ok (.string ⟨#[98]⟩) W := fun W => by kernel_rfl
  have H1 := Lib.hid h1
  have H2 := Lib.hid h2
  have H3 := Lib.hid h3
  have H4 := Lib.hid h4
  have H5 := Lib.hid h5
  have H6 := Lib.hid h6
  have H7 := Lib.hid h7
  clear h1 h2 h3 h4 h5 h6 h7 hT
  go_enter Tryd.func27, Tryd.ntmps27
  go_wp2_with fail
  refine (H1.out _ _ _ ?_ ?_).mono ?_
  · exact h2a _ _ _ _ (by simp)
  · exact h2b _ _ _ _ (by simp)
  rintro e w1 ⟨rfl, rfl⟩
  go_wp2_with fail
  refine (H2.out _ _ _ ?_ ?_).mono ?_
  · exact h2a _ _ _ _ (by simp)
  · exact h2b _ _ _ _ (by simp)
  rintro e w2 ⟨rfl, rfl⟩
  have B2 : ∀ A B C D : Obj, Below w.heap.size w ((((w.alloc A).alloc B).alloc C).alloc D) := fun A B C D => ((((Below.refl _ _).alloc (Nat.le_refl _) A).alloc (by simp) B).alloc (by simp; omega) C).alloc (by simp; omega) D
  have HB2 := Lib.hid B2
  clear B2
  go_wp2_with fail
  refine (H3.out _).mono ?_
  rintro e w3 ⟨rfl, hb3⟩
  have B3 := Lib.hid ((HB2.out _ _ _ _).trans (hb3.mono (by simp; omega)))
  clear hb3
  go_wp2_with fail
  refine (H4.out _ B3.out).mono ?_
  rintro e w4 ⟨rfl, hb4⟩
  have B4 := Lib.hid (B3.out.trans (hb4.mono B3.out.size))
  clear hb4
  go_wp2_with fail
  refine (H5.out _ _ (B4.out.alloc B4.out.size _) (heap_alloc_new w4 _)).mono ?_
  rintro e w5 ⟨rfl, hb5⟩
  have B5 := Lib.hid ((B4.out.alloc B4.out.size _).trans (hb5.mono (by have := B4.out.size; simp; omega)))
  clear hb5
  go_wp2_with fail
  refine (H6.out _ B5.out).mono ?_
  rintro e w6 ⟨rfl, hb6⟩
  have B6 := Lib.hid (B5.out.trans (hb6.mono B5.out.size))
  clear hb6
  go_wp2_with fail
  refine (H7.out _ B6.out).mono ?_
  rintro e w7 ⟨rfl, hb7⟩
  go_wp2_with fail
  go_ret
  exact ⟨rfl, B6.out.trans (hb7.mono B6.out.size)⟩
end Go.Proofs.YtadkgjbidhfefaaDoor
set_option linter.unusedVariables false
namespace Go.Proofs.YtadkgjbidhfefaaDoor
open Go.RowKit

@[go_sem] theorem min_one13 (n : Nat) : min (n : Int) 9000 = (c9 n : Nat) := by unfold c9; omega
@[go_sem] theorem min_three13 (a b c : Nat) : min ((a : Int) + b + c) 9000 = (c9 (a + b + c) : Nat) := by unfold c9; omega
@[go_sem] theorem min_four13 (a b c d : Nat) : min ((a : Int) + b + c + d) 9000 = (c9 (a + b + c + d) : Nat) := by unfold c9; omega
/-- Paths. -/
def wtP : Nat → List Bytes → Nat
  | n, [] => n
  | n, s :: l => wtP (n + (1 + c9 s.length)) l
/-- Entries: none where it has grown too large. -/
def wtE : Nat → List En → Option Nat
  | n, [] => some n
  | n, e :: l => if 5000 < n + (1 + c9 (esz e)) then none else wtE (n + (1 + c9 (esz e))) l
/-- Feeds: is the archive too large? -/
def wtF : Nat → List Fe → Bool
  | _, [] => false
  | n, f :: l => match wtE (wtP (n + (1 + c9 (f.id.length + f.title.length + f.link.length))) f.path) f.ents with
    | none => true
    | some m => if 5000 < m then true else wtF m l
theorem wtP_le : ∀ (n : Nat) (l : List Bytes), n + l.length ≤ wtP n l ∧ (wtP n l ≤ 5000 → n + (l.map List.length).sum + l.length ≤ wtP n l)
  | n, [] => by simp [wtP]
  | n, s :: l => by
    rw [wtP]
    have := wtP_le (n + (1 + c9 s.length)) l
    refine ⟨by simp only [List.length_cons]; omega, fun h => ?_⟩
    have h2 := this.2 h
    have h3 := c9_small (n := s.length) (by omega)
    simp only [List.map_cons, List.sum_cons, List.length_cons]
    omega
theorem wtP_max : ∀ (n : Nat) (l : List Bytes), wtP n l ≤ n + 9001 * l.length
  | n, [] => by simp [wtP]
  | n, s :: l => by
    rw [wtP]
    have := wtP_max (n + (1 + c9 s.length)) l
    have h2 := c9_le s.length
    simp only [List.length_cons]
    omega
theorem wtE_some : ∀ {n : Nat} {l : List En} {m : Nat}, wtE n l = some m → n + l.length ≤ m ∧ (l ≠ [] → m ≤ 5000) ∧ ∀ e ∈ l, esz e ≤ 5000
  | n, [], m, h => by
    rw [wtE] at h
    cases h
    exact ⟨by simp, fun h => absurd rfl h, fun e he => by cases he⟩
  | n, e :: l, m, h => by
    rw [wtE] at h
    split at h
    · cases h
    · rename_i hn
      obtain ⟨h1, h2, h3⟩ := wtE_some h
      have h4 := c9_small (n := esz e) (by omega)
      refine ⟨by simp only [List.length_cons]; omega, fun _ => ?_, fun x hx => ?_⟩
      · cases l with
        | nil => rw [wtE] at h; cases h; omega
        | cons y l => exact h2 (by simp)
      · rcases List.mem_cons.1 hx with rfl | hx
        · omega
        · exact h3 x hx
theorem wtF_no : ∀ {n : Nat} {l : List Fe}, wtF n l = false → n ≤ 5000 → n + l.length ≤ 5000 ∧ ∀ f ∈ l, FSz f
  | n, [], h, hn => ⟨by simpa using hn, fun f hf => by cases hf⟩
  | n, f :: l, h, hn => by
    rw [wtF] at h
    split at h
    · cases h
    · rename_i m hm
      split at h
      · cases h
      · rename_i h5
        obtain ⟨h1, h2⟩ := wtF_no h (by omega)
        obtain ⟨e1, e2, e3⟩ := wtE_some hm
        have p1 := wtP_le (n + (1 + c9 (f.id.length + f.title.length + f.link.length))) f.path
        have p2 := p1.2 (by omega)
        have p3 := c9_small (n := f.id.length + f.title.length + f.link.length) (by omega)
        refine ⟨by simp only [List.length_cons]; omega, fun x hx => ?_⟩
        rcases List.mem_cons.1 hx with rfl | hx
        · exact ⟨by omega, by omega, by omega, fun e he => by have := e3 e he; omega, by omega⟩
        · exact h2 x hx
/-- What memory allows. -/
def FLen (f : Fe) : Prop := (f.path.length ≤ 8796093022207 ∧ f.id.length ≤ 140737488351232 ∧ f.title.length ≤ 140737488351232 ∧ f.link.length ≤ 140737488351232) ∧ (∀ s ∈ f.path, s.length ≤ 140737488351232) ∧ f.ents.length ≤ 2600000000000 ∧ ∀ e ∈ f.ents, e.id.length ≤ 140737488351232 ∧ e.title.length ≤ 140737488351232 ∧ e.link.length ≤ 140737488351232 ∧ e.content.length ≤ 140737488351232

set_option maxHeartbeats 16000000 in
set_option maxRecDepth 100000 in
theorem tooLarge13_any (l : List Fe) (u : Value) (w : World) (h : ElsP feeE w (· < w.heap.size) u l) (hl : l.length ≤ 2600000000000) (hs : ∀ f ∈ l, FLen f) :
    Calls Tryd.prog 26 #[.agg #[u]] w fun x w' => x = .returned (.int .i64 (if wtF 0 l = true then 1 else 0)) ∧ Below w.heap.size w w' := by
  obtain ⟨FA, fc, rfl, _⟩ := h.slice
  obtain ⟨Q, hQ⟩ : ∃ Q, wtF 0 l = Q := ⟨_, rfl⟩
  rw [hQ]
  have HL := Lib.hid h
  have HS := Lib.hid hs
  have HQ := Lib.hid (show wtF 0 (l.drop 0) = Q from hQ)
  have W0 := Lib.hid (show Below w.heap.size w (w.alloc (.cells #[.slice FA l.length fc] 50)) from (Below.refl _ _).alloc (Nat.le_refl _) _)
  clear h hs hQ
  go_enter Tryd.func26, Tryd.ntmps26
  go_wp2_with fail
  go_loopw [3, 13] (fun s3 i13 wr => ∃ i n : Nat, i ≤ l.length ∧ i13 = .int .i64 i ∧ s3 = .int .i64 n ∧ n ≤ 5000 ∧ wtF n (l.drop i) = Q ∧ Below w.heap.size w wr) (fun _ i13 _ => l.length - (intOf i13).toNat)
  case atStart => exact ⟨0, 0, Nat.zero_le _, rfl, rfl, by omega, HQ.out, W0.out⟩
  case round =>
    obtain ⟨i, n, hi, rfl, rfl, hn, hres, hb⟩ := hrel
    have HB := Lib.hid hb
    have hsz := hb.size
    clear hb HQ W0
    by_cases hlt : i < l.length
    · have hlt' : (i : Int) < l.length := by omega
      obtain ⟨b, off, cs, rfl, hpb, hr, hcs⟩ := (HL.out.keep feeE_ok HB.out.block (fun _ h => h)).at_ hlt
      rw [List.drop_eq_getElem_cons hlt, wtF] at hres
      have hxs := HS.out _ (List.getElem_mem hlt)
      generalize l[i] = X at *
      have hcs' : FeeP wr (· < w.heap.size) X cs := hcs
      obtain ⟨PA, pc, EA, ec, rfl, hpp, hee, _, _⟩ := hcs'
      have HP := Lib.hid hpp
      have HE := Lib.hid hee
      have HR1 := Lib.hid hr
      obtain ⟨⟨x0, x1, x2, x3⟩, x4, x5, x6⟩ := hxs
      have HX4 := Lib.hid x4
      have HX6 := Lib.hid x6
      have c1 := c9_le (X.id.length + X.title.length + X.link.length)
      obtain ⟨T, hT⟩ : ∃ T, wtP (n + (1 + c9 (X.id.length + X.title.length + X.link.length))) X.path = T := ⟨_, rfl⟩
      rw [hT] at hres
      have hTm := wtP_max (n + (1 + c9 (X.id.length + X.title.length + X.link.length))) X.path
      rw [hT] at hTm
      have HT := Lib.hid (show wtP (n + (1 + c9 (X.id.length + X.title.length + X.link.length))) (X.path.drop 0) = T from hT)
      have HRES := Lib.hid hres
      have hTb : T ≤ 100000000000000000 := by omega
      have hW1 : Below w.heap.size w (wr.alloc (feeBox X PA pc EA ec)) := HB.out.alloc hsz _
      have HW1 := Lib.hid hW1
      have HX1 := Lib.hid (heap_alloc_new wr (feeBox X PA pc EA ec))
      clear hr hcs hpp hee x4 x6 hT hTm hres hW1
      obtain ⟨k0, k1, k2, k3, k4, k5⟩ := cells6 HX1.out
      go_wp2_with (with_reducible refine gate ?_; refine wp_load_fee rfl _ rfl b (off + i * 6) rfl _ rfl HR1.out ?_)
      clear k0 k1 k2 k3 k4 k5
      obtain ⟨wo, rfl⟩ : ∃ x : World, x = wr := ⟨_, rfl⟩
      go_loop [3, 35] (fun s3 i35 => ∃ j m : Nat, j ≤ X.path.length ∧ i35 = .int .i64 j ∧ s3 = .int .i64 m ∧ wtP m (X.path.drop j) = T) (fun _ i35 => X.path.length - (intOf i35).toNat)
      case atStart => exact ⟨0, _, Nat.zero_le _, rfl, val_int (by omega), HT.out⟩
      case round =>
        obtain ⟨j, m, hj, rfl, rfl, hpt⟩ := hrel
        have hm := (wtP_le m (X.path.drop j)).1
        rw [hpt] at hm
        have hm2 : m ≤ 100000000000000000 := by omega
        clear hm HT
        by_cases hlj : j < X.path.length
        · have hlj' : (j : Int) < X.path.length := by omega
          obtain ⟨pb, po, rfl, _, hc1⟩ := strs_cell (HP.out.keep strE_ok (w' := wo.alloc (feeBox X PA pc EA ec)) (fun k hk => Below.heap_alloc _ _ _ (Nat.lt_of_lt_of_le hk hsz)) (fun _ h => h)) hlj
          rw [List.drop_eq_getElem_cons hlj, wtP] at hpt
          have hsl := HX4.out _ (List.getElem_mem hlj)
          generalize X.path[j] = sx at *
          have c2 := c9_le sx.length
          have HPT := Lib.hid hpt
          clear hpt
          go_wp2_with fail
          go_round
          case rel => exact ⟨j + 1, m + (1 + c9 sx.length), by omega, by go_num, val_int (by omega), HPT.out⟩
          case measure => simp [intOf]; omega
        · obtain rfl : j = X.path.length := by omega
          rw [List.drop_length, wtP] at hpt
          obtain rfl : m = T := hpt
          have hlj' : ¬ ((X.path.length : Int) < X.path.length) := by omega
          obtain ⟨O, hO⟩ : ∃ O, wtE m X.ents = O := ⟨_, rfl⟩
          have hres2 := HRES.out
          rw [hO] at hres2
          have HO := Lib.hid (show wtE m (X.ents.drop 0) = O from hO)
          have HRES2 := Lib.hid hres2
          clear hO hres2 HRES hlj hTb
          obtain ⟨k0, k1, k2, k3, k4, k5⟩ := cells6 HX1.out
          go_wp2_with fail
          clear k0 k1 k2 k3 k4 k5
          go_loopw [3, 49] (fun s3 i49 wr => ∃ j n : Nat, j ≤ X.ents.length ∧ i49 = .int .i64 j ∧ s3 = .int .i64 n ∧ n ≤ 100000000000000000 ∧ wtE n (X.ents.drop j) = O ∧ Below w.heap.size w wr ∧ Below wo.heap.size wo wr) (fun _ i49 _ => X.ents.length - (intOf i49).toNat)
          case atStart => exact ⟨0, m, Nat.zero_le _, rfl, rfl, hm2, HO.out, HW1.out, (Below.refl _ _).alloc (Nat.le_refl _) _⟩
          case round =>
            obtain ⟨j, n2, hj2, rfl, rfl, hn2, hen, hb2, hbo⟩ := hrel
            have HB2 := Lib.hid hb2
            have HBO := Lib.hid hbo
            have hsz2 := hb2.size
            have hsz3 := hbo.size
            clear hb2 hbo HO
            by_cases hlj : j < X.ents.length
            · have hlj' : (j : Int) < X.ents.length := by omega
              obtain ⟨eb, eo, rfl, _, her⟩ := ents_at (HE.out.keep entE_ok (fun k hk => HBO.out.block k (Nat.lt_of_lt_of_le hk hsz)) (fun _ h => h)) hlj
              rw [List.drop_eq_getElem_cons hlj, wtE] at hen
              have hel := HX6.out _ (List.getElem_mem hlj)
              generalize X.ents[j] = e at *
              unfold esz at hen
              obtain ⟨y0, y1, y2, y3⟩ := hel
              have c2 := c9_le (e.id.length + e.title.length + e.link.length + e.content.length)
              have HER := Lib.hid her
              clear her
              by_cases hbig : 5000 < n2 + (1 + c9 (e.id.length + e.title.length + e.link.length + e.content.length))
              · rw [if_pos hbig] at hen
                have hq : Q = true := by rw [← HRES2.out, ← hen]
                have HQ1 := Lib.hid hq
                have q : (5000 : Int) < (n2 : Int) + (1 + (c9 (e.id.length + e.title.length + e.link.length + e.content.length) : Nat)) := by omega
                clear hq hen hbig
                go_wp2_with (with_reducible refine gate ?_; refine wp_load_ent rfl _ rfl eb (eo + j * 5) rfl _ rfl HER.out ?_)
                go_ret
                exact ⟨ret_int (by first | rfl | (rw [HQ1.out]; rfl)), HB2.out.alloc hsz2 _⟩
              · rw [if_neg hbig] at hen
                have HEN := Lib.hid hen
                have q : ¬ ((5000 : Int) < (n2 : Int) + (1 + (c9 (e.id.length + e.title.length + e.link.length + e.content.length) : Nat))) := by omega
                have hn3 : n2 + (1 + c9 (e.id.length + e.title.length + e.link.length + e.content.length)) ≤ 100000000000000000 := by omega
                clear hen
                go_wp2_with (with_reducible refine gate ?_; refine wp_load_ent rfl _ rfl eb (eo + j * 5) rfl _ rfl HER.out ?_)
                go_roundw
                case rel => exact ⟨j + 1, n2 + (1 + c9 (e.id.length + e.title.length + e.link.length + e.content.length)), by omega, by go_num, val_int (by omega), hn3, HEN.out, HB2.out.alloc hsz2 _, HBO.out.alloc hsz3 _⟩
                case measure => simp [intOf]; omega
            · obtain rfl : j = X.ents.length := by omega
              rw [List.drop_length, wtE] at hen
              have hr3 := HRES2.out
              rw [← hen] at hr3
              have hlj' : ¬ ((X.ents.length : Int) < X.ents.length) := by omega
              by_cases hbig : 5000 < n2
              · simp only [if_pos hbig] at hr3
                have HQ1 := Lib.hid hr3.symm
                have q : (5000 : Int) < n2 := by omega
                clear hr3 hen hbig
                go_wp2_with fail
                go_ret
                exact ⟨ret_int (by first | rfl | (rw [HQ1.out]; rfl)), HB2.out⟩
              · simp only [if_neg hbig] at hr3
                have HQ1 := Lib.hid hr3
                have q : ¬ (5000 : Int) < n2 := by omega
                have hn4 : n2 ≤ 5000 := by omega
                clear hr3 hen hbig
                go_wp2_with fail
                go_roundw
                case rel => exact ⟨i + 1, n2, by omega, by go_num, rfl, hn4, HQ1.out, HB2.out⟩
                case measure => simp [intOf]; omega
    · obtain rfl : i = l.length := by omega
      rw [List.drop_length, wtF] at hres
      subst hres
      have hlt' : ¬ ((l.length : Int) < l.length) := by omega
      go_wp2_with fail
      go_ret
      exact ⟨rfl, HB.out⟩
end Go.Proofs.YtadkgjbidhfefaaDoor
set_option linter.unusedVariables false
namespace Go.Proofs.YtadkgjbidhfefaaDoor
open Go.RowKit

abbrev arcBox (A : Option Addr) (n c : Nat) : Obj := .cells #[.slice A n c] 50
theorem arc_cell {w : World} {g : Nat} {A : Option Addr} {n c : Nat} (h : w.heap[g]? = some (arcBox A n c)) : w.cell? ⟨g, 0, none⟩ = some (.slice A n c) := by rw [Lib.cell_of_heap h]; rfl
set_option maxHeartbeats 16000000 in
set_option maxRecDepth 100000 in
theorem law13checks_any (l : List Fe) (u : Value) (w : World) (hT : TabJ w) (h : ElsP feeE w (· < w.heap.size) u l) (hl : l.length ≤ 2600000000000) (hs : ∀ f ∈ l, FLen f) :
    Calls Tryd.prog 7 #[.agg #[u]] w fun e w' => e = .returned (.bool true) ∧ Below w.heap.size w w' := by
  have hal := fun W => fun (hW : Below w.heap.size w W) => alive13_any W (hT.next hW)
  have htl := fun W => fun (hW : Below w.heap.size w W) => tooLarge13_any l u W (h.keep feeE_ok hW.block (fun k hk => Nat.lt_of_lt_of_le hk hW.size)) hl hs
  have HAL := Lib.hid hal
  have hll := h
  obtain ⟨FA, fc, rfl, _⟩ := h.slice
  have F1 : Hid (∀ o, Below w.heap.size w (w.alloc o)) := fun o => (Below.refl _ _).alloc (Nat.le_refl _) o
  have HX0 := Lib.hid (heap_alloc_new w (arcBox FA l.length fc))
  cases hq : wtF 0 l with
  | true =>
    rw [hq] at htl
    simp only [if_true] at htl
    have HTL := Lib.hid htl
    have k0 := arc_cell HX0.out
    clear hal htl hT h hll hl hs hq
    go_enter Tryd.func7, Tryd.ntmps7
    go_wp2_with (first
      | (go_at_call 26; refine (HTL.out _ (F1.out _)).mono ?_; rintro e w1 ⟨rfl, hb1⟩; have hb1' := (F1.out _).trans (hb1.mono (show w.heap.size ≤ (w.alloc _).heap.size by simp)))
      | (go_at_call 27; refine (HAL.out _ hb1').mono ?_; rintro e w2 ⟨rfl, hb2⟩))
    go_ret
    exact ⟨rfl, hb1'.trans (hb2.mono hb1'.size)⟩
  | false =>
    rw [hq] at htl
    simp only [Bool.false_eq_true, if_false] at htl
    have hno := wtF_no hq (by omega)
    have hca := fun W => fun (hW : Below w.heap.size w W) => checkA_any l _ W (hT.next hW) (hll.keep feeE_ok hW.block (fun k hk => Nat.lt_of_lt_of_le hk hW.size)) (by omega) hno.2
    have hra := fun W => fun (hW : Below w.heap.size w W) => refCheckA_any l _ W (hll.keep feeE_ok hW.block (fun k hk => Nat.lt_of_lt_of_le hk hW.size)) (by omega) hno.2
    generalize er13 (ordFs l) = EA0 at *
    have HTL := Lib.hid htl
    have HCA := Lib.hid hca
    have HRA := Lib.hid hra
    have HL := Lib.hid hll
    have HS := Lib.hid hno.2
    have HT := Lib.hid hT
    have k0 := arc_cell HX0.out
    have hlen : l.length ≤ 5000 := by have := hno.1; omega
    clear hal htl hT h hll hl hs hq hca hra hno
    go_enter Tryd.func7, Tryd.ntmps7
    go_wp2_with (go_at_call 26; refine (HTL.out _ (F1.out _)).mono ?_; rintro e w1 ⟨rfl, hb1⟩; have HB1 := Lib.hid ((F1.out (arcBox FA l.length fc)).trans (hb1.mono (show w.heap.size ≤ (w.alloc _).heap.size by simp))); have HX1 := Lib.hid ((hb1.block w.heap.size (by simp)).trans HX0.out); have k1 := arc_cell HX1.out; clear hb1)
    clear k0 k1
    go_loopw [14] (fun i14 wr => ∃ i : Nat, i ≤ l.length ∧ i14 = .int .i64 i ∧ Below w.heap.size w wr ∧ wr.heap[w.heap.size]? = some (arcBox FA l.length fc)) (fun i14 _ => l.length - (intOf i14).toNat)
    case atStart => exact ⟨0, Nat.zero_le _, rfl, HB1.out, HX1.out⟩
    case round =>
      obtain ⟨i, hi, rfl, hb, hX⟩ := hrel
      have HB := Lib.hid hb
      have HX := Lib.hid hX
      have hsz := hb.size
      have hwx := heap_lt hX
      have k0 := arc_cell hX
      clear hb hX HB1 HX1 HX0
      by_cases hlt : i < l.length
      · have hlt' : (i : Int) < l.length := by omega
        obtain ⟨b, off, cs, rfl, hpb, hr, hcs⟩ := fees_at (HL.out.keep feeE_ok HB.out.block (fun _ h => h)) hlt
        have hxs := HS.out _ (List.getElem_mem hlt)
        generalize l[i] = X at *
        have hvx : ∀ W, Below wr.heap.size wr W → FeeP W (· < W.heap.size) X cs := fun W hW => hcs.keep (fun k hk => hW.block k (Nat.lt_of_lt_of_le hk hsz)) (fun k hk => Nat.lt_of_lt_of_le (Nat.lt_of_lt_of_le hk hsz) hW.size)
        obtain ⟨PA, pc, EA, ec, rfl, hpp, hee, _, _⟩ := hcs
        have hck := fun W => fun (hW : Below wr.heap.size wr W) => checkFeed_any X _ W (HT.out.next (HB.out.trans (hW.mono hsz))) hxs ⟨_, rfl, hvx W hW⟩
        have hrk := fun W => fun (hW : Below wr.heap.size wr W) => refCheckFeed_any X _ W hxs ⟨_, rfl, hvx W hW⟩
        generalize er13 (vldF X) = EF at *
        have HCK := Lib.hid hck
        have HRK := Lib.hid hrk
        have HR1 := Lib.hid hr
        have HE := Lib.hid hee
        have HXS := Lib.hid hxs
        have HWR := Lib.hid (show Below wr.heap.size wr (wr.alloc (feeBox X PA pc EA ec)) from (Below.refl _ _).alloc (Nat.le_refl _) _)
        have KEEP : Hid (∀ W, Below (wr.heap.size + 1) (wr.alloc (feeBox X PA pc EA ec)) W → W.cell? ⟨wr.heap.size, 0, none⟩ = some (.slice PA X.path.length pc) ∧ W.cell? ⟨wr.heap.size, 1, none⟩ = some (.string (S X.id)) ∧ W.cell? ⟨wr.heap.size, 2, none⟩ = some (.string (S X.title)) ∧ W.cell? ⟨wr.heap.size, 3, none⟩ = some (.string (S X.link)) ∧ W.cell? ⟨wr.heap.size, 4, none⟩ = some (.int .i64 X.upd) ∧ W.cell? ⟨wr.heap.size, 5, none⟩ = some (.slice EA X.ents.length ec)) := fun W hW =>
          cells6 ((hW.block wr.heap.size (by omega)).trans (heap_alloc_new wr (feeBox X PA pc EA ec)))
        have hel : X.ents.length ≤ 1000000 := hxs.many
        clear hck hrk hr hee hvx hpp hxs k0
        go_wp2_with (with_reducible refine gate ?_; refine wp_load_fee rfl _ rfl b (off + i * 6) rfl _ rfl HR1.out ?_)
        go_region_held3 (fun x => x.cell? ⟨wr.heap.size, 0, none⟩ = some (.slice PA X.path.length pc) ∧ x.cell? ⟨wr.heap.size, 1, none⟩ = some (.string (S X.id)) ∧ x.cell? ⟨wr.heap.size, 2, none⟩ = some (.string (S X.title)) ∧ x.cell? ⟨wr.heap.size, 3, none⟩ = some (.string (S X.link)) ∧ x.cell? ⟨wr.heap.size, 4, none⟩ = some (.int .i64 X.upd) ∧ x.cell? ⟨wr.heap.size, 5, none⟩ = some (.slice EA X.ents.length ec))
          (first | exact KEEP.out _ r2 | exact KEEP.out _ r1 | exact KEEP.out _ (Below.refl _ _).drew)
          (first
            | ((go_at_call 28; (with_reducible refine (HCK.out _ (HWR.out.trans (r1.mono (by omega)))).mono ?_); rintro x w2 ⟨rfl, hb⟩; have r2 := r1.trans (hb.mono hz1); have hz2 : wr.heap.size + 1 ≤ w2.heap.size := (by have := r2.size; simpa using this); clear hb))
            | ((go_at_call 29; (with_reducible refine (HRK.out _ (HWR.out.trans (r1.mono (by omega)))).mono ?_); rintro x w2 ⟨rfl, hb⟩; have r2 := r1.trans (hb.mono hz1); have hz2 : wr.heap.size + 1 ≤ w2.heap.size := (by have := r2.size; simpa using this); clear hb))
            | ((go_at_call 28; (with_reducible refine (HCK.out _ HWR.out.drew).mono ?_); rintro x w1 ⟨rfl, hb⟩; have r1 := (Below.refl (wr.heap.size + 1) (wr.alloc (feeBox X PA pc EA ec))).drew.trans (hb.mono (by simp)); have hz1 : wr.heap.size + 1 ≤ w1.heap.size := (by have := r1.size; simpa using this); clear hb))
            | ((go_at_call 29; (with_reducible refine (HRK.out _ HWR.out.drew).mono ?_); rintro x w1 ⟨rfl, hb⟩; have r1 := (Below.refl (wr.heap.size + 1) (wr.alloc (feeBox X PA pc EA ec))).drew.trans (hb.mono (by simp)); have hz1 : wr.heap.size + 1 ≤ w1.heap.size := (by have := r1.size; simpa using this); clear hb)))
        all_goals
          obtain ⟨k0, k1, k2, k3, k4, k5⟩ := KEEP.out _ r2
          have HRB := Lib.hid (HWR.out.trans (r2.mono (by omega)))
          clear r1 r2
          have hz2w := HRB.out.size
          go_wp2_with fail
          clear k0 k1 k2 k3 k4 k5
          obtain ⟨wo, rfl⟩ : ∃ x : World, x = wr := ⟨_, rfl⟩
          go_loopw [26] (fun i26 wr => ∃ j : Nat, j ≤ X.ents.length ∧ i26 = .int .i64 j ∧ Below wo.heap.size wo wr) (fun i26 _ => X.ents.length - (intOf i26).toNat)
          case atStart => exact ⟨0, Nat.zero_le _, rfl, HRB.out⟩
          case round =>
            obtain ⟨j, hj, rfl, hbo⟩ := hrel
            have HBO := Lib.hid hbo
            have hszo := hbo.size
            clear hbo HRB hz2w
            by_cases hlj : j < X.ents.length
            · have hlj' : (j : Int) < X.ents.length := by omega
              obtain ⟨eb, eo, rfl, _, her⟩ := ents_at (HE.out.keep entE_ok (fun k hk => HBO.out.block k (Nat.lt_of_lt_of_le hk hsz)) (fun _ h => h)) hlj
              have hez := HXS.out.ents _ (List.getElem_mem hlj)
              generalize X.ents[j] = e at *
              have hce := fun W => fun (hW : Below wr.heap.size wr W) => checkEntry_any e W (HT.out.next ((HB.out.trans (HBO.out.mono hsz)).trans (hW.mono (Nat.le_trans hsz hszo)))) hez
              have hre := fun W => fun (hW : Below wr.heap.size wr W) => refCheckEntry_any e W hez
              generalize er13 (vldE e) = EE at *
              have HCE := Lib.hid hce
              have HRE := Lib.hid hre
              have HER := Lib.hid her
              have HWE := Lib.hid (show Below wr.heap.size wr (wr.alloc (entBox e)) from (Below.refl _ _).alloc (Nat.le_refl _) _)
              have KEEE : Hid (∀ W, Below (wr.heap.size + 1) (wr.alloc (entBox e)) W → W.cell? ⟨wr.heap.size, 0, none⟩ = some (.string (S e.id)) ∧ W.cell? ⟨wr.heap.size, 1, none⟩ = some (.string (S e.title)) ∧ W.cell? ⟨wr.heap.size, 2, none⟩ = some (.string (S e.link)) ∧ W.cell? ⟨wr.heap.size, 3, none⟩ = some (.string (S e.content)) ∧ W.cell? ⟨wr.heap.size, 4, none⟩ = some (.int .i64 e.upd)) := fun W hW => cells5 ((hW.block wr.heap.size (by omega)).trans (heap_alloc_new wr (entBox e)))
              clear hce hre her hez
              go_wp2_with (with_reducible refine gate ?_; refine wp_load_ent rfl _ rfl eb (eo + j * 5) rfl _ rfl HER.out ?_)
              go_region_held3 (fun x => x.cell? ⟨wr.heap.size, 0, none⟩ = some (.string (S e.id)) ∧ x.cell? ⟨wr.heap.size, 1, none⟩ = some (.string (S e.title)) ∧ x.cell? ⟨wr.heap.size, 2, none⟩ = some (.string (S e.link)) ∧ x.cell? ⟨wr.heap.size, 3, none⟩ = some (.string (S e.content)) ∧ x.cell? ⟨wr.heap.size, 4, none⟩ = some (.int .i64 e.upd))
                (first | exact KEEE.out _ r2 | exact KEEE.out _ r1 | exact KEEE.out _ (Below.refl _ _).drew)
                (first
                | ((go_at_call 30; (with_reducible refine (HCE.out _ (HWE.out.trans (r1.mono (by omega)))).mono ?_); rintro x w2 ⟨rfl, hb⟩; have r2 := r1.trans (hb.mono hz1); have hz2 : wr.heap.size + 1 ≤ w2.heap.size := (by have := r2.size; simpa using this); clear hb))
                | ((go_at_call 31; (with_reducible refine (HRE.out _ (HWE.out.trans (r1.mono (by omega)))).mono ?_); rintro x w2 ⟨rfl, hb⟩; have r2 := r1.trans (hb.mono hz1); have hz2 : wr.heap.size + 1 ≤ w2.heap.size := (by have := r2.size; simpa using this); clear hb))
                | ((go_at_call 30; (with_reducible refine (HCE.out _ HWE.out.drew).mono ?_); rintro x w1 ⟨rfl, hb⟩; have r1 := (Below.refl (wr.heap.size + 1) (wr.alloc (entBox e))).drew.trans (hb.mono (by simp)); have hz1 : wr.heap.size + 1 ≤ w1.heap.size := (by have := r1.size; simpa using this); clear hb))
                | ((go_at_call 31; (with_reducible refine (HRE.out _ HWE.out.drew).mono ?_); rintro x w1 ⟨rfl, hb⟩; have r1 := (Below.refl (wr.heap.size + 1) (wr.alloc (entBox e))).drew.trans (hb.mono (by simp)); have hz1 : wr.heap.size + 1 ≤ w1.heap.size := (by have := r1.size; simpa using this); clear hb)))
              all_goals
                have HR2 := Lib.hid (HWE.out.trans (r2.mono (by omega)))
                clear r1 r2
                go_wp2_with fail
                go_roundw
                case rel => exact ⟨j + 1, by omega, by go_num, HBO.out.trans (HR2.out.mono hszo)⟩
                case measure => simp [intOf]; omega
            · obtain rfl : j = X.ents.length := by omega
              have hlj' : ¬ ((X.ents.length : Int) < X.ents.length) := by omega
              go_wp2_with fail
              go_roundw
              case rel => exact ⟨i + 1, by omega, by go_num, HB.out.trans (HBO.out.mono hsz), (HBO.out.block _ hwx).trans HX.out⟩
              case measure => simp [intOf]; omega
      · obtain rfl : i = l.length := by omega
        have hlt' : ¬ ((l.length : Int) < l.length) := by omega
        have KEEP : Hid (∀ W, Below wr.heap.size wr W → W.cell? ⟨w.heap.size, 0, none⟩ = some (.slice FA l.length fc)) := fun W hW => arc_cell ((hW.block _ hwx).trans HX.out)
        go_wp2_with fail
        clear k0
        go_region_held3 (fun x => x.cell? ⟨w.heap.size, 0, none⟩ = some (.slice FA l.length fc))
          (first | exact KEEP.out _ r3 | exact KEEP.out _ r2 | exact KEEP.out _ r1 | exact KEEP.out _ (Below.refl _ _).drew)
          (first
            | ((go_at_call 27; (with_reducible refine (HAL.out _ HB.out.drew).mono ?_); rintro x w1 ⟨rfl, hb⟩; have r1 := (Below.refl wr.heap.size wr).drew.trans hb; have hz1 : wr.heap.size ≤ w1.heap.size := r1.size; clear hb))
            | ((go_at_call 32; (with_reducible refine (HCA.out _ (HB.out.trans (r2.mono hsz))).mono ?_); rintro x w3 ⟨rfl, hb⟩; have r3 := r2.trans (hb.mono hz2); clear hb))
            | ((go_at_call 33; (with_reducible refine (HRA.out _ (HB.out.trans (r2.mono hsz))).mono ?_); rintro x w3 ⟨rfl, hb⟩; have r3 := r2.trans (hb.mono hz2); clear hb))
            | ((go_at_call 32; (with_reducible refine (HCA.out _ (HB.out.trans (r1.mono hsz))).mono ?_); rintro x w2 ⟨rfl, hb⟩; have r2 := r1.trans (hb.mono hz1); have hz2 : wr.heap.size ≤ w2.heap.size := r2.size; clear hb))
            | ((go_at_call 33; (with_reducible refine (HRA.out _ (HB.out.trans (r1.mono hsz))).mono ?_); rintro x w2 ⟨rfl, hb⟩; have r2 := r1.trans (hb.mono hz1); have hz2 : wr.heap.size ≤ w2.heap.size := r2.size; clear hb)))
        all_goals
          have HR3 := Lib.hid r3
          clear r1 r2 r3
          go_wp2_with fail
          go_ret
          exact ⟨rfl, HB.out.trans (HR3.out.mono hsz)⟩
end Go.Proofs.YtadkgjbidhfefaaDoor
