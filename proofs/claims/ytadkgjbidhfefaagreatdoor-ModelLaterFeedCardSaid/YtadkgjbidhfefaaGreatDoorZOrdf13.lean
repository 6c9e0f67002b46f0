/-
  Walks of chapter 13: ordered, at feeds; Check (the program).
-/
import Derived.Test.YtadkgjbidhfefaaGreatDoorF4
set_option linter.unusedVariables false
set_option linter.unusedSimpArgs false
namespace Go.Proofs.YtadkgjbidhfefaaGreatDoor
open Go.RowKit

def ordFs (l : List Fe) : Bool := ordG vldF cmpF Fe.id [] l
theorem fees_at {w : World} {p : Nat → Prop} {A : Option Addr} {n cap i : Nat} {l : List Fe} (h : ElsP feeE w p (.slice A n cap) l) (hi : i < l.length) :
    ∃ b off cs, A = some ⟨b, off, none⟩ ∧ p b ∧ w.rangeAt b (off + i * 6) cs ∧ FeeP w p l[i] cs := h.at_ hi

set_option maxHeartbeats 1000000 in
theorem idF_any (e : Fe) (PA : Option Addr) (pc : Nat) (EA : Option Addr) (ec : Nat) (w : World) : Calls Tryz.prog 39 #[.agg #[.slice PA e.path.length pc, .string (S e.id), .string (S e.title), .string (S e.link), .int .i64 e.upd, .slice EA e.ents.length ec]] w fun x w' => x = .returned (.string (S e.id)) ∧ Below w.heap.size w w' := by
  go_enter Tryz.func39, Tryz.ntmps39
  go_wp2
  go_ret
  exact ⟨rfl, (Below.refl _ _).alloc (Nat.le_refl _) _⟩

set_option maxHeartbeats 8000000 in
set_option maxRecDepth 100000 in
theorem orderedF_any (l : List Fe) (u : Value) (w : World) (hT : TabJ w) (h : ElsP feeE w (· < w.heap.size) u l) (hl : l.length ≤ 1000000000000) (hs : ∀ f ∈ l, FSz f) :
    Calls Tryz.prog 36 #[u, .func (.func 37) #[] #[], .func (.func 38) #[] #[], .func (.func 39) #[] #[]] w fun x w' => x = .returned (.bool (ordFs l)) ∧ Below w.heap.size w w' := by
  obtain ⟨A0, c0, rfl, _⟩ := h.slice
  obtain ⟨R, hR⟩ : ∃ R, ordFs l = R := ⟨_, rfl⟩
  rw [hR]
  have HL := Lib.hid h
  have HT := Lib.hid hT
  have HS := Lib.hid hs
  have HR0 := Lib.hid (show ordG vldF cmpF Fe.id (l.take 0) (l.drop 0) = R from hR)
  have HM0 := Lib.hid (MapOf.new w)
  clear h hT hs hR
  have hmm := @run_makeMap Tryz.prog
  go_enter Tryz.func36, Tryz.ntmps36
  go_wp2_with fail
  clear hmm
  go_loopw [15] (fun i15 wr => ∃ i : Nat, i ≤ l.length ∧ i15 = .int .i64 i ∧ MapOf wr w.heap.size (seenOf ((l.take i).map Fe.id)) ∧ ordG vldF cmpF Fe.id (l.take i) (l.drop i) = R ∧ Below w.heap.size w wr) (fun i15 _ => l.length - (intOf i15).toNat)
  case atStart => exact ⟨0, Nat.zero_le _, rfl, HM0.out, HR0.out, (Below.refl _ _).alloc (Nat.le_refl _) _⟩
  case round =>
    obtain ⟨i, hi, rfl, hmap, hres, hb⟩ := hrel
    have HMP := Lib.hid hmap
    have HB := Lib.hid hb
    have hsz := hb.size
    have hmlt := hmap.lt
    clear hmap hb HR0 HM0
    by_cases hlt : i < l.length
    · have hlt' : (i : Int) < l.length := by omega
      obtain ⟨b, off, cs, rfl, hpb, hr, hcs⟩ := fees_at (HL.out.keep feeE_ok HB.out.block (fun _ h => h)) hlt
      have hxs := HS.out _ (List.getElem_mem hlt)
      have hbl : b < wr.heap.size := Nat.lt_of_lt_of_le hpb hsz
      have htk : (l.take (i + 1)).map Fe.id = (l.take i).map Fe.id ++ [l[i].id] := by rw [List.take_succ_eq_append_getElem hlt, List.map_append]; rfl
      have hst0 : i = 0 → (vldF l[i] && ordG vldF cmpF Fe.id (l.take (i + 1)) (l.drop (i + 1))) = R := fun h => by subst h; rw [← hres, ordG_zero hlt]
      have hst1 : ∀ h : 0 < i, (vldF l[i] && decide (cmpF (l[i - 1]'(by omega)) l[i] < 0) && !(((l.take i).map Fe.id).contains l[i].id) && ordG vldF cmpF Fe.id (l.take (i + 1)) (l.drop (i + 1))) = R := fun h => by rw [← hres, ordG_step hlt h]
      have hsn0 : i = 0 → ((l.take i).map Fe.id).contains l[i].id = false := fun h => by subst h; rfl
      have hpr : ∀ h : 0 < i, ∃ ds, wr.rangeAt b (off + (i - 1) * 6) ds ∧ FeeP wr (· < w.heap.size) (l[i - 1]'(by omega)) ds ∧ FSz (l[i - 1]'(by omega)) := fun h => by
        obtain ⟨b', off', ds, hA, _, hr', hds⟩ := fees_at (HL.out.keep feeE_ok HB.out.block (fun _ h => h)) (show i - 1 < l.length by omega)
        cases hA
        exact ⟨ds, hr', hds, HS.out _ (List.getElem_mem _)⟩
      clear hres
      generalize l[i] = X at *
      have hvx : ∀ W, Below wr.heap.size wr W → FeeP W (· < W.heap.size) X cs := fun W hW => hcs.keep (fun k hk => hW.block k (Nat.lt_of_lt_of_le hk hsz)) (fun k hk => Nat.lt_of_lt_of_le (Nat.lt_of_lt_of_le hk hsz) hW.size)
      obtain ⟨PA, pc, EA, ec, rfl, _, _, _, _⟩ := hcs
      generalize (l.take i).map Fe.id = seen at *
      generalize hN : ordG vldF cmpF Fe.id (l.take (i + 1)) (l.drop (i + 1)) = N at *
      have HN := Lib.hid hN
      have HTK := Lib.hid htk
      have HR1 := Lib.hid hr
      have hck := fun W => fun (hW : Below wr.heap.size wr W) => checkFeed_any X _ W (HT.out.next (HB.out.trans (hW.mono hsz))) hxs ⟨_, rfl, hvx W hW⟩
      have hid := fun W => idF_any X PA pc EA ec W
      have HID := Lib.hid hid
      have hW0 : Below w.heap.size w (wr.alloc (feeBox X PA pc EA ec)) := HB.out.alloc hsz _
      have HW0 := Lib.hid hW0
      have HWB := Lib.hid hW0
      have HWR := Lib.hid (show Below wr.heap.size wr (wr.alloc (feeBox X PA pc EA ec)) from (Below.refl _ _).alloc (Nat.le_refl _) _)
      have hlk : ∀ W, MapOf W w.heap.size (seenOf seen) → (Instr.lookup 89 (.map (some w.heap.size)) (.string (S X.id)) false).run Tryz.prog W = .ok (.bool (seen.contains X.id)) W := fun W hW => by
        rw [MapOf.run_lookup hW Tryz.underlying89 Tryz.underlying9 (zeroBool _) X.id, look_seen]
      have HMK : Hid (∀ W, Below (wr.heap.size + 1) (wr.alloc (feeBox X PA pc EA ec)) W → MapOf W w.heap.size (seenOf seen)) := fun W hW => (HMP.out.keep (Below.heap_alloc wr _ _ hmlt)).below (by simpa using hW)
      have KX : Hid (∀ W, Below (wr.heap.size + 1) (wr.alloc (feeBox X PA pc EA ec)) W → W.cell? ⟨wr.heap.size, 0, none⟩ = some (.slice PA X.path.length pc) ∧ W.cell? ⟨wr.heap.size, 1, none⟩ = some (.string (S X.id)) ∧ W.cell? ⟨wr.heap.size, 2, none⟩ = some (.string (S X.title)) ∧ W.cell? ⟨wr.heap.size, 3, none⟩ = some (.string (S X.link)) ∧ W.cell? ⟨wr.heap.size, 4, none⟩ = some (.int .i64 X.upd) ∧ W.cell? ⟨wr.heap.size, 5, none⟩ = some (.slice EA X.ents.length ec)) := fun W hW => cells6 ((hW.block wr.heap.size (by omega)).trans (heap_alloc_new wr (feeBox X PA pc EA ec)))
      clear hN htk hr hid hW0
      cases hc : vldF X with
      | false =>
        rw [hc] at hck hst0 hst1
        rw [show er13 false = 22 from rfl] at hck
        have hr : R = false := by
          by_cases h : i = 0
          · rw [← hst0 h]; rfl
          · rw [← hst1 (by omega)]; rfl
        have HCK := Lib.hid hck
        have HRR := Lib.hid hr
        have KEEP := KX
        clear hck hst0 hst1 hsn0 hpr hr hc hlk
        go_wp2_with (with_reducible refine gate ?_; refine wp_load_fee rfl _ rfl b (off + i * 6) rfl _ rfl HR1.out ?_)
        refine wp_region_held_drew (S := fun x => x.cell? ⟨wr.heap.size, 0, none⟩ = some (.slice PA X.path.length pc) ∧ x.cell? ⟨wr.heap.size, 1, none⟩ = some (.string (S X.id)) ∧ x.cell? ⟨wr.heap.size, 2, none⟩ = some (.string (S X.title)) ∧ x.cell? ⟨wr.heap.size, 3, none⟩ = some (.string (S X.link)) ∧ x.cell? ⟨wr.heap.size, 4, none⟩ = some (.int .i64 X.upd) ∧ x.cell? ⟨wr.heap.size, 5, none⟩ = some (.slice EA X.ents.length ec)) (by kernel_rfl) ?_ (fun hHeld => ?_)
        · (try dsimp only); exact KEEP.out _ (Below.refl _ _).drew
        refine wpAnyH_take (i := 0) (oi := (⟨some 20, _, _, _, _, _⟩ : Oper)) (v := ?_) rfl (by kernel_rfl) (by kernel_rfl) (by kernel_rfl) (fun _ _ _ h => h) (Or.inl ⟨by rfl, ?_⟩) (by assumption) ?_
        rotate_left
        · intro wS hSw; (try dsimp only at hSw); go_simp <;> with_reducible rfl
        simp only [Act.put, List.setIfInBounds_toArray, List.set_cons_zero, List.set_cons_succ]
        refine wpAnyH_take (i := 1) (oi := (⟨some 21, _, _, _, _, _⟩ : Oper)) (v := ?_) rfl (by kernel_rfl) (by kernel_rfl) (by kernel_rfl) (fun _ _ _ h => h) (Or.inl ⟨by rfl, ?_⟩) (by assumption) ?_
        rotate_left
        · intro wS hSw; (try dsimp only at hSw); go_simp <;> with_reducible rfl
        simp only [Act.put, List.setIfInBounds_toArray, List.set_cons_zero, List.set_cons_succ]
        refine wpAnyH_ready (rs := [2]) (by kernel_rfl) (by simp) ?_
        refine AllReadyH.cons (o := (⟨some 22, _, _, _, _, _⟩ : Oper)) rfl (fun K hK => ?_) ?_
        rotate_left
        · exact AllReadyH.nil
        go_simp
        (go_at_call 37; (with_reducible refine (HCK.out _ HWR.out.drew).mono ?_); rintro x w1 ⟨rfl, hb1⟩; have r1 := (Below.refl (wr.heap.size + 1) (wr.alloc (feeBox X PA pc EA ec))).drew.trans (hb1.mono (by simp)); have hz1 : wr.heap.size + 1 ≤ w1.heap.size := (by have := r1.size; simpa using this); clear hb1)
        refine hK.out _ _ ?_ (fun hHeld => ?_)
        · (try dsimp only); exact KEEP.out _ r1
        clear hK K
        try simp only [Act.put, List.setIfInBounds_toArray, List.set_cons_zero, List.set_cons_succ]
        refine wpAnyH_take (i := 3) (oi := (⟨some 23, _, _, _, _, _⟩ : Oper)) (v := ?_) rfl (by kernel_rfl) (by kernel_rfl) (by kernel_rfl) (fun _ _ _ h => h) (Or.inl ⟨by rfl, ?_⟩) (by assumption) ?_
        rotate_left
        · intro wS hSw; (try dsimp only at hSw); go_simp <;> with_reducible rfl
        simp only [Act.put, List.setIfInBounds_toArray, List.set_cons_zero, List.set_cons_succ]
        refine wpAnyH_take (i := 4) (oi := (⟨some 24, _, _, _, _, _⟩ : Oper)) (v := ?_) rfl (by kernel_rfl) (by kernel_rfl) (by kernel_rfl) (fun _ _ _ h => h) (Or.inl ⟨by rfl, ?_⟩) (by assumption) ?_
        rotate_left
        · intro wS hSw; (try dsimp only at hSw); go_simp <;> with_reducible rfl
        simp only [Act.put, List.setIfInBounds_toArray, List.set_cons_zero, List.set_cons_succ]
        refine wpAnyH_take (i := 5) (oi := (⟨some 25, _, _, _, _, _⟩ : Oper)) (v := undef) rfl (by kernel_rfl) (by kernel_rfl) (by kernel_rfl) (fun _ _ _ h => h) (Or.inr ⟨by rfl, rfl⟩) (by assumption) ?_
        simp only [Act.put, List.setIfInBounds_toArray, List.set_cons_zero, List.set_cons_succ]
        refine wpAnyH_take (i := 6) (oi := (⟨some 26, _, _, _, _, _⟩ : Oper)) (v := undef) rfl (by kernel_rfl) (by kernel_rfl) (by kernel_rfl) (fun _ _ _ h => h) (Or.inr ⟨by rfl, rfl⟩) (by assumption) ?_
        simp only [Act.put, List.setIfInBounds_toArray, List.set_cons_zero, List.set_cons_succ]
        refine wpAnyH_take (i := 7) (oi := (⟨some 27, _, _, _, _, _⟩ : Oper)) (v := undef) rfl (by kernel_rfl) (by kernel_rfl) (by kernel_rfl) (fun _ _ _ h => h) (Or.inr ⟨by rfl, rfl⟩) (by assumption) ?_
        simp only [Act.put, List.setIfInBounds_toArray, List.set_cons_zero, List.set_cons_succ]
        refine wpAnyH_take (i := 8) (oi := (⟨some 28, _, _, _, _, _⟩ : Oper)) (v := undef) rfl (by kernel_rfl) (by kernel_rfl) (by kernel_rfl) (fun _ _ _ h => h) (Or.inr ⟨by rfl, rfl⟩) (by assumption) ?_
        simp only [Act.put, List.setIfInBounds_toArray, List.set_cons_zero, List.set_cons_succ]
        refine wpAnyH_take (i := 9) (oi := (⟨some 29, _, _, _, _, _⟩ : Oper)) (v := undef) rfl (by kernel_rfl) (by kernel_rfl) (by kernel_rfl) (fun _ _ _ h => h) (Or.inr ⟨by rfl, rfl⟩) (by assumption) ?_
        simp only [Act.put, List.setIfInBounds_toArray, List.set_cons_zero, List.set_cons_succ]
        refine wpAnyH_take (i := 10) (oi := (⟨some 30, _, _, _, _, _⟩ : Oper)) (v := undef) rfl (by kernel_rfl) (by kernel_rfl) (by kernel_rfl) (fun _ _ _ h => h) (Or.inr ⟨by rfl, rfl⟩) (by assumption) ?_
        simp only [Act.put, List.setIfInBounds_toArray, List.set_cons_zero, List.set_cons_succ]
        refine wpAnyH_take (i := 11) (oi := (⟨some 31, _, _, _, _, _⟩ : Oper)) (v := undef) rfl (by kernel_rfl) (by kernel_rfl) (by kernel_rfl) (fun _ _ _ h => h) (Or.inr ⟨by rfl, rfl⟩) (by assumption) ?_
        simp only [Act.put, List.setIfInBounds_toArray, List.set_cons_zero, List.set_cons_succ]
        refine wpAnyH_take (i := 12) (oi := (⟨some 32, _, _, _, _, _⟩ : Oper)) (v := undef) rfl (by kernel_rfl) (by kernel_rfl) (by kernel_rfl) (fun _ _ _ h => h) (Or.inr ⟨by rfl, rfl⟩) (by assumption) ?_
        simp only [Act.put, List.setIfInBounds_toArray, List.set_cons_zero, List.set_cons_succ]
        refine wpAnyH_take (i := 13) (oi := (⟨some 33, _, _, _, _, _⟩ : Oper)) (v := undef) rfl (by kernel_rfl) (by kernel_rfl) (by kernel_rfl) (fun _ _ _ h => h) (Or.inr ⟨by rfl, rfl⟩) (by assumption) ?_
        simp only [Act.put, List.setIfInBounds_toArray, List.set_cons_zero, List.set_cons_succ]
        refine wpAnyH_take (i := 14) (oi := (⟨some 34, _, _, _, _, _⟩ : Oper)) (v := undef) rfl (by kernel_rfl) (by kernel_rfl) (by kernel_rfl) (fun _ _ _ h => h) (Or.inr ⟨by rfl, rfl⟩) (by assumption) ?_
        simp only [Act.put, List.setIfInBounds_toArray, List.set_cons_zero, List.set_cons_succ]
        refine wpAnyH_take (i := 15) (oi := (⟨some 35, _, _, _, _, _⟩ : Oper)) (v := undef) rfl (by kernel_rfl) (by kernel_rfl) (by kernel_rfl) (fun _ _ _ h => h) (Or.inr ⟨by rfl, rfl⟩) (by assumption) ?_
        simp only [Act.put, List.setIfInBounds_toArray, List.set_cons_zero, List.set_cons_succ]
        refine wpAnyH_take (i := 16) (oi := (⟨some 36, _, _, _, _, _⟩ : Oper)) (v := undef) rfl (by kernel_rfl) (by kernel_rfl) (by kernel_rfl) (fun _ _ _ h => h) (Or.inr ⟨by rfl, rfl⟩) (by assumption) ?_
        simp only [Act.put, List.setIfInBounds_toArray, List.set_cons_zero, List.set_cons_succ]
        refine wpAnyH_take (i := 17) (oi := (⟨some 37, _, _, _, _, _⟩ : Oper)) (v := undef) rfl (by kernel_rfl) (by kernel_rfl) (by kernel_rfl) (fun _ _ _ h => h) (Or.inr ⟨by rfl, rfl⟩) (by assumption) ?_
        simp only [Act.put, List.setIfInBounds_toArray, List.set_cons_zero, List.set_cons_succ]
        refine wpAnyH_take (i := 18) (oi := (⟨some 38, _, _, _, _, _⟩ : Oper)) (v := ?_) rfl (by kernel_rfl) (by kernel_rfl) (by kernel_rfl) (fun _ _ _ h => h) (Or.inl ⟨by rfl, ?_⟩) (by assumption) ?_
        rotate_left
        · intro wS hSw; (try dsimp only at hSw); go_simp <;> with_reducible rfl
        simp only [Act.put, List.setIfInBounds_toArray, List.set_cons_zero, List.set_cons_succ]
        refine wpAnyH_take (i := 19) (oi := (⟨some 39, _, _, _, _, _⟩ : Oper)) (v := ?_) rfl (by kernel_rfl) (by kernel_rfl) (by kernel_rfl) (fun _ _ _ h => h) (Or.inl ⟨by rfl, ?_⟩) (by assumption) ?_
        rotate_left
        · intro wS hSw; (try dsimp only at hSw); go_simp <;> with_reducible rfl
        simp only [Act.put, List.setIfInBounds_toArray, List.set_cons_zero, List.set_cons_succ]
        refine wpAnyH_take (i := 20) (oi := (⟨some 40, _, _, _, _, _⟩ : Oper)) (v := undef) rfl (by kernel_rfl) (by kernel_rfl) (by kernel_rfl) (fun _ _ _ h => h) (Or.inr ⟨by rfl, rfl⟩) (by assumption) ?_
        simp only [Act.put, List.setIfInBounds_toArray, List.set_cons_zero, List.set_cons_succ]
        refine wpAnyH_take (i := 21) (oi := (⟨some 41, _, _, _, _, _⟩ : Oper)) (v := undef) rfl (by kernel_rfl) (by kernel_rfl) (by kernel_rfl) (fun _ _ _ h => h) (Or.inr ⟨by rfl, rfl⟩) (by assumption) ?_
        simp only [Act.put, List.setIfInBounds_toArray, List.set_cons_zero, List.set_cons_succ]
        refine wpAnyH_take (i := 22) (oi := (⟨some 42, _, _, _, _, _⟩ : Oper)) (v := undef) rfl (by kernel_rfl) (by kernel_rfl) (by kernel_rfl) (fun _ _ _ h => h) (Or.inr ⟨by rfl, rfl⟩) (by assumption) ?_
        simp only [Act.put, List.setIfInBounds_toArray, List.set_cons_zero, List.set_cons_succ]
        refine wpAnyH_take (i := 23) (oi := (⟨some 43, _, _, _, _, _⟩ : Oper)) (v := undef) rfl (by kernel_rfl) (by kernel_rfl) (by kernel_rfl) (fun _ _ _ h => h) (Or.inr ⟨by rfl, rfl⟩) (by assumption) ?_
        simp only [Act.put, List.setIfInBounds_toArray, List.set_cons_zero, List.set_cons_succ]
        refine wpAnyH_take (i := 24) (oi := (⟨some 44, _, _, _, _, _⟩ : Oper)) (v := undef) rfl (by kernel_rfl) (by kernel_rfl) (by kernel_rfl) (fun _ _ _ h => h) (Or.inr ⟨by rfl, rfl⟩) (by assumption) ?_
        simp only [Act.put, List.setIfInBounds_toArray, List.set_cons_zero, List.set_cons_succ]
        refine wpAnyH_take (i := 25) (oi := (⟨some 45, _, _, _, _, _⟩ : Oper)) (v := ?_) rfl (by kernel_rfl) (by kernel_rfl) (by kernel_rfl) (fun _ _ _ h => h) (Or.inl ⟨by rfl, ?_⟩) (by assumption) ?_
        rotate_left
        · intro wS hSw; (try dsimp only at hSw); go_simp <;> with_reducible rfl
        simp only [Act.put, List.setIfInBounds_toArray, List.set_cons_zero, List.set_cons_succ]
        refine wpAnyH_done (by kernel_rfl) ?_ _
        all_goals
          have HRB := Lib.hid r1
          clear r1
          go_wp2_with fail
          go_ret
          exact ⟨ret_bool HRR.out.symm, HWB.out.trans (HRB.out.mono (by omega))⟩
      | true =>
        rw [hc] at hck hst0 hst1
        rw [show er13 true = 0 from rfl] at hck
        simp only [Bool.true_and] at hst0 hst1
        have HCK := Lib.hid hck
        clear hck hc
        by_cases h0 : i = 0
        · have q0 : decide ((0 : Int) < (i : Int)) = false := decide_eq_false (by omega)
          have q0' : decide (0 < i) = false := decide_eq_false (by omega)
          have hse := hsn0 h0
          rw [hse] at hlk
          have HLK := Lib.hid hlk
          have HSE := Lib.hid (putM_seen X.id seen hse)
          have hrr : ordG vldF cmpF Fe.id (l.take (i + 1)) (l.drop (i + 1)) = R := by rw [HN.out]; exact hst0 h0
          have HRR := Lib.hid hrr
          have KEEP := KX
          clear hlk hst0 hst1 hsn0 hpr hse hrr h0
          go_wp2_with (with_reducible refine gate ?_; refine wp_load_fee rfl _ rfl b (off + i * 6) rfl _ rfl HR1.out ?_)
          refine wp_region_held_drew (S := fun x => x.cell? ⟨wr.heap.size, 0, none⟩ = some (.slice PA X.path.length pc) ∧ x.cell? ⟨wr.heap.size, 1, none⟩ = some (.string (S X.id)) ∧ x.cell? ⟨wr.heap.size, 2, none⟩ = some (.string (S X.title)) ∧ x.cell? ⟨wr.heap.size, 3, none⟩ = some (.string (S X.link)) ∧ x.cell? ⟨wr.heap.size, 4, none⟩ = some (.int .i64 X.upd) ∧ x.cell? ⟨wr.heap.size, 5, none⟩ = some (.slice EA X.ents.length ec)) (by kernel_rfl) ?_ (fun hHeld => ?_)
          · (try dsimp only); exact KEEP.out _ (Below.refl _ _).drew
          refine wpAnyH_take (i := 0) (oi := (⟨some 20, _, _, _, _, _⟩ : Oper)) (v := ?_) rfl (by kernel_rfl) (by kernel_rfl) (by kernel_rfl) (fun _ _ _ h => h) (Or.inl ⟨by rfl, ?_⟩) (by assumption) ?_
          rotate_left
          · intro wS hSw; (try dsimp only at hSw); go_simp <;> with_reducible rfl
          simp only [Act.put, List.setIfInBounds_toArray, List.set_cons_zero, List.set_cons_succ]
          refine wpAnyH_take (i := 1) (oi := (⟨some 21, _, _, _, _, _⟩ : Oper)) (v := ?_) rfl (by kernel_rfl) (by kernel_rfl) (by kernel_rfl) (fun _ _ _ h => h) (Or.inl ⟨by rfl, ?_⟩) (by assumption) ?_
          rotate_left
          · intro wS hSw; (try dsimp only at hSw); go_simp <;> with_reducible rfl
          simp only [Act.put, List.setIfInBounds_toArray, List.set_cons_zero, List.set_cons_succ]
          refine wpAnyH_ready (rs := [2]) (by kernel_rfl) (by simp) ?_
          refine AllReadyH.cons (o := (⟨some 22, _, _, _, _, _⟩ : Oper)) rfl (fun K hK => ?_) ?_
          rotate_left
          · exact AllReadyH.nil
          go_simp
          (go_at_call 37; (with_reducible refine (HCK.out _ HWR.out.drew).mono ?_); rintro x w1 ⟨rfl, hb1⟩; have r1 := (Below.refl (wr.heap.size + 1) (wr.alloc (feeBox X PA pc EA ec))).drew.trans (hb1.mono (by simp)); have hz1 : wr.heap.size + 1 ≤ w1.heap.size := (by have := r1.size; simpa using this); clear hb1)
          refine hK.out _ _ ?_ (fun hHeld => ?_)
          · (try dsimp only); exact KEEP.out _ r1
          clear hK K
          try simp only [Act.put, List.setIfInBounds_toArray, List.set_cons_zero, List.set_cons_succ]
          refine wpAnyH_take (i := 3) (oi := (⟨some 23, _, _, _, _, _⟩ : Oper)) (v := ?_) rfl (by kernel_rfl) (by kernel_rfl) (by kernel_rfl) (fun _ _ _ h => h) (Or.inl ⟨by rfl, ?_⟩) (by assumption) ?_
          rotate_left
          · intro wS hSw; (try dsimp only at hSw); go_simp <;> with_reducible rfl
          simp only [Act.put, List.setIfInBounds_toArray, List.set_cons_zero, List.set_cons_succ]
          refine wpAnyH_take (i := 4) (oi := (⟨some 24, _, _, _, _, _⟩ : Oper)) (v := ?_) rfl (by kernel_rfl) (by kernel_rfl) (by kernel_rfl) (fun _ _ _ h => h) (Or.inl ⟨by rfl, ?_⟩) (by assumption) ?_
          rotate_left
          · intro wS hSw; (try dsimp only at hSw); go_simp <;> with_reducible rfl
          simp only [Act.put, List.setIfInBounds_toArray, List.set_cons_zero, List.set_cons_succ]
          refine wpAnyH_take (i := 5) (oi := (⟨some 25, _, _, _, _, _⟩ : Oper)) (v := ?_) rfl (by kernel_rfl) (by kernel_rfl) (by kernel_rfl) (fun _ _ _ h => h) (Or.inl ⟨by rfl, ?_⟩) (by assumption) ?_
          rotate_left
          · intro wS hSw; (try dsimp only at hSw); go_simp <;> with_reducible rfl
          simp only [Act.put, List.setIfInBounds_toArray, List.set_cons_zero, List.set_cons_succ]
          refine wpAnyH_take (i := 6) (oi := (⟨some 26, _, _, _, _, _⟩ : Oper)) (v := ?_) rfl (by kernel_rfl) (by kernel_rfl) (by kernel_rfl) (fun _ _ _ h => h) (Or.inl ⟨by rfl, ?_⟩) (by assumption) ?_
          rotate_left
          · intro wS hSw; (try dsimp only at hSw); go_simp <;> with_reducible rfl
          simp only [Act.put, List.setIfInBounds_toArray, List.set_cons_zero, List.set_cons_succ]
          refine wpAnyH_take (i := 7) (oi := (⟨some 27, _, _, _, _, _⟩ : Oper)) (v := ?_) rfl (by kernel_rfl) (by kernel_rfl) (by kernel_rfl) (fun _ _ _ h => h) (Or.inl ⟨by rfl, ?_⟩) (by assumption) ?_
          rotate_left
          · intro wS hSw; (try dsimp only at hSw); go_simp <;> with_reducible rfl
          simp only [Act.put, List.setIfInBounds_toArray, List.set_cons_zero, List.set_cons_succ]
          refine wpAnyH_take (i := 8) (oi := (⟨some 28, _, _, _, _, _⟩ : Oper)) (v := undef) rfl (by kernel_rfl) (by kernel_rfl) (by kernel_rfl) (fun _ _ _ h => h) (Or.inr ⟨by rfl, rfl⟩) (by assumption) ?_
          simp only [Act.put, List.setIfInBounds_toArray, List.set_cons_zero, List.set_cons_succ]
          refine wpAnyH_take (i := 9) (oi := (⟨some 29, _, _, _, _, _⟩ : Oper)) (v := undef) rfl (by kernel_rfl) (by kernel_rfl) (by kernel_rfl) (fun _ _ _ h => h) (Or.inr ⟨by rfl, rfl⟩) (by assumption) ?_
          simp only [Act.put, List.setIfInBounds_toArray, List.set_cons_zero, List.set_cons_succ]
          refine wpAnyH_take (i := 10) (oi := (⟨some 30, _, _, _, _, _⟩ : Oper)) (v := undef) rfl (by kernel_rfl) (by kernel_rfl) (by kernel_rfl) (fun _ _ _ h => h) (Or.inr ⟨by rfl, rfl⟩) (by assumption) ?_
          simp only [Act.put, List.setIfInBounds_toArray, List.set_cons_zero, List.set_cons_succ]
          refine wpAnyH_take (i := 11) (oi := (⟨some 31, _, _, _, _, _⟩ : Oper)) (v := undef) rfl (by kernel_rfl) (by kernel_rfl) (by kernel_rfl) (fun _ _ _ h => h) (Or.inr ⟨by rfl, rfl⟩) (by assumption) ?_
          simp only [Act.put, List.setIfInBounds_toArray, List.set_cons_zero, List.set_cons_succ]
          refine wpAnyH_take (i := 12) (oi := (⟨some 32, _, _, _, _, _⟩ : Oper)) (v := undef) rfl (by kernel_rfl) (by kernel_rfl) (by kernel_rfl) (fun _ _ _ h => h) (Or.inr ⟨by rfl, rfl⟩) (by assumption) ?_
          simp only [Act.put, List.setIfInBounds_toArray, List.set_cons_zero, List.set_cons_succ]
          refine wpAnyH_take (i := 13) (oi := (⟨some 33, _, _, _, _, _⟩ : Oper)) (v := undef) rfl (by kernel_rfl) (by kernel_rfl) (by kernel_rfl) (fun _ _ _ h => h) (Or.inr ⟨by rfl, rfl⟩) (by assumption) ?_
          simp only [Act.put, List.setIfInBounds_toArray, List.set_cons_zero, List.set_cons_succ]
          refine wpAnyH_take (i := 14) (oi := (⟨some 34, _, _, _, _, _⟩ : Oper)) (v := undef) rfl (by kernel_rfl) (by kernel_rfl) (by kernel_rfl) (fun _ _ _ h => h) (Or.inr ⟨by rfl, rfl⟩) (by assumption) ?_
          simp only [Act.put, List.setIfInBounds_toArray, List.set_cons_zero, List.set_cons_succ]
          refine wpAnyH_take (i := 15) (oi := (⟨some 35, _, _, _, _, _⟩ : Oper)) (v := undef) rfl (by kernel_rfl) (by kernel_rfl) (by kernel_rfl) (fun _ _ _ h => h) (Or.inr ⟨by rfl, rfl⟩) (by assumption) ?_
          simp only [Act.put, List.setIfInBounds_toArray, List.set_cons_zero, List.set_cons_succ]
          refine wpAnyH_take (i := 16) (oi := (⟨some 36, _, _, _, _, _⟩ : Oper)) (v := undef) rfl (by kernel_rfl) (by kernel_rfl) (by kernel_rfl) (fun _ _ _ h => h) (Or.inr ⟨by rfl, rfl⟩) (by assumption) ?_
          simp only [Act.put, List.setIfInBounds_toArray, List.set_cons_zero, List.set_cons_succ]
          refine wpAnyH_take (i := 17) (oi := (⟨some 37, _, _, _, _, _⟩ : Oper)) (v := ?_) rfl (by kernel_rfl) (by kernel_rfl) (by kernel_rfl) (fun _ _ _ h => h) (Or.inl ⟨by rfl, ?_⟩) (by assumption) ?_
          rotate_left
          · intro wS hSw; (try dsimp only at hSw); go_simp <;> with_reducible rfl
          simp only [Act.put, List.setIfInBounds_toArray, List.set_cons_zero, List.set_cons_succ]
          refine wpAnyH_take (i := 18) (oi := (⟨some 38, _, _, _, _, _⟩ : Oper)) (v := ?_) rfl (by kernel_rfl) (by kernel_rfl) (by kernel_rfl) (fun _ _ _ h => h) (Or.inl ⟨by rfl, ?_⟩) (by assumption) ?_
          rotate_left
          · intro wS hSw; (try dsimp only at hSw); go_simp <;> with_reducible rfl
          simp only [Act.put, List.setIfInBounds_toArray, List.set_cons_zero, List.set_cons_succ]
          refine wpAnyH_take (i := 19) (oi := (⟨some 39, _, _, _, _, _⟩ : Oper)) (v := ?_) rfl (by kernel_rfl) (by kernel_rfl) (by kernel_rfl) (fun _ _ _ h => h) (Or.inl ⟨by rfl, ?_⟩) (by assumption) ?_
          rotate_left
          · intro wS hSw; (try dsimp only at hSw); go_simp <;> with_reducible rfl
          simp only [Act.put, List.setIfInBounds_toArray, List.set_cons_zero, List.set_cons_succ]
          refine wpAnyH_take (i := 20) (oi := (⟨some 40, _, _, _, _, _⟩ : Oper)) (v := ?_) rfl (by kernel_rfl) (by kernel_rfl) (by kernel_rfl) (fun _ _ _ h => h) (Or.inl ⟨by rfl, ?_⟩) (by assumption) ?_
          rotate_left
          · intro wS hSw; (try dsimp only at hSw); go_simp <;> with_reducible rfl
          simp only [Act.put, List.setIfInBounds_toArray, List.set_cons_zero, List.set_cons_succ]
          refine wpAnyH_take (i := 21) (oi := (⟨some 41, _, _, _, _, _⟩ : Oper)) (v := ?_) rfl (by kernel_rfl) (by kernel_rfl) (by kernel_rfl) (fun _ _ _ h => h) (Or.inl ⟨by rfl, ?_⟩) (by assumption) ?_
          rotate_left
          · intro wS hSw; (try dsimp only at hSw); go_simp <;> with_reducible rfl
          simp only [Act.put, List.setIfInBounds_toArray, List.set_cons_zero, List.set_cons_succ]
          refine wpAnyH_take (i := 22) (oi := (⟨some 42, _, _, _, _, _⟩ : Oper)) (v := ?_) rfl (by kernel_rfl) (by kernel_rfl) (by kernel_rfl) (fun _ _ _ h => h) (Or.inl ⟨by rfl, ?_⟩) (by assumption) ?_
          rotate_left
          · intro wS hSw; (try dsimp only at hSw); go_simp <;> with_reducible rfl
          simp only [Act.put, List.setIfInBounds_toArray, List.set_cons_zero, List.set_cons_succ]
          refine wpAnyH_ready (rs := [23]) (by kernel_rfl) (by simp) ?_
          refine AllReadyH.cons (o := (⟨some 43, _, _, _, _, _⟩ : Oper)) rfl (fun K hK => ?_) ?_
          rotate_left
          · exact AllReadyH.nil
          go_simp
          (go_at_call 39; (with_reducible refine (HID.out _).mono ?_); rintro x w3 ⟨rfl, hb3⟩; have r3 := r1.trans (hb3.mono hz1); have hz3 : wr.heap.size + 1 ≤ w3.heap.size := (by have := r3.size; simpa using this); have hlook := HLK.out w3 (HMK.out _ r3); clear hb3)
          refine hK.out _ _ ?_ (fun hHeld => ?_)
          · (try dsimp only); exact KEEP.out _ r3
          clear hK K
          try simp only [Act.put, List.setIfInBounds_toArray, List.set_cons_zero, List.set_cons_succ]
          refine wpAnyH_ready (rs := [24]) (by kernel_rfl) (by simp) ?_
          refine AllReadyH.cons (o := (⟨some 44, _, _, _, _, _⟩ : Oper)) rfl (fun K hK => ?_) ?_
          rotate_left
          · exact AllReadyH.nil
          go_simp
          refine hK.out _ _ ?_ (fun hHeld => ?_)
          · (try dsimp only); exact KEEP.out _ r3
          clear hK K
          try simp only [Act.put, List.setIfInBounds_toArray, List.set_cons_zero, List.set_cons_succ]
          refine wpAnyH_take (i := 25) (oi := (⟨some 45, _, _, _, _, _⟩ : Oper)) (v := ?_) rfl (by kernel_rfl) (by kernel_rfl) (by kernel_rfl) (fun _ _ _ h => h) (Or.inl ⟨by rfl, ?_⟩) (by assumption) ?_
          rotate_left
          · intro wS hSw; (try dsimp only at hSw); go_simp <;> with_reducible rfl
          simp only [Act.put, List.setIfInBounds_toArray, List.set_cons_zero, List.set_cons_succ]
          refine wpAnyH_done (by kernel_rfl) ?_ _
          all_goals
            have HRB := Lib.hid r3
            have hkx := (KEEP.out _ r3)
            obtain ⟨k0, k1, k2, k3, k4, k5⟩ := KX.out _ r3
            clear hlook hkx
            go_wp2_with (first
              | (go_at_call 39; refine (HID.out _).mono ?_; rintro x w5 ⟨rfl, hb5⟩; have r5 := HRB.out.trans (hb5.mono hz3); have MP5 := Lib.hid (HMK.out _ r5); have HR5 := Lib.hid r5; have hz5 : wr.heap.size + 1 ≤ w5.heap.size := (by have := r5.size; simpa using this); clear hb5 r5)
              | (at_mapUpdate; refine wpList_map_put rfl _ _ _ 89 rfl Tryz.underlying89 Tryz.underlying9 w.heap.size (seenOf seen) MP5.out rfl X.id rfl (.bool true) rfl ?_; intro w6 hm6 hu6 hs6))
            go_roundw
            case rel => exact ⟨i + 1, by omega, by go_num, by rw [HTK.out, ← HSE.out]; exact hm6, HRR.out, (HWB.out.trans (HR5.out.mono (by omega))).trans (hu6.below (Nat.le_refl _) (by omega))⟩
            case measure => simp [intOf]; omega
        · have q0 : decide ((0 : Int) < (i : Int)) = true := decide_eq_true (by omega)
          have q0' : decide (0 < i) = true := decide_eq_true (by omega)
          have w1' : IntKind.i64.wrap ((i : Int) - 1) = (i : Int) - 1 := by rw [IntKind.wrap_i64]; omega
          have w2' : (0 : Int) ≤ (i : Int) - 1 := by omega
          have w3' : ((i : Int) - 1).toNat = i - 1 := by omega
          have w4' : (i : Int) - 1 < l.length := by omega
          have w5' : (1 : Int) ≤ i := by omega
          obtain ⟨ds, hpr1, hds, hpz⟩ := hpr (by omega)
          have hst := hst1 (by omega)
          generalize (l[i - 1]'(by omega)) = P at *
          have hvp : ∀ W, Below wr.heap.size wr W → FeeP W (· < W.heap.size) P ds := fun W hW => hds.keep (fun k hk => hW.block k (Nat.lt_of_lt_of_le hk hsz)) (fun k hk => Nat.lt_of_lt_of_le (Nat.lt_of_lt_of_le hk hsz) hW.size)
          obtain ⟨QA, qc, FA, fc, rfl, _, _, _, _⟩ := hds
          have hcm := fun W => fun (hW : Below wr.heap.size wr W) => cmpFeeds_any P X _ _ W ⟨_, rfl, hvp W hW⟩ ⟨_, rfl, hvx W hW⟩ (by have := hpz.path; omega) (by have := hxs.path; omega)
          generalize cmpF P X = m at *
          have HCM := Lib.hid hcm
          have KEEP : Hid (∀ W, Below (wr.heap.size + 1) (wr.alloc (feeBox X PA pc EA ec)) W → (W.cell? ⟨wr.heap.size, 0, none⟩ = some (.slice PA X.path.length pc) ∧ W.cell? ⟨wr.heap.size, 1, none⟩ = some (.string (S X.id)) ∧ W.cell? ⟨wr.heap.size, 2, none⟩ = some (.string (S X.title)) ∧ W.cell? ⟨wr.heap.size, 3, none⟩ = some (.string (S X.link)) ∧ W.cell? ⟨wr.heap.size, 4, none⟩ = some (.int .i64 X.upd) ∧ W.cell? ⟨wr.heap.size, 5, none⟩ = some (.slice EA X.ents.length ec)) ∧ (W.cell? ⟨b, off + (i - 1) * 6, none⟩ = some (.slice QA P.path.length qc) ∧ W.cell? ⟨b, off + (i - 1) * 6 + 1, none⟩ = some (.string (S P.id)) ∧ W.cell? ⟨b, off + (i - 1) * 6 + 2, none⟩ = some (.string (S P.title)) ∧ W.cell? ⟨b, off + (i - 1) * 6 + 3, none⟩ = some (.string (S P.link)) ∧ W.cell? ⟨b, off + (i - 1) * 6 + 4, none⟩ = some (.int .i64 P.upd) ∧ W.cell? ⟨b, off + (i - 1) * 6 + 5, none⟩ = some (.slice FA P.ents.length fc))) := fun W hW => by
            have hr2 := rangeAt_keep hpr1 ((hW.block b (by omega)).trans (Below.heap_alloc wr _ _ hbl))
            exact ⟨KX.out W hW, hr2 0 _ rfl, hr2 1 _ rfl, hr2 2 _ rfl, hr2 3 _ rfl, hr2 4 _ rfl, hr2 5 _ rfl⟩
          clear hcm hpr hpr1 hst0 hst1 hsn0 h0
          by_cases hm : m < 0
          · have qm : decide ((0 : Int) ≤ m) = false := decide_eq_false (by omega)
            rw [decide_eq_true hm] at hst
            simp only [Bool.true_and] at hst
            cases hse : seen.contains X.id with
            | true =>
              rw [hse] at hlk hst
              have HLK := Lib.hid hlk
              have hr : R = false := by rw [← hst]; rfl
              have HRR := Lib.hid hr
              clear hlk hst hr hse hm
              go_wp2_with (with_reducible refine gate ?_; refine wp_load_fee rfl _ rfl b (off + i * 6) rfl _ rfl HR1.out ?_)
              refine wp_region_held_drew (S := fun x => (x.cell? ⟨wr.heap.size, 0, none⟩ = some (.slice PA X.path.length pc) ∧ x.cell? ⟨wr.heap.size, 1, none⟩ = some (.string (S X.id)) ∧ x.cell? ⟨wr.heap.size, 2, none⟩ = some (.string (S X.title)) ∧ x.cell? ⟨wr.heap.size, 3, none⟩ = some (.string (S X.link)) ∧ x.cell? ⟨wr.heap.size, 4, none⟩ = some (.int .i64 X.upd) ∧ x.cell? ⟨wr.heap.size, 5, none⟩ = some (.slice EA X.ents.length ec)) ∧ (x.cell? ⟨b, off + (i - 1) * 6, none⟩ = some (.slice QA P.path.length qc) ∧ x.cell? ⟨b, off + (i - 1) * 6 + 1, none⟩ = some (.string (S P.id)) ∧ x.cell? ⟨b, off + (i - 1) * 6 + 2, none⟩ = some (.string (S P.title)) ∧ x.cell? ⟨b, off + (i - 1) * 6 + 3, none⟩ = some (.string (S P.link)) ∧ x.cell? ⟨b, off + (i - 1) * 6 + 4, none⟩ = some (.int .i64 P.upd) ∧ x.cell? ⟨b, off + (i - 1) * 6 + 5, none⟩ = some (.slice FA P.ents.length fc))) (by kernel_rfl) ?_ (fun hHeld => ?_)
              · (try dsimp only); exact KEEP.out _ (Below.refl _ _).drew
              refine wpAnyH_take (i := 0) (oi := (⟨some 20, _, _, _, _, _⟩ : Oper)) (v := ?_) rfl (by kernel_rfl) (by kernel_rfl) (by kernel_rfl) (fun _ _ _ h => h) (Or.inl ⟨by rfl, ?_⟩) (by assumption) ?_
              rotate_left
              · intro wS hSw; (try dsimp only at hSw); go_simp <;> with_reducible rfl
              simp only [Act.put, List.setIfInBounds_toArray, List.set_cons_zero, List.set_cons_succ]
              refine wpAnyH_take (i := 1) (oi := (⟨some 21, _, _, _, _, _⟩ : Oper)) (v := ?_) rfl (by kernel_rfl) (by kernel_rfl) (by kernel_rfl) (fun _ _ _ h => h) (Or.inl ⟨by rfl, ?_⟩) (by assumption) ?_
              rotate_left
              · intro wS hSw; (try dsimp only at hSw); go_simp <;> with_reducible rfl
              simp only [Act.put, List.setIfInBounds_toArray, List.set_cons_zero, List.set_cons_succ]
              refine wpAnyH_ready (rs := [2]) (by kernel_rfl) (by simp) ?_
              refine AllReadyH.cons (o := (⟨some 22, _, _, _, _, _⟩ : Oper)) rfl (fun K hK => ?_) ?_
              rotate_left
              · exact AllReadyH.nil
              go_simp
              (go_at_call 37; (with_reducible refine (HCK.out _ HWR.out.drew).mono ?_); rintro x w1 ⟨rfl, hb1⟩; have r1 := (Below.refl (wr.heap.size + 1) (wr.alloc (feeBox X PA pc EA ec))).drew.trans (hb1.mono (by simp)); have hz1 : wr.heap.size + 1 ≤ w1.heap.size := (by have := r1.size; simpa using this); clear hb1)
              refine hK.out _ _ ?_ (fun hHeld => ?_)
              · (try dsimp only); exact KEEP.out _ r1
              clear hK K
              try simp only [Act.put, List.setIfInBounds_toArray, List.set_cons_zero, List.set_cons_succ]
              refine wpAnyH_take (i := 3) (oi := (⟨some 23, _, _, _, _, _⟩ : Oper)) (v := ?_) rfl (by kernel_rfl) (by kernel_rfl) (by kernel_rfl) (fun _ _ _ h => h) (Or.inl ⟨by rfl, ?_⟩) (by assumption) ?_
              rotate_left
              · intro wS hSw; (try dsimp only at hSw); go_simp <;> with_reducible rfl
              simp only [Act.put, List.setIfInBounds_toArray, List.set_cons_zero, List.set_cons_succ]
              refine wpAnyH_take (i := 4) (oi := (⟨some 24, _, _, _, _, _⟩ : Oper)) (v := ?_) rfl (by kernel_rfl) (by kernel_rfl) (by kernel_rfl) (fun _ _ _ h => h) (Or.inl ⟨by rfl, ?_⟩) (by assumption) ?_
              rotate_left
              · intro wS hSw; (try dsimp only at hSw); go_simp <;> with_reducible rfl
              simp only [Act.put, List.setIfInBounds_toArray, List.set_cons_zero, List.set_cons_succ]
              refine wpAnyH_take (i := 5) (oi := (⟨some 25, _, _, _, _, _⟩ : Oper)) (v := ?_) rfl (by kernel_rfl) (by kernel_rfl) (by kernel_rfl) (fun _ _ _ h => h) (Or.inl ⟨by rfl, ?_⟩) (by assumption) ?_
              rotate_left
              · intro wS hSw; (try dsimp only at hSw); go_simp <;> with_reducible rfl
              simp only [Act.put, List.setIfInBounds_toArray, List.set_cons_zero, List.set_cons_succ]
              refine wpAnyH_take (i := 6) (oi := (⟨some 26, _, _, _, _, _⟩ : Oper)) (v := ?_) rfl (by kernel_rfl) (by kernel_rfl) (by kernel_rfl) (fun _ _ _ h => h) (Or.inl ⟨by rfl, ?_⟩) (by assumption) ?_
              rotate_left
              · intro wS hSw; (try dsimp only at hSw); go_simp <;> with_reducible rfl
              simp only [Act.put, List.setIfInBounds_toArray, List.set_cons_zero, List.set_cons_succ]
              refine wpAnyH_take (i := 7) (oi := (⟨some 27, _, _, _, _, _⟩ : Oper)) (v := ?_) rfl (by kernel_rfl) (by kernel_rfl) (by kernel_rfl) (fun _ _ _ h => h) (Or.inl ⟨by rfl, ?_⟩) (by assumption) ?_
              rotate_left
              · intro wS hSw; (try dsimp only at hSw); go_simp <;> with_reducible rfl
              simp only [Act.put, List.setIfInBounds_toArray, List.set_cons_zero, List.set_cons_succ]
              refine wpAnyH_take (i := 8) (oi := (⟨some 28, _, _, _, _, _⟩ : Oper)) (v := ?_) rfl (by kernel_rfl) (by kernel_rfl) (by kernel_rfl) (fun _ _ _ h => h) (Or.inl ⟨by rfl, ?_⟩) (by assumption) ?_
              rotate_left
              · intro wS hSw; (try dsimp only at hSw); go_simp <;> with_reducible rfl
              simp only [Act.put, List.setIfInBounds_toArray, List.set_cons_zero, List.set_cons_succ]
              refine wpAnyH_take (i := 9) (oi := (⟨some 29, _, _, _, _, _⟩ : Oper)) (v := ?_) rfl (by kernel_rfl) (by kernel_rfl) (by kernel_rfl) (fun _ _ _ h => h) (Or.inl ⟨by rfl, ?_⟩) (by assumption) ?_
              rotate_left
              · intro wS hSw; (try dsimp only at hSw); go_simp <;> with_reducible rfl
              simp only [Act.put, List.setIfInBounds_toArray, List.set_cons_zero, List.set_cons_succ]
              refine wpAnyH_take (i := 10) (oi := (⟨some 30, _, _, _, _, _⟩ : Oper)) (v := ?_) rfl (by kernel_rfl) (by kernel_rfl) (by kernel_rfl) (fun _ _ _ h => h) (Or.inl ⟨by rfl, ?_⟩) (by assumption) ?_
              rotate_left
              · intro wS hSw; (try dsimp only at hSw); go_simp <;> with_reducible rfl
              simp only [Act.put, List.setIfInBounds_toArray, List.set_cons_zero, List.set_cons_succ]
              refine wpAnyH_take (i := 11) (oi := (⟨some 31, _, _, _, _, _⟩ : Oper)) (v := ?_) rfl (by kernel_rfl) (by kernel_rfl) (by kernel_rfl) (fun _ _ _ h => h) (Or.inl ⟨by rfl, ?_⟩) (by assumption) ?_
              rotate_left
              · intro wS hSw; (try dsimp only at hSw); go_simp <;> with_reducible rfl
              simp only [Act.put, List.setIfInBounds_toArray, List.set_cons_zero, List.set_cons_succ]
              refine wpAnyH_take (i := 12) (oi := (⟨some 32, _, _, _, _, _⟩ : Oper)) (v := ?_) rfl (by kernel_rfl) (by kernel_rfl) (by kernel_rfl) (fun _ _ _ h => h) (Or.inl ⟨by rfl, ?_⟩) (by assumption) ?_
              rotate_left
              · intro wS hSw; (try dsimp only at hSw); go_simp <;> with_reducible rfl
              simp only [Act.put, List.setIfInBounds_toArray, List.set_cons_zero, List.set_cons_succ]
              refine wpAnyH_take (i := 13) (oi := (⟨some 33, _, _, _, _, _⟩ : Oper)) (v := ?_) rfl (by kernel_rfl) (by kernel_rfl) (by kernel_rfl) (fun _ _ _ h => h) (Or.inl ⟨by rfl, ?_⟩) (by assumption) ?_
              rotate_left
              · intro wS hSw; (try dsimp only at hSw); go_simp <;> with_reducible rfl
              simp only [Act.put, List.setIfInBounds_toArray, List.set_cons_zero, List.set_cons_succ]
              refine wpAnyH_take (i := 14) (oi := (⟨some 34, _, _, _, _, _⟩ : Oper)) (v := ?_) rfl (by kernel_rfl) (by kernel_rfl) (by kernel_rfl) (fun _ _ _ h => h) (Or.inl ⟨by rfl, ?_⟩) (by assumption) ?_
              rotate_left
              · intro wS hSw; (try dsimp only at hSw); go_simp <;> with_reducible rfl
              simp only [Act.put, List.setIfInBounds_toArray, List.set_cons_zero, List.set_cons_succ]
              refine wpAnyH_ready (rs := [15]) (by kernel_rfl) (by simp) ?_
              refine AllReadyH.cons (o := (⟨some 35, _, _, _, _, _⟩ : Oper)) rfl (fun K hK => ?_) ?_
              rotate_left
              · exact AllReadyH.nil
              go_simp
              (go_at_call 38; (with_reducible refine (HCM.out _ (HWR.out.trans (r1.mono (by omega)))).mono ?_); rintro x w2 ⟨rfl, hb2⟩; have r2 := r1.trans (hb2.mono hz1); have hz2 : wr.heap.size + 1 ≤ w2.heap.size := (by have := r2.size; simpa using this); clear hb2)
              refine hK.out _ _ ?_ (fun hHeld => ?_)
              · (try dsimp only); exact KEEP.out _ r2
              clear hK K
              try simp only [Act.put, List.setIfInBounds_toArray, List.set_cons_zero, List.set_cons_succ]
              refine wpAnyH_take (i := 16) (oi := (⟨some 36, _, _, _, _, _⟩ : Oper)) (v := ?_) rfl (by kernel_rfl) (by kernel_rfl) (by kernel_rfl) (fun _ _ _ h => h) (Or.inl ⟨by rfl, ?_⟩) (by assumption) ?_
              rotate_left
              · intro wS hSw; (try dsimp only at hSw); go_simp <;> with_reducible rfl
              simp only [Act.put, List.setIfInBounds_toArray, List.set_cons_zero, List.set_cons_succ]
              refine wpAnyH_take (i := 17) (oi := (⟨some 37, _, _, _, _, _⟩ : Oper)) (v := ?_) rfl (by kernel_rfl) (by kernel_rfl) (by kernel_rfl) (fun _ _ _ h => h) (Or.inl ⟨by rfl, ?_⟩) (by assumption) ?_
              rotate_left
              · intro wS hSw; (try dsimp only at hSw); go_simp <;> with_reducible rfl
              simp only [Act.put, List.setIfInBounds_toArray, List.set_cons_zero, List.set_cons_succ]
              refine wpAnyH_take (i := 18) (oi := (⟨some 38, _, _, _, _, _⟩ : Oper)) (v := ?_) rfl (by kernel_rfl) (by kernel_rfl) (by kernel_rfl) (fun _ _ _ h => h) (Or.inl ⟨by rfl, ?_⟩) (by assumption) ?_
              rotate_left
              · intro wS hSw; (try dsimp only at hSw); go_simp <;> with_reducible rfl
              simp only [Act.put, List.setIfInBounds_toArray, List.set_cons_zero, List.set_cons_succ]
              refine wpAnyH_take (i := 19) (oi := (⟨some 39, _, _, _, _, _⟩ : Oper)) (v := ?_) rfl (by kernel_rfl) (by kernel_rfl) (by kernel_rfl) (fun _ _ _ h => h) (Or.inl ⟨by rfl, ?_⟩) (by assumption) ?_
              rotate_left
              · intro wS hSw; (try dsimp only at hSw); go_simp <;> with_reducible rfl
              simp only [Act.put, List.setIfInBounds_toArray, List.set_cons_zero, List.set_cons_succ]
              refine wpAnyH_take (i := 20) (oi := (⟨some 40, _, _, _, _, _⟩ : Oper)) (v := ?_) rfl (by kernel_rfl) (by kernel_rfl) (by kernel_rfl) (fun _ _ _ h => h) (Or.inl ⟨by rfl, ?_⟩) (by assumption) ?_
              rotate_left
              · intro wS hSw; (try dsimp only at hSw); go_simp <;> with_reducible rfl
              simp only [Act.put, List.setIfInBounds_toArray, List.set_cons_zero, List.set_cons_succ]
              refine wpAnyH_take (i := 21) (oi := (⟨some 41, _, _, _, _, _⟩ : Oper)) (v := ?_) rfl (by kernel_rfl) (by kernel_rfl) (by kernel_rfl) (fun _ _ _ h => h) (Or.inl ⟨by rfl, ?_⟩) (by assumption) ?_
              rotate_left
              · intro wS hSw; (try dsimp only at hSw); go_simp <;> with_reducible rfl
              simp only [Act.put, List.setIfInBounds_toArray, List.set_cons_zero, List.set_cons_succ]
              refine wpAnyH_take (i := 22) (oi := (⟨some 42, _, _, _, _, _⟩ : Oper)) (v := ?_) rfl (by kernel_rfl) (by kernel_rfl) (by kernel_rfl) (fun _ _ _ h => h) (Or.inl ⟨by rfl, ?_⟩) (by assumption) ?_
              rotate_left
              · intro wS hSw; (try dsimp only at hSw); go_simp <;> with_reducible rfl
              simp only [Act.put, List.setIfInBounds_toArray, List.set_cons_zero, List.set_cons_succ]
              refine wpAnyH_ready (rs := [23]) (by kernel_rfl) (by simp) ?_
              refine AllReadyH.cons (o := (⟨some 43, _, _, _, _, _⟩ : Oper)) rfl (fun K hK => ?_) ?_
              rotate_left
              · exact AllReadyH.nil
              go_simp
              (go_at_call 39; (with_reducible refine (HID.out _).mono ?_); rintro x w3 ⟨rfl, hb3⟩; have r3 := r2.trans (hb3.mono hz2); have hz3 : wr.heap.size + 1 ≤ w3.heap.size := (by have := r3.size; simpa using this); have hlook := HLK.out w3 (HMK.out _ r3); clear hb3)
              refine hK.out _ _ ?_ (fun hHeld => ?_)
              · (try dsimp only); exact KEEP.out _ r3
              clear hK K
              try simp only [Act.put, List.setIfInBounds_toArray, List.set_cons_zero, List.set_cons_succ]
              refine wpAnyH_ready (rs := [24]) (by kernel_rfl) (by simp) ?_
              refine AllReadyH.cons (o := (⟨some 44, _, _, _, _, _⟩ : Oper)) rfl (fun K hK => ?_) ?_
              rotate_left
              · exact AllReadyH.nil
              go_simp
              refine hK.out _ _ ?_ (fun hHeld => ?_)
              · (try dsimp only); exact KEEP.out _ r3
              clear hK K
              try simp only [Act.put, List.setIfInBounds_toArray, List.set_cons_zero, List.set_cons_succ]
              refine wpAnyH_take (i := 25) (oi := (⟨some 45, _, _, _, _, _⟩ : Oper)) (v := ?_) rfl (by kernel_rfl) (by kernel_rfl) (by kernel_rfl) (fun _ _ _ h => h) (Or.inl ⟨by rfl, ?_⟩) (by assumption) ?_
              rotate_left
              · intro wS hSw; (try dsimp only at hSw); go_simp <;> with_reducible rfl
              simp only [Act.put, List.setIfInBounds_toArray, List.set_cons_zero, List.set_cons_succ]
              refine wpAnyH_done (by kernel_rfl) ?_ _
              all_goals
                have HRB := Lib.hid r3
                clear r3
                go_wp2_with fail
                go_ret
                exact ⟨ret_bool HRR.out.symm, HWB.out.trans (HRB.out.mono (by omega))⟩
            | false =>
              rw [hse] at hlk hst
              have HLK := Lib.hid hlk
              have HSE := Lib.hid (putM_seen X.id seen hse)
              have hrr : ordG vldF cmpF Fe.id (l.take (i + 1)) (l.drop (i + 1)) = R := by rw [HN.out]; exact hst
              have HRR := Lib.hid hrr
              clear hlk hst hrr hse hm
              go_wp2_with (with_reducible refine gate ?_; refine wp_load_fee rfl _ rfl b (off + i * 6) rfl _ rfl HR1.out ?_)
              refine wp_region_held_drew (S := fun x => (x.cell? ⟨wr.heap.size, 0, none⟩ = some (.slice PA X.path.length pc) ∧ x.cell? ⟨wr.heap.size, 1, none⟩ = some (.string (S X.id)) ∧ x.cell? ⟨wr.heap.size, 2, none⟩ = some (.string (S X.title)) ∧ x.cell? ⟨wr.heap.size, 3, none⟩ = some (.string (S X.link)) ∧ x.cell? ⟨wr.heap.size, 4, none⟩ = some (.int .i64 X.upd) ∧ x.cell? ⟨wr.heap.size, 5, none⟩ = some (.slice EA X.ents.length ec)) ∧ (x.cell? ⟨b, off + (i - 1) * 6, none⟩ = some (.slice QA P.path.length qc) ∧ x.cell? ⟨b, off + (i - 1) * 6 + 1, none⟩ = some (.string (S P.id)) ∧ x.cell? ⟨b, off + (i - 1) * 6 + 2, none⟩ = some (.string (S P.title)) ∧ x.cell? ⟨b, off + (i - 1) * 6 + 3, none⟩ = some (.string (S P.link)) ∧ x.cell? ⟨b, off + (i - 1) * 6 + 4, none⟩ = some (.int .i64 P.upd) ∧ x.cell? ⟨b, off + (i - 1) * 6 + 5, none⟩ = some (.slice FA P.ents.length fc))) (by kernel_rfl) ?_ (fun hHeld => ?_)
              · (try dsimp only); exact KEEP.out _ (Below.refl _ _).drew
              refine wpAnyH_take (i := 0) (oi := (⟨some 20, _, _, _, _, _⟩ : Oper)) (v := ?_) rfl (by kernel_rfl) (by kernel_rfl) (by kernel_rfl) (fun _ _ _ h => h) (Or.inl ⟨by rfl, ?_⟩) (by assumption) ?_
              rotate_left
              · intro wS hSw; (try dsimp only at hSw); go_simp <;> with_reducible rfl
              simp only [Act.put, List.setIfInBounds_toArray, List.set_cons_zero, List.set_cons_succ]
              refine wpAnyH_take (i := 1) (oi := (⟨some 21, _, _, _, _, _⟩ : Oper)) (v := ?_) rfl (by kernel_rfl) (by kernel_rfl) (by kernel_rfl) (fun _ _ _ h => h) (Or.inl ⟨by rfl, ?_⟩) (by assumption) ?_
              rotate_left
              · intro wS hSw; (try dsimp only at hSw); go_simp <;> with_reducible rfl
              simp only [Act.put, List.setIfInBounds_toArray, List.set_cons_zero, List.set_cons_succ]
              refine wpAnyH_ready (rs := [2]) (by kernel_rfl) (by simp) ?_
              refine AllReadyH.cons (o := (⟨some 22, _, _, _, _, _⟩ : Oper)) rfl (fun K hK => ?_) ?_
              rotate_left
              · exact AllReadyH.nil
              go_simp
              (go_at_call 37; (with_reducible refine (HCK.out _ HWR.out.drew).mono ?_); rintro x w1 ⟨rfl, hb1⟩; have r1 := (Below.refl (wr.heap.size + 1) (wr.alloc (feeBox X PA pc EA ec))).drew.trans (hb1.mono (by simp)); have hz1 : wr.heap.size + 1 ≤ w1.heap.size := (by have := r1.size; simpa using this); clear hb1)
              refine hK.out _ _ ?_ (fun hHeld => ?_)
              · (try dsimp only); exact KEEP.out _ r1
              clear hK K
              try simp only [Act.put, List.setIfInBounds_toArray, List.set_cons_zero, List.set_cons_succ]
              refine wpAnyH_take (i := 3) (oi := (⟨some 23, _, _, _, _, _⟩ : Oper)) (v := ?_) rfl (by kernel_rfl) (by kernel_rfl) (by kernel_rfl) (fun _ _ _ h => h) (Or.inl ⟨by rfl, ?_⟩) (by assumption) ?_
              rotate_left
              · intro wS hSw; (try dsimp only at hSw); go_simp <;> with_reducible rfl
              simp only [Act.put, List.setIfInBounds_toArray, List.set_cons_zero, List.set_cons_succ]
              refine wpAnyH_take (i := 4) (oi := (⟨some 24, _, _, _, _, _⟩ : Oper)) (v := ?_) rfl (by kernel_rfl) (by kernel_rfl) (by kernel_rfl) (fun _ _ _ h => h) (Or.inl ⟨by rfl, ?_⟩) (by assumption) ?_
              rotate_left
              · intro wS hSw; (try dsimp only at hSw); go_simp <;> with_reducible rfl
              simp only [Act.put, List.setIfInBounds_toArray, List.set_cons_zero, List.set_cons_succ]
              refine wpAnyH_take (i := 5) (oi := (⟨some 25, _, _, _, _, _⟩ : Oper)) (v := ?_) rfl (by kernel_rfl) (by kernel_rfl) (by kernel_rfl) (fun _ _ _ h => h) (Or.inl ⟨by rfl, ?_⟩) (by assumption) ?_
              rotate_left
              · intro wS hSw; (try dsimp only at hSw); go_simp <;> with_reducible rfl
              simp only [Act.put, List.setIfInBounds_toArray, List.set_cons_zero, List.set_cons_succ]
              refine wpAnyH_take (i := 6) (oi := (⟨some 26, _, _, _, _, _⟩ : Oper)) (v := ?_) rfl (by kernel_rfl) (by kernel_rfl) (by kernel_rfl) (fun _ _ _ h => h) (Or.inl ⟨by rfl, ?_⟩) (by assumption) ?_
              rotate_left
              · intro wS hSw; (try dsimp only at hSw); go_simp <;> with_reducible rfl
              simp only [Act.put, List.setIfInBounds_toArray, List.set_cons_zero, List.set_cons_succ]
              refine wpAnyH_take (i := 7) (oi := (⟨some 27, _, _, _, _, _⟩ : Oper)) (v := ?_) rfl (by kernel_rfl) (by kernel_rfl) (by kernel_rfl) (fun _ _ _ h => h) (Or.inl ⟨by rfl, ?_⟩) (by assumption) ?_
              rotate_left
              · intro wS hSw; (try dsimp only at hSw); go_simp <;> with_reducible rfl
              simp only [Act.put, List.setIfInBounds_toArray, List.set_cons_zero, List.set_cons_succ]
              refine wpAnyH_take (i := 8) (oi := (⟨some 28, _, _, _, _, _⟩ : Oper)) (v := ?_) rfl (by kernel_rfl) (by kernel_rfl) (by kernel_rfl) (fun _ _ _ h => h) (Or.inl ⟨by rfl, ?_⟩) (by assumption) ?_
              rotate_left
              · intro wS hSw; (try dsimp only at hSw); go_simp <;> with_reducible rfl
              simp only [Act.put, List.setIfInBounds_toArray, List.set_cons_zero, List.set_cons_succ]
              refine wpAnyH_take (i := 9) (oi := (⟨some 29, _, _, _, _, _⟩ : Oper)) (v := ?_) rfl (by kernel_rfl) (by kernel_rfl) (by kernel_rfl) (fun _ _ _ h => h) (Or.inl ⟨by rfl, ?_⟩) (by assumption) ?_
              rotate_left
              · intro wS hSw; (try dsimp only at hSw); go_simp <;> with_reducible rfl
              simp only [Act.put, List.setIfInBounds_toArray, List.set_cons_zero, List.set_cons_succ]
              refine wpAnyH_take (i := 10) (oi := (⟨some 30, _, _, _, _, _⟩ : Oper)) (v := ?_) rfl (by kernel_rfl) (by kernel_rfl) (by kernel_rfl) (fun _ _ _ h => h) (Or.inl ⟨by rfl, ?_⟩) (by assumption) ?_
              rotate_left
              · intro wS hSw; (try dsimp only at hSw); go_simp <;> with_reducible rfl
              simp only [Act.put, List.setIfInBounds_toArray, List.set_cons_zero, List.set_cons_succ]
              refine wpAnyH_take (i := 11) (oi := (⟨some 31, _, _, _, _, _⟩ : Oper)) (v := ?_) rfl (by kernel_rfl) (by kernel_rfl) (by kernel_rfl) (fun _ _ _ h => h) (Or.inl ⟨by rfl, ?_⟩) (by assumption) ?_
              rotate_left
              · intro wS hSw; (try dsimp only at hSw); go_simp <;> with_reducible rfl
              simp only [Act.put, List.setIfInBounds_toArray, List.set_cons_zero, List.set_cons_succ]
              refine wpAnyH_take (i := 12) (oi := (⟨some 32, _, _, _, _, _⟩ : Oper)) (v := ?_) rfl (by kernel_rfl) (by kernel_rfl) (by kernel_rfl) (fun _ _ _ h => h) (Or.inl ⟨by rfl, ?_⟩) (by assumption) ?_
              rotate_left
              · intro wS hSw; (try dsimp only at hSw); go_simp <;> with_reducible rfl
              simp only [Act.put, List.setIfInBounds_toArray, List.set_cons_zero, List.set_cons_succ]
              refine wpAnyH_take (i := 13) (oi := (⟨some 33, _, _, _, _, _⟩ : Oper)) (v := ?_) rfl (by kernel_rfl) (by kernel_rfl) (by kernel_rfl) (fun _ _ _ h => h) (Or.inl ⟨by rfl, ?_⟩) (by assumption) ?_
              rotate_left
              · intro wS hSw; (try dsimp only at hSw); go_simp <;> with_reducible rfl
              simp only [Act.put, List.setIfInBounds_toArray, List.set_cons_zero, List.set_cons_succ]
              refine wpAnyH_take (i := 14) (oi := (⟨some 34, _, _, _, _, _⟩ : Oper)) (v := ?_) rfl (by kernel_rfl) (by kernel_rfl) (by kernel_rfl) (fun _ _ _ h => h) (Or.inl ⟨by rfl, ?_⟩) (by assumption) ?_
              rotate_left
              · intro wS hSw; (try dsimp only at hSw); go_simp <;> with_reducible rfl
              simp only [Act.put, List.setIfInBounds_toArray, List.set_cons_zero, List.set_cons_succ]
              refine wpAnyH_ready (rs := [15]) (by kernel_rfl) (by simp) ?_
              refine AllReadyH.cons (o := (⟨some 35, _, _, _, _, _⟩ : Oper)) rfl (fun K hK => ?_) ?_
              rotate_left
              · exact AllReadyH.nil
              go_simp
              (go_at_call 38; (with_reducible refine (HCM.out _ (HWR.out.trans (r1.mono (by omega)))).mono ?_); rintro x w2 ⟨rfl, hb2⟩; have r2 := r1.trans (hb2.mono hz1); have hz2 : wr.heap.size + 1 ≤ w2.heap.size := (by have := r2.size; simpa using this); clear hb2)
              refine hK.out _ _ ?_ (fun hHeld => ?_)
              · (try dsimp only); exact KEEP.out _ r2
              clear hK K
              try simp only [Act.put, List.setIfInBounds_toArray, List.set_cons_zero, List.set_cons_succ]
              refine wpAnyH_take (i := 16) (oi := (⟨some 36, _, _, _, _, _⟩ : Oper)) (v := ?_) rfl (by kernel_rfl) (by kernel_rfl) (by kernel_rfl) (fun _ _ _ h => h) (Or.inl ⟨by rfl, ?_⟩) (by assumption) ?_
              rotate_left
              · intro wS hSw; (try dsimp only at hSw); go_simp <;> with_reducible rfl
              simp only [Act.put, List.setIfInBounds_toArray, List.set_cons_zero, List.set_cons_succ]
              refine wpAnyH_take (i := 17) (oi := (⟨some 37, _, _, _, _, _⟩ : Oper)) (v := ?_) rfl (by kernel_rfl) (by kernel_rfl) (by kernel_rfl) (fun _ _ _ h => h) (Or.inl ⟨by rfl, ?_⟩) (by assumption) ?_
              rotate_left
              · intro wS hSw; (try dsimp only at hSw); go_simp <;> with_reducible rfl
              simp only [Act.put, List.setIfInBounds_toArray, List.set_cons_zero, List.set_cons_succ]
              refine wpAnyH_take (i := 18) (oi := (⟨some 38, _, _, _, _, _⟩ : Oper)) (v := ?_) rfl (by kernel_rfl) (by kernel_rfl) (by kernel_rfl) (fun _ _ _ h => h) (Or.inl ⟨by rfl, ?_⟩) (by assumption) ?_
              rotate_left
              · intro wS hSw; (try dsimp only at hSw); go_simp <;> with_reducible rfl
              simp only [Act.put, List.setIfInBounds_toArray, List.set_cons_zero, List.set_cons_succ]
              refine wpAnyH_take (i := 19) (oi := (⟨some 39, _, _, _, _, _⟩ : Oper)) (v := ?_) rfl (by kernel_rfl) (by kernel_rfl) (by kernel_rfl) (fun _ _ _ h => h) (Or.inl ⟨by rfl, ?_⟩) (by assumption) ?_
              rotate_left
              · intro wS hSw; (try dsimp only at hSw); go_simp <;> with_reducible rfl
              simp only [Act.put, List.setIfInBounds_toArray, List.set_cons_zero, List.set_cons_succ]
              refine wpAnyH_take (i := 20) (oi := (⟨some 40, _, _, _, _, _⟩ : Oper)) (v := ?_) rfl (by kernel_rfl) (by kernel_rfl) (by kernel_rfl) (fun _ _ _ h => h) (Or.inl ⟨by rfl, ?_⟩) (by assumption) ?_
              rotate_left
              · intro wS hSw; (try dsimp only at hSw); go_simp <;> with_reducible rfl
              simp only [Act.put, List.setIfInBounds_toArray, List.set_cons_zero, List.set_cons_succ]
              refine wpAnyH_take (i := 21) (oi := (⟨some 41, _, _, _, _, _⟩ : Oper)) (v := ?_) rfl (by kernel_rfl) (by kernel_rfl) (by kernel_rfl) (fun _ _ _ h => h) (Or.inl ⟨by rfl, ?_⟩) (by assumption) ?_
              rotate_left
              · intro wS hSw; (try dsimp only at hSw); go_simp <;> with_reducible rfl
              simp only [Act.put, List.setIfInBounds_toArray, List.set_cons_zero, List.set_cons_succ]
              refine wpAnyH_take (i := 22) (oi := (⟨some 42, _, _, _, _, _⟩ : Oper)) (v := ?_) rfl (by kernel_rfl) (by kernel_rfl) (by kernel_rfl) (fun _ _ _ h => h) (Or.inl ⟨by rfl, ?_⟩) (by assumption) ?_
              rotate_left
              · intro wS hSw; (try dsimp only at hSw); go_simp <;> with_reducible rfl
              simp only [Act.put, List.setIfInBounds_toArray, List.set_cons_zero, List.set_cons_succ]
              refine wpAnyH_ready (rs := [23]) (by kernel_rfl) (by simp) ?_
              refine AllReadyH.cons (o := (⟨some 43, _, _, _, _, _⟩ : Oper)) rfl (fun K hK => ?_) ?_
              rotate_left
              · exact AllReadyH.nil
              go_simp
              (go_at_call 39; (with_reducible refine (HID.out _).mono ?_); rintro x w3 ⟨rfl, hb3⟩; have r3 := r2.trans (hb3.mono hz2); have hz3 : wr.heap.size + 1 ≤ w3.heap.size := (by have := r3.size; simpa using this); have hlook := HLK.out w3 (HMK.out _ r3); clear hb3)
              refine hK.out _ _ ?_ (fun hHeld => ?_)
              · (try dsimp only); exact KEEP.out _ r3
              clear hK K
              try simp only [Act.put, List.setIfInBounds_toArray, List.set_cons_zero, List.set_cons_succ]
              refine wpAnyH_ready (rs := [24]) (by kernel_rfl) (by simp) ?_
              refine AllReadyH.cons (o := (⟨some 44, _, _, _, _, _⟩ : Oper)) rfl (fun K hK => ?_) ?_
              rotate_left
              · exact AllReadyH.nil
              go_simp
              refine hK.out _ _ ?_ (fun hHeld => ?_)
              · (try dsimp only); exact KEEP.out _ r3
              clear hK K
              try simp only [Act.put, List.setIfInBounds_toArray, List.set_cons_zero, List.set_cons_succ]
              refine wpAnyH_take (i := 25) (oi := (⟨some 45, _, _, _, _, _⟩ : Oper)) (v := ?_) rfl (by kernel_rfl) (by kernel_rfl) (by kernel_rfl) (fun _ _ _ h => h) (Or.inl ⟨by rfl, ?_⟩) (by assumption) ?_
              rotate_left
              · intro wS hSw; (try dsimp only at hSw); go_simp <;> with_reducible rfl
              simp only [Act.put, List.setIfInBounds_toArray, List.set_cons_zero, List.set_cons_succ]
              refine wpAnyH_done (by kernel_rfl) ?_ _
              all_goals
                have HRB := Lib.hid r3
                have hkx := (KEEP.out _ r3)
                obtain ⟨k0, k1, k2, k3, k4, k5⟩ := KX.out _ r3
                clear hlook hkx
                go_wp2_with (first
                  | (go_at_call 39; refine (HID.out _).mono ?_; rintro x w5 ⟨rfl, hb5⟩; have r5 := HRB.out.trans (hb5.mono hz3); have MP5 := Lib.hid (HMK.out _ r5); have HR5 := Lib.hid r5; have hz5 : wr.heap.size + 1 ≤ w5.heap.size := (by have := r5.size; simpa using this); clear hb5 r5)
                  | (at_mapUpdate; refine wpList_map_put rfl _ _ _ 89 rfl Tryz.underlying89 Tryz.underlying9 w.heap.size (seenOf seen) MP5.out rfl X.id rfl (.bool true) rfl ?_; intro w6 hm6 hu6 hs6))
                go_roundw
                case rel => exact ⟨i + 1, by omega, by go_num, by rw [HTK.out, ← HSE.out]; exact hm6, HRR.out, (HWB.out.trans (HR5.out.mono (by omega))).trans (hu6.below (Nat.le_refl _) (by omega))⟩
                case measure => simp [intOf]; omega
          · have qm : decide ((0 : Int) ≤ m) = true := decide_eq_true (by omega)
            rw [decide_eq_false hm] at hst
            have hr : R = false := by rw [← hst]; rfl
            have HRR := Lib.hid hr
            clear hlk hst hr hm
            go_wp2_with (with_reducible refine gate ?_; refine wp_load_fee rfl _ rfl b (off + i * 6) rfl _ rfl HR1.out ?_)
            refine wp_region_held_drew (S := fun x => (x.cell? ⟨wr.heap.size, 0, none⟩ = some (.slice PA X.path.length pc) ∧ x.cell? ⟨wr.heap.size, 1, none⟩ = some (.string (S X.id)) ∧ x.cell? ⟨wr.heap.size, 2, none⟩ = some (.string (S X.title)) ∧ x.cell? ⟨wr.heap.size, 3, none⟩ = some (.string (S X.link)) ∧ x.cell? ⟨wr.heap.size, 4, none⟩ = some (.int .i64 X.upd) ∧ x.cell? ⟨wr.heap.size, 5, none⟩ = some (.slice EA X.ents.length ec)) ∧ (x.cell? ⟨b, off + (i - 1) * 6, none⟩ = some (.slice QA P.path.length qc) ∧ x.cell? ⟨b, off + (i - 1) * 6 + 1, none⟩ = some (.string (S P.id)) ∧ x.cell? ⟨b, off + (i - 1) * 6 + 2, none⟩ = some (.string (S P.title)) ∧ x.cell? ⟨b, off + (i - 1) * 6 + 3, none⟩ = some (.string (S P.link)) ∧ x.cell? ⟨b, off + (i - 1) * 6 + 4, none⟩ = some (.int .i64 P.upd) ∧ x.cell? ⟨b, off + (i - 1) * 6 + 5, none⟩ = some (.slice FA P.ents.length fc))) (by kernel_rfl) ?_ (fun hHeld => ?_)
            · (try dsimp only); exact KEEP.out _ (Below.refl _ _).drew
            refine wpAnyH_take (i := 0) (oi := (⟨some 20, _, _, _, _, _⟩ : Oper)) (v := ?_) rfl (by kernel_rfl) (by kernel_rfl) (by kernel_rfl) (fun _ _ _ h => h) (Or.inl ⟨by rfl, ?_⟩) (by assumption) ?_
            rotate_left
            · intro wS hSw; (try dsimp only at hSw); go_simp <;> with_reducible rfl
            simp only [Act.put, List.setIfInBounds_toArray, List.set_cons_zero, List.set_cons_succ]
            refine wpAnyH_take (i := 1) (oi := (⟨some 21, _, _, _, _, _⟩ : Oper)) (v := ?_) rfl (by kernel_rfl) (by kernel_rfl) (by kernel_rfl) (fun _ _ _ h => h) (Or.inl ⟨by rfl, ?_⟩) (by assumption) ?_
            rotate_left
            · intro wS hSw; (try dsimp only at hSw); go_simp <;> with_reducible rfl
            simp only [Act.put, List.setIfInBounds_toArray, List.set_cons_zero, List.set_cons_succ]
            refine wpAnyH_ready (rs := [2]) (by kernel_rfl) (by simp) ?_
            refine AllReadyH.cons (o := (⟨some 22, _, _, _, _, _⟩ : Oper)) rfl (fun K hK => ?_) ?_
            rotate_left
            · exact AllReadyH.nil
            go_simp
            (go_at_call 37; (with_reducible refine (HCK.out _ HWR.out.drew).mono ?_); rintro x w1 ⟨rfl, hb1⟩; have r1 := (Below.refl (wr.heap.size + 1) (wr.alloc (feeBox X PA pc EA ec))).drew.trans (hb1.mono (by simp)); have hz1 : wr.heap.size + 1 ≤ w1.heap.size := (by have := r1.size; simpa using this); clear hb1)
            refine hK.out _ _ ?_ (fun hHeld => ?_)
            · (try dsimp only); exact KEEP.out _ r1
            clear hK K
            try simp only [Act.put, List.setIfInBounds_toArray, List.set_cons_zero, List.set_cons_succ]
            refine wpAnyH_take (i := 3) (oi := (⟨some 23, _, _, _, _, _⟩ : Oper)) (v := ?_) rfl (by kernel_rfl) (by kernel_rfl) (by kernel_rfl) (fun _ _ _ h => h) (Or.inl ⟨by rfl, ?_⟩) (by assumption) ?_
            rotate_left
            · intro wS hSw; (try dsimp only at hSw); go_simp <;> with_reducible rfl
            simp only [Act.put, List.setIfInBounds_toArray, List.set_cons_zero, List.set_cons_succ]
            refine wpAnyH_take (i := 4) (oi := (⟨some 24, _, _, _, _, _⟩ : Oper)) (v := ?_) rfl (by kernel_rfl) (by kernel_rfl) (by kernel_rfl) (fun _ _ _ h => h) (Or.inl ⟨by rfl, ?_⟩) (by assumption) ?_
            rotate_left
            · intro wS hSw; (try dsimp only at hSw); go_simp <;> with_reducible rfl
            simp only [Act.put, List.setIfInBounds_toArray, List.set_cons_zero, List.set_cons_succ]
            refine wpAnyH_take (i := 5) (oi := (⟨some 25, _, _, _, _, _⟩ : Oper)) (v := ?_) rfl (by kernel_rfl) (by kernel_rfl) (by kernel_rfl) (fun _ _ _ h => h) (Or.inl ⟨by rfl, ?_⟩) (by assumption) ?_
            rotate_left
            · intro wS hSw; (try dsimp only at hSw); go_simp <;> with_reducible rfl
            simp only [Act.put, List.setIfInBounds_toArray, List.set_cons_zero, List.set_cons_succ]
            refine wpAnyH_take (i := 6) (oi := (⟨some 26, _, _, _, _, _⟩ : Oper)) (v := ?_) rfl (by kernel_rfl) (by kernel_rfl) (by kernel_rfl) (fun _ _ _ h => h) (Or.inl ⟨by rfl, ?_⟩) (by assumption) ?_
            rotate_left
            · intro wS hSw; (try dsimp only at hSw); go_simp <;> with_reducible rfl
            simp only [Act.put, List.setIfInBounds_toArray, List.set_cons_zero, List.set_cons_succ]
            refine wpAnyH_take (i := 7) (oi := (⟨some 27, _, _, _, _, _⟩ : Oper)) (v := ?_) rfl (by kernel_rfl) (by kernel_rfl) (by kernel_rfl) (fun _ _ _ h => h) (Or.inl ⟨by rfl, ?_⟩) (by assumption) ?_
            rotate_left
            · intro wS hSw; (try dsimp only at hSw); go_simp <;> with_reducible rfl
            simp only [Act.put, List.setIfInBounds_toArray, List.set_cons_zero, List.set_cons_succ]
            refine wpAnyH_take (i := 8) (oi := (⟨some 28, _, _, _, _, _⟩ : Oper)) (v := ?_) rfl (by kernel_rfl) (by kernel_rfl) (by kernel_rfl) (fun _ _ _ h => h) (Or.inl ⟨by rfl, ?_⟩) (by assumption) ?_
            rotate_left
            · intro wS hSw; (try dsimp only at hSw); go_simp <;> with_reducible rfl
            simp only [Act.put, List.setIfInBounds_toArray, List.set_cons_zero, List.set_cons_succ]
            refine wpAnyH_take (i := 9) (oi := (⟨some 29, _, _, _, _, _⟩ : Oper)) (v := ?_) rfl (by kernel_rfl) (by kernel_rfl) (by kernel_rfl) (fun _ _ _ h => h) (Or.inl ⟨by rfl, ?_⟩) (by assumption) ?_
            rotate_left
            · intro wS hSw; (try dsimp only at hSw); go_simp <;> with_reducible rfl
            simp only [Act.put, List.setIfInBounds_toArray, List.set_cons_zero, List.set_cons_succ]
            refine wpAnyH_take (i := 10) (oi := (⟨some 30, _, _, _, _, _⟩ : Oper)) (v := ?_) rfl (by kernel_rfl) (by kernel_rfl) (by kernel_rfl) (fun _ _ _ h => h) (Or.inl ⟨by rfl, ?_⟩) (by assumption) ?_
            rotate_left
            · intro wS hSw; (try dsimp only at hSw); go_simp <;> with_reducible rfl
            simp only [Act.put, List.setIfInBounds_toArray, List.set_cons_zero, List.set_cons_succ]
            refine wpAnyH_take (i := 11) (oi := (⟨some 31, _, _, _, _, _⟩ : Oper)) (v := ?_) rfl (by kernel_rfl) (by kernel_rfl) (by kernel_rfl) (fun _ _ _ h => h) (Or.inl ⟨by rfl, ?_⟩) (by assumption) ?_
            rotate_left
            · intro wS hSw; (try dsimp only at hSw); go_simp <;> with_reducible rfl
            simp only [Act.put, List.setIfInBounds_toArray, List.set_cons_zero, List.set_cons_succ]
            refine wpAnyH_take (i := 12) (oi := (⟨some 32, _, _, _, _, _⟩ : Oper)) (v := ?_) rfl (by kernel_rfl) (by kernel_rfl) (by kernel_rfl) (fun _ _ _ h => h) (Or.inl ⟨by rfl, ?_⟩) (by assumption) ?_
            rotate_left
            · intro wS hSw; (try dsimp only at hSw); go_simp <;> with_reducible rfl
            simp only [Act.put, List.setIfInBounds_toArray, List.set_cons_zero, List.set_cons_succ]
            refine wpAnyH_take (i := 13) (oi := (⟨some 33, _, _, _, _, _⟩ : Oper)) (v := ?_) rfl (by kernel_rfl) (by kernel_rfl) (by kernel_rfl) (fun _ _ _ h => h) (Or.inl ⟨by rfl, ?_⟩) (by assumption) ?_
            rotate_left
            · intro wS hSw; (try dsimp only at hSw); go_simp <;> with_reducible rfl
            simp only [Act.put, List.setIfInBounds_toArray, List.set_cons_zero, List.set_cons_succ]
            refine wpAnyH_take (i := 14) (oi := (⟨some 34, _, _, _, _, _⟩ : Oper)) (v := ?_) rfl (by kernel_rfl) (by kernel_rfl) (by kernel_rfl) (fun _ _ _ h => h) (Or.inl ⟨by rfl, ?_⟩) (by assumption) ?_
            rotate_left
            · intro wS hSw; (try dsimp only at hSw); go_simp <;> with_reducible rfl
            simp only [Act.put, List.setIfInBounds_toArray, List.set_cons_zero, List.set_cons_succ]
            refine wpAnyH_ready (rs := [15]) (by kernel_rfl) (by simp) ?_
            refine AllReadyH.cons (o := (⟨some 35, _, _, _, _, _⟩ : Oper)) rfl (fun K hK => ?_) ?_
            rotate_left
            · exact AllReadyH.nil
            go_simp
            (go_at_call 38; (with_reducible refine (HCM.out _ (HWR.out.trans (r1.mono (by omega)))).mono ?_); rintro x w2 ⟨rfl, hb2⟩; have r2 := r1.trans (hb2.mono hz1); have hz2 : wr.heap.size + 1 ≤ w2.heap.size := (by have := r2.size; simpa using this); clear hb2)
            refine hK.out _ _ ?_ (fun hHeld => ?_)
            · (try dsimp only); exact KEEP.out _ r2
            clear hK K
            try simp only [Act.put, List.setIfInBounds_toArray, List.set_cons_zero, List.set_cons_succ]
            refine wpAnyH_take (i := 16) (oi := (⟨some 36, _, _, _, _, _⟩ : Oper)) (v := ?_) rfl (by kernel_rfl) (by kernel_rfl) (by kernel_rfl) (fun _ _ _ h => h) (Or.inl ⟨by rfl, ?_⟩) (by assumption) ?_
            rotate_left
            · intro wS hSw; (try dsimp only at hSw); go_simp <;> with_reducible rfl
            simp only [Act.put, List.setIfInBounds_toArray, List.set_cons_zero, List.set_cons_succ]
            refine wpAnyH_take (i := 17) (oi := (⟨some 37, _, _, _, _, _⟩ : Oper)) (v := ?_) rfl (by kernel_rfl) (by kernel_rfl) (by kernel_rfl) (fun _ _ _ h => h) (Or.inl ⟨by rfl, ?_⟩) (by assumption) ?_
            rotate_left
            · intro wS hSw; (try dsimp only at hSw); go_simp <;> with_reducible rfl
            simp only [Act.put, List.setIfInBounds_toArray, List.set_cons_zero, List.set_cons_succ]
            refine wpAnyH_take (i := 18) (oi := (⟨some 38, _, _, _, _, _⟩ : Oper)) (v := ?_) rfl (by kernel_rfl) (by kernel_rfl) (by kernel_rfl) (fun _ _ _ h => h) (Or.inl ⟨by rfl, ?_⟩) (by assumption) ?_
            rotate_left
            · intro wS hSw; (try dsimp only at hSw); go_simp <;> with_reducible rfl
            simp only [Act.put, List.setIfInBounds_toArray, List.set_cons_zero, List.set_cons_succ]
            refine wpAnyH_take (i := 19) (oi := (⟨some 39, _, _, _, _, _⟩ : Oper)) (v := ?_) rfl (by kernel_rfl) (by kernel_rfl) (by kernel_rfl) (fun _ _ _ h => h) (Or.inl ⟨by rfl, ?_⟩) (by assumption) ?_
            rotate_left
            · intro wS hSw; (try dsimp only at hSw); go_simp <;> with_reducible rfl
            simp only [Act.put, List.setIfInBounds_toArray, List.set_cons_zero, List.set_cons_succ]
            refine wpAnyH_take (i := 20) (oi := (⟨some 40, _, _, _, _, _⟩ : Oper)) (v := undef) rfl (by kernel_rfl) (by kernel_rfl) (by kernel_rfl) (fun _ _ _ h => h) (Or.inr ⟨by rfl, rfl⟩) (by assumption) ?_
            simp only [Act.put, List.setIfInBounds_toArray, List.set_cons_zero, List.set_cons_succ]
            refine wpAnyH_take (i := 21) (oi := (⟨some 41, _, _, _, _, _⟩ : Oper)) (v := undef) rfl (by kernel_rfl) (by kernel_rfl) (by kernel_rfl) (fun _ _ _ h => h) (Or.inr ⟨by rfl, rfl⟩) (by assumption) ?_
            simp only [Act.put, List.setIfInBounds_toArray, List.set_cons_zero, List.set_cons_succ]
            refine wpAnyH_take (i := 22) (oi := (⟨some 42, _, _, _, _, _⟩ : Oper)) (v := undef) rfl (by kernel_rfl) (by kernel_rfl) (by kernel_rfl) (fun _ _ _ h => h) (Or.inr ⟨by rfl, rfl⟩) (by assumption) ?_
            simp only [Act.put, List.setIfInBounds_toArray, List.set_cons_zero, List.set_cons_succ]
            refine wpAnyH_take (i := 23) (oi := (⟨some 43, _, _, _, _, _⟩ : Oper)) (v := undef) rfl (by kernel_rfl) (by kernel_rfl) (by kernel_rfl) (fun _ _ _ h => h) (Or.inr ⟨by rfl, rfl⟩) (by assumption) ?_
            simp only [Act.put, List.setIfInBounds_toArray, List.set_cons_zero, List.set_cons_succ]
            refine wpAnyH_take (i := 24) (oi := (⟨some 44, _, _, _, _, _⟩ : Oper)) (v := undef) rfl (by kernel_rfl) (by kernel_rfl) (by kernel_rfl) (fun _ _ _ h => h) (Or.inr ⟨by rfl, rfl⟩) (by assumption) ?_
            simp only [Act.put, List.setIfInBounds_toArray, List.set_cons_zero, List.set_cons_succ]
            refine wpAnyH_take (i := 25) (oi := (⟨some 45, _, _, _, _, _⟩ : Oper)) (v := ?_) rfl (by kernel_rfl) (by kernel_rfl) (by kernel_rfl) (fun _ _ _ h => h) (Or.inl ⟨by rfl, ?_⟩) (by assumption) ?_
            rotate_left
            · intro wS hSw; (try dsimp only at hSw); go_simp <;> with_reducible rfl
            simp only [Act.put, List.setIfInBounds_toArray, List.set_cons_zero, List.set_cons_succ]
            refine wpAnyH_done (by kernel_rfl) ?_ _
            all_goals
              have HRB := Lib.hid r2
              clear r2
              go_wp2_with fail
              go_ret
              exact ⟨ret_bool HRR.out.symm, HWB.out.trans (HRB.out.mono (by omega))⟩
    · obtain rfl : i = l.length := by omega
      rw [ordG_end] at hres
      subst hres
      have hlt' : ¬ (l.length : Int) < l.length := by omega
      go_wp2_with fail
      go_ret
      exact ⟨rfl, HB.out⟩
end Go.Proofs.YtadkgjbidhfefaaGreatDoor
