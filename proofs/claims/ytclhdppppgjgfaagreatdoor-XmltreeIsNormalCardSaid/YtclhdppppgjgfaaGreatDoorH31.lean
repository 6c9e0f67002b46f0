/-
  Several texts in one file, in build order:
  - Walk of chapter 7's statements: normal.
  - Walk of chapter 7's statement IsNormal.
-/
import Derived.Test.YtclhdppppgjgfaaGreatDoorH17
import Derived.Test.YtclhdppppgjgfaaGreatDoorH30
import Derived.Test.YtclhdppppgjgfaaGreatDoorH21
import Derived.Test.YtclhdppppgjgfaaGreatDoorH24
import Derived.Test.YtclhdppppgjgfaaGreatDoorH26
set_option linter.unusedVariables false
namespace Go.Proofs.YtclhdppppgjgfaaGreatDoor
open Go.RowKit

theorem nrmL_get : ∀ {ks : List Node} {b : Bool}, nrmL b ks = true → ∀ (i : Nat) (h : i < ks.length), nrm ks[i] = true ∧ (ks[i].kind = 1 → ks[i].text ≠ [] ∧ (i = 0 → b = false) ∧ ∀ j (hj : j + 1 = i), (ks[j]'(by omega)).kind ≠ 1)
  | [], _, _, i, h => by simp at h
  | k :: ks, b, hn, i, h => by
    rw [nrmL] at hn
    simp only [Bool.and_eq_true, Bool.not_eq_true'] at hn
    cases i with
    | zero =>
      refine ⟨hn.1.2, fun hk => ?_⟩
      simp only [List.getElem_cons_zero] at hk ⊢
      have h1 := hn.1.1
      simp only [hk, beq_self_eq_true, Bool.true_and, Bool.or_eq_false_iff, beq_eq_false_iff_ne] at h1
      exact ⟨h1.1, fun _ => h1.2, fun j hj => by omega⟩
    | succ i =>
      have ih := nrmL_get hn.2 i (by simpa using h)
      simp only [List.getElem_cons_succ]
      refine ⟨ih.1, fun hk => ?_⟩
      obtain ⟨h1, h2, h3⟩ := ih.2 hk
      refine ⟨h1, fun e => by omega, fun j hj => ?_⟩
      cases j with
      | zero =>
        have h4 : i = 0 := by omega
        have h5 := h2 h4
        simp only [List.getElem_cons_zero]
        simpa using h5
      | succ j =>
        simp only [List.getElem_cons_succ]
        exact h3 j (by omega)

set_option maxHeartbeats 4000000 in
theorem normal7_any (m : Nat) : ∀ (n : Node) (v : Value) (w : World), nsz n ≤ m → Fit n → nrm n = true → NodeV w w.heap.size n v →
    Calls Tryz.prog 23 #[v] w fun e w' => e = .returned (.int .i64 1) ∧ Below w.heap.size w w' := by
  induction m with
  | zero => intro n v w h; cases n; rw [nsz] at h; omega
  | succ m ih =>
    intro n v w hm hfit hz hv
    obtain ⟨A, cap, K, kcap, rfl, ha, hk, hcap, hkcap⟩ := hv.open_
    obtain ⟨hal, hkl, hfk⟩ := hfit.form
    rw [nrm_eq] at hz
    have HIH := Lib.hid ih
    have HK := Lib.hid hk
    have HM := Lib.hid hm
    have HZ := Lib.hid hz
    have HFK := Lib.hid hfk
    clear ih ha hk hv hm hfk hz hfit
    go_enter Tryz.func23, Tryz.ntmps23
    go_wp2_with fail
    go_loopw [8] (fun i8 wr => ∃ i : Nat, i ≤ n.kids.length ∧ i8 = .int .i64 i ∧ Below (w.heap.size + 1) (w.alloc (nodeBox n A cap K kcap)) wr) (fun i8 _ => n.kids.length - (intOf i8).toNat)
    case atStart => exact ⟨0, Nat.zero_le _, rfl, Below.refl _ _⟩
    case round =>
      obtain ⟨i, hi, rfl, hb⟩ := hrel
      have hbw : Below w.heap.size w wr := ((Below.refl _ _).alloc (Nat.le_refl _) _).trans (hb.mono (by omega))
      have hbox : wr.heap[w.heap.size]? = some (nodeBox n A cap K kcap) := (hb.block _ (by omega)).trans (heap_alloc_new w _)
      have hsz2 := hb.size
      simp only [World.size_alloc] at hsz2
      have HB2 := Lib.hid hb
      have HBW2 := Lib.hid hbw
      have HBX := Lib.hid hbox
      clear hb hbw hbox
      by_cases hlt : i < n.kids.length
      · have hk := HK.out
        obtain ⟨hz1, hz2⟩ := nrmL_get HZ.out i hlt
        have hprev : ∀ j (hj : j + 1 = i), ∃ b off, K = some ⟨b, off, none⟩ ∧ wr.cell? ⟨b, off + j * 7, none⟩ = some (.int .i64 (n.kids[j]'(by omega)).kind) := by
          intro j hj
          obtain ⟨b, off, cs, rfl, hbl, hr, hcs⟩ := HK.out.at_ (show j < n.kids.length by omega)
          obtain ⟨A', c', K', d', rfl, _⟩ := hcs.open_
          exact ⟨b, off, rfl, rangeAt_keep hr (HBW2.out.block b hbl) 0 _ rfl⟩
        obtain ⟨b, off, cs, rfl, hbl, hr, hcs⟩ := HK.out.at_ hlt
        have hr' : wr.rangeAt b (off + i * 7) cs := rangeAt_keep hr (HBW2.out.block b hbl)
        have hnv : NodeV w w.heap.size n.kids[i] (.agg cs.toArray) := ⟨cs, rfl, hcs⟩
        obtain ⟨A', c', K', d', rfl, ha', hk', _, _⟩ := hcs.open_
        have hsn : nsz n.kids[i] ≤ m := by have := nsz_get n hlt; have := HM.out; omega
        have hfk := HFK.out _ (List.getElem_mem hlt)
        obtain ⟨W5, hW5⟩ : ∃ W5, wr.alloc (nodeBox n.kids[i] A' c' K' d') = W5 := ⟨_, rfl⟩
        have hb5 : Below wr.heap.size wr W5 := by rw [← hW5]; exact (Below.refl _ _).alloc (Nat.le_refl _) _
        have hg5 : W5.heap[wr.heap.size]? = some (nodeBox n.kids[i] A' c' K' d') := by rw [← hW5]; exact heap_alloc_new _ _
        have hb6 := HBW2.out.trans (hb5.mono HBW2.out.size)
        have HC := Lib.hid (HIH.out n.kids[i] _ W5 hsn hfk hz1 (hnv.keep hb6.block hb6.size))
        have HB5 := Lib.hid (HB2.out.trans (hb5.mono (by omega)))
        have HRR := Lib.hid hr'
        have hz5 := hb5.size
        have hbox5 : W5.heap[w.heap.size]? = some (nodeBox n (some ⟨b, off, none⟩) cap (some ⟨b, off, none⟩) kcap) ∨ True := .inr trivial
        have c4 : wr.cell? ⟨w.heap.size, 4, none⟩ = some (.slice (some ⟨b, off, none⟩) n.kids.length kcap) := (box_cells HBX.out).2.2.2.2.1
        have c4' : W5.cell? ⟨w.heap.size, 4, none⟩ = some (.slice (some ⟨b, off, none⟩) n.kids.length kcap) := (box_cells ((hb5.block _ (heap_lt HBX.out)).trans HBX.out)).2.2.2.2.1
        obtain ⟨f0, f1, f2, f3, f4, f5, f6⟩ := box_cells hg5
        have hprev5 : ∀ j (hj : j + 1 = i), W5.cell? ⟨b, off + j * 7, none⟩ = some (.int .i64 (n.kids[j]'(by omega)).kind) := by
          intro j hj
          obtain ⟨b', off', hK, hc⟩ := hprev j hj
          cases hK
          exact (World.cell?_of_block (w := wr) (a := ⟨b, off + j * 7, none⟩) (hb5.block b (by have := HBW2.out.size; show b < _; omega))).trans hc
        clear hr hr' hcs ha' hk' hnv hsn hg5 hb5 hb6 hfk hprev hbox5 hk
        by_cases hkk : n.kids[i].kind = 1
        · obtain ⟨g1, _, g3⟩ := hz2 hkk
          have t1 : (n.kids[i].kind == 1) = true := by rw [hkk]; rfl
          have t2 : List.isEmpty n.kids[i].text = false := by
            cases hq : n.kids[i].text with
            | nil => exact absurd hq g1
            | cons a x => rfl
          cases i with
          | zero =>
            generalize n.kids[0] = nk at *
            clear hprev5 g3 hz2 hkk
            go_wp2_with (first
              | (with_reducible refine gate ?_; refine wp_load_node rfl _ rfl b (off + 0 * 7) rfl _ rfl HRR.out ?_)
              | (go_at_call 23; refine HC.out.mono ?_; rintro e w' ⟨rfl, hb'⟩))
            go_roundw
            case rel => exact ⟨1, by omega, by go_num, HB5.out.trans (hb'.mono (by omega))⟩
            case measure => simp [intOf]; omega
          | succ j =>
            have hp := hprev5 j rfl
            have t3 : ((n.kids[j]'(by omega)).kind == 1) = false := by
              rw [beq_eq_false_iff_ne]; exact g3 j rfl
            generalize (n.kids[j]'(by omega)).kind = pk at *
            generalize n.kids[j + 1] = nk at *
            clear hprev5 g3 hz2 hkk
            go_wp2_with (first
              | (with_reducible refine gate ?_; refine wp_load_node rfl _ rfl b (off + (j + 1) * 7) rfl _ rfl HRR.out ?_)
              | (go_at_call 23; refine HC.out.mono ?_; rintro e w' ⟨rfl, hb'⟩))
            go_roundw
            case rel => exact ⟨j + 1 + 1, by omega, by go_num, HB5.out.trans (hb'.mono (by omega))⟩
            case measure => simp [intOf]; omega
        · have t1 : (n.kids[i].kind == 1) = false := by rw [beq_eq_false_iff_ne]; exact hkk
          generalize n.kids[i] = nk at *
          clear hprev5 hz2 hkk
          go_wp2_with (first
            | (with_reducible refine gate ?_; refine wp_load_node rfl _ rfl b (off + i * 7) rfl _ rfl HRR.out ?_)
            | (go_at_call 23; refine HC.out.mono ?_; rintro e w' ⟨rfl, hb'⟩))
          go_roundw
          case rel => exact ⟨i + 1, by omega, by go_num, HB5.out.trans (hb'.mono (by omega))⟩
          case measure => simp [intOf]; omega
      · obtain rfl : i = n.kids.length := by omega
        go_wp2_with fail
        go_ret
        exact ⟨rfl, HBW2.out⟩
end Go.Proofs.YtclhdppppgjgfaaGreatDoor
set_option linter.unusedVariables false
namespace Go.Proofs.YtclhdppppgjgfaaGreatDoor
open Go.RowKit

set_option maxHeartbeats 4000000 in
set_option maxRecDepth 100000 in
theorem law7normal_any (l : Bytes) (m : Int) (w : World) (hT : Tabs w) (hM : MaxLen m w) (hl : l.length ≤ 9223372036854775807) :
    Calls Tryz.prog 5 #[.string (S l)] w fun e w' => e = .returned (.bool true) ∧ Below w.heap.size w w' := by
  have hal := fun W => fun (hW : Below w.heap.size w W) => alive7_any m W (hT.next hW) (hM.below hW)
  have HAL := Lib.hid hal
  by_cases h5 : 3000 < l.length
  · have h5' : (3000 : Int) < l.length := by omega
    clear hal hT hM
    go_enter Tryz.func5, Tryz.ntmps5
    go_wp2_with (go_at_call 11; refine (HAL.out _ (Below.refl _ _)).mono ?_; rintro e w1 ⟨rfl, hb1⟩)
    go_ret
    exact ⟨rfl, hb1⟩
  · have h5' : ¬ (3000 : Int) < l.length := by omega
    have h1 := parse7_both l m w hT hM (by omega)
    have hfx := treeR_facts (l := l) (by omega)
    unfold BothR at h1
    cases hR : parse l with
    | error q =>
      have hq := parse_errpos hR
      have heq := fun W v u (hv : NodeV W W.heap.size zNodeN v) (hu : NodeV W W.heap.size zNodeN u) => refEqual_any true _ _ v u W hv hu (fit_of_full (by decide)) (fit_of_full (by decide))
      simp only [eqv_refl7] at heq
      rw [hR] at h1
      simp only [treeR, atR, erR] at h1
      obtain ⟨x, y⟩ := q
      obtain ⟨⟨hx1, hx2⟩, hy⟩ := hq
      simp only at hx1 hx2 hy h1
      have t1 : ((y : Int) != 0) = true := by simp [hy]
      have H1 := Lib.hid h1
      have HEQ := Lib.hid heq
      clear hal hT hM h1 heq hfx hR hy
      go_enter Tryz.func5, Tryz.ntmps5
      go_wp2_with fail
      refine H1.out.mono ?_
      rintro e w1 ⟨⟨A1, c1, K1, d1, rfl, hv1⟩, hb1⟩
      have N1 := Lib.hid (Nbx.new hv1)
      have BB1 := Lib.hid (hb1.alloc hb1.size (nodeBox zNodeN A1 c1 K1 d1))
      clear hv1 hb1
      go_wp2_with fail
      obtain ⟨b1, hw1⟩ : ∃ b1, w1.heap.size = b1 := ⟨_, rfl⟩
      rw [hw1] at N1 ⊢
      clear hw1
      generalize w1.alloc (nodeBox zNodeN A1 c1 K1 d1) = W1 at *
      refine (HAL.out W1 BB1.out).mono ?_
      rintro e w3 ⟨rfl, hb3⟩
      have N1c := Lib.hid (N1.out.keep hb3)
      have BB3 := Lib.hid (BB1.out.trans (hb3.mono BB1.out.size))
      obtain ⟨x0, x1, x2, x3, x4, x5, x6⟩ := N1c.out.cells
      clear hb3 N1
      go_wp2_with fail
      refine (HEQ.out w3 _ _ N1c.out.tree (zNodeV7 _ _)).mono ?_
      rintro e w4 ⟨rfl, hb4⟩
      go_wp2_with fail
      go_ret
      exact ⟨rfl, BB3.out.trans (hb4.mono BB3.out.size)⟩
    | ok n =>
      have hsh := parse_shape hR
      have hnr := parse_nrm hR
      rw [hR] at h1 hfx
      simp only [treeR, atR, erR] at h1 hfx
      have hsz := nsz_full n
      have hdp := fun W v (hv : NodeV W W.heap.size n v) => refDepth_any 500000 n v W (by omega) (by decide) hv
      have hnm := fun W v (hv : NodeV W W.heap.size n v) => normal7_any 500000 n v W (by omega) hfx.2.1 hnr hv
      have t2 : (n.kind == 0) = true := by rw [hsh.1]; rfl
      have t3 : ((depth n : Nat) : Int) ≤ 100 := by have := hsh.2; omega
      generalize depth n = dn at *
      have H1 := Lib.hid h1
      have HDP := Lib.hid hdp
      have HNM := Lib.hid hnm
      clear hal hT hM h1 hfx hR hsh hnr hdp hnm hsz
      go_enter Tryz.func5, Tryz.ntmps5
      go_wp2_with fail
      refine H1.out.mono ?_
      rintro e w1 ⟨⟨A1, c1, K1, d1, rfl, hv1⟩, hb1⟩
      have N1 := Lib.hid (Nbx.new hv1)
      have BB1 := Lib.hid (hb1.alloc hb1.size (nodeBox n A1 c1 K1 d1))
      clear hv1 hb1
      go_wp2_with fail
      obtain ⟨b1, hw1⟩ : ∃ b1, w1.heap.size = b1 := ⟨_, rfl⟩
      rw [hw1] at N1 ⊢
      clear hw1
      generalize w1.alloc (nodeBox n A1 c1 K1 d1) = W1 at *
      refine (HAL.out W1 BB1.out).mono ?_
      rintro e w3 ⟨rfl, hb3⟩
      have N3 := Lib.hid (N1.out.keep hb3)
      have BB3 := Lib.hid (BB1.out.trans (hb3.mono BB1.out.size))
      obtain ⟨x0, x1, x2, x3, x4, x5, x6⟩ := N3.out.cells
      clear hb3 N1
      go_wp2_with fail
      refine (HDP.out w3 _ N3.out.tree).mono ?_
      rintro e w4 ⟨rfl, hb4⟩
      have N4 := Lib.hid (N3.out.keep hb4)
      have BB4 := Lib.hid (BB3.out.trans (hb4.mono BB3.out.size))
      clear x0 x1 x2 x3 x4 x5 x6
      obtain ⟨x0, x1, x2, x3, x4, x5, x6⟩ := N4.out.cells
      clear hb4 N3
      go_wp2_with fail
      refine (HNM.out w4 _ N4.out.tree).mono ?_
      rintro e w5 ⟨rfl, hb5⟩
      go_wp2_with fail
      go_ret
      exact ⟨rfl, BB4.out.trans (hb5.mono BB4.out.size)⟩
end Go.Proofs.YtclhdppppgjgfaaGreatDoor
