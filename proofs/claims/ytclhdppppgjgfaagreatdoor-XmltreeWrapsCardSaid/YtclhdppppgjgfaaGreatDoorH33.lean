/-
  Several texts in one file, in build order:
  - Walk of chapter 7's statement Wraps.
-/
import Derived.Test.YtclhdppppgjgfaaGreatDoorH21
import Derived.Test.YtclhdppppgjgfaaGreatDoorH17
import Derived.Test.YtclhdppppgjgfaaGreatDoorH24
import Derived.Test.YtclhdppppgjgfaaGreatDoorH26
import Derived.Test.YtclhdppppgjgfaaGreatDoorH30
set_option linter.unusedVariables false
namespace Go.Proofs.YtclhdppppgjgfaaGreatDoor
open Go.RowKit

set_option maxHeartbeats 8000000 in
set_option maxRecDepth 100000 in
theorem law7wraps_any (l : Bytes) (m : Int) (w : World) (hT : Tabs w) (hM : MaxLen m w) (hl : l.length ≤ 9223372036854775807) :
    Calls Tryz.prog 7 #[.string (S l)] w fun e w' => e = .returned (.bool true) ∧ Below w.heap.size w w' := by
  have hal := fun W => fun (hW : Below w.heap.size w W) => alive7_any m W (hT.next hW) (hM.below hW)
  have HAL := Lib.hid hal
  by_cases h5 : 3000 < l.length
  · have h5' : (3000 : Int) < l.length := by omega
    clear hal hT hM
    go_enter Tryz.func7, Tryz.ntmps7
    go_wp2_with (go_at_call 11; refine (HAL.out _ (Below.refl _ _)).mono ?_; rintro e w1 ⟨rfl, hb1⟩)
    go_ret
    exact ⟨rfl, hb1⟩
  · have h5' : ¬ (3000 : Int) < l.length := by omega
    have h1 := refParse_both l w (by omega)
    have hfx := treeR_facts (l := l) (by omega)
    unfold BothR at h1
    cases hR : parse l with
    | error q =>
      have hq := parse_errne hR
      rw [hR] at h1
      simp only [treeR, atR, erR] at h1
      obtain ⟨x, y⟩ := q
      have t1 : ((y : Int) != 0) = true := by simpa using hq
      have H1 := Lib.hid h1
      clear hal hT hM h1 hfx hR hq
      go_enter Tryz.func7, Tryz.ntmps7
      go_wp2_with fail
      refine H1.out.mono ?_
      rintro e w1 ⟨⟨A1, c1, K1, d1, rfl, hv1⟩, hb1⟩
      have BB1 := Lib.hid (hb1.alloc hb1.size (nodeBox zNodeN A1 c1 K1 d1))
      clear hv1 hb1
      go_wp2_with (go_at_call 11; refine (HAL.out _ BB1.out).mono ?_; rintro e w2 ⟨rfl, hb2⟩)
      go_ret
      exact ⟨rfl, BB1.out.trans (hb2.mono BB1.out.size)⟩
    | ok n =>
      rw [hR] at h1 hfx
      simp only [treeR, atR, erR] at h1 hfx
      have hsz := nsz_full n
      have hdp := fun W v (hv : NodeV W W.heap.size n v) => refDepth_any 500000 n v W (by omega) (by decide) hv
      have i1 := fun W => Tryz.strings_HasPrefix (S l) ⟨#[60]⟩ W
      rw [S_data, show Lib.hasPrefix l [60] = hasAt l 0 sLt from rfl] at i1
      have i2 := fun W => Tryz.strings_HasPrefix (S l) ⟨#[60, 33]⟩ W
      rw [S_data, show Lib.hasPrefix l [60, 33] = hasAt l 0 sBang from rfl] at i2
      have i3 := fun W => Tryz.strings_HasPrefix (S l) ⟨#[60, 63]⟩ W
      rw [S_data, show Lib.hasPrefix l [60, 63] = hasAt l 0 sPi from rfl] at i3
      have i4 := fun W => Tryz.strings_HasSuffix (S l) ⟨#[62]⟩ W (by rw [S_size]; omega)
      rw [S_data] at i4
      have hcase : (hasAt l 0 sLt = false) ∨ (hasAt l 0 sLt = true ∧ hasAt l 0 sBang = true) ∨ (hasAt l 0 sLt = true ∧ hasAt l 0 sBang = false ∧ hasAt l 0 sPi = true) ∨ (hasAt l 0 sLt = true ∧ hasAt l 0 sBang = false ∧ hasAt l 0 sPi = false ∧ Lib.hasSuffix l [62] = false) ∨ (hasAt l 0 sLt = true ∧ hasAt l 0 sBang = false ∧ hasAt l 0 sPi = false ∧ Lib.hasSuffix l [62] = true ∧ (100 : Int) ≤ (depth n : Nat)) ∨ (hasAt l 0 sLt = true ∧ hasAt l 0 sBang = false ∧ hasAt l 0 sPi = false ∧ Lib.hasSuffix l [62] = true ∧ ¬ (100 : Int) ≤ (depth n : Nat)) := by
        cases hasAt l 0 sLt <;> cases hasAt l 0 sBang <;> cases hasAt l 0 sPi <;> cases Lib.hasSuffix l [62] <;> by_cases hh : (100 : Int) ≤ (depth n : Nat) <;> simp [hh]
      have H1 := Lib.hid h1
      have HDP := Lib.hid hdp
      have I1 := Lib.hid i1
      have I2 := Lib.hid i2
      have I3 := Lib.hid i3
      have I4 := Lib.hid i4
      clear hal h1 hdp i1 i2 i3 i4
      rcases hcase with g1 | ⟨g1, g2⟩ | ⟨g1, g2, g3⟩ | ⟨g1, g2, g3, g4⟩ | ⟨g1, g2, g3, g4, g5⟩ | hmain
      case inr.inr.inr.inr.inr =>
        obtain ⟨g1, g2, g3, g4, g5⟩ := hmain
        obtain ⟨mm, ks, hpw, hmn, hmk, hmp⟩ := parse_wrap hR g1 g2 g3 (by omega)
        have hlen : (sWrap ++ (l ++ sWrapEnd)).length = l.length + 13 := by simp [sWrap, sWrapEnd]
        have h6 := fun W (hW : Below w.heap.size w W) => parse7_both (sWrap ++ (l ++ sWrapEnd)) m W (hT.next hW) (hM.below hW) (by rw [hlen]; omega)
        have hfw := treeR_facts (l := sWrap ++ (l ++ sWrapEnd)) (by rw [hlen]; omega)
        unfold BothR at h6
        rw [hpw] at h6 hfw
        simp only [treeR, atR, erR] at h6 hfw
        rw [hlen, show ((l.length + 13 : Nat) : Int) = (l.length : Int) + 13 from rfl] at h6
        have hfk : Fit (shNd 6 n) := hfw.2.1.form.2.2 _ (by rw [hmk]; simp)
        have heq := fun W v u (hv : NodeV W W.heap.size n v) (hu : NodeV W W.heap.size (shNd 6 n) u) => refEqual_any false n (shNd 6 n) v u W hv hu hfx.2.1 hfk
        simp only [eqv_sh] at heq
        have hkl : mm.kids.length = ks.length + 1 := by rw [hmk]; rfl
        have hk0 : ∀ hh : 0 < mm.kids.length, mm.kids[0]'hh = shNd 6 n := by rw [hmk]; intro _; rfl
        rw [g1] at I1
        rw [g2] at I2
        rw [g3] at I3
        rw [g4] at I4
        have h6' : ∀ W, Below w.heap.size w W → Calls Tryz.prog 12 #[.string (S (60 :: 119 :: 114 :: 97 :: 112 :: 62 :: (l ++ [60, 47, 119, 114, 97, 112, 62])))] W _ := h6
        have H6 := Lib.hid h6'
        clear h6'
        generalize shNd 6 n = Y at *
        have HEQ := Lib.hid heq
        have HKL := Lib.hid hkl
        have HK0 := Lib.hid hk0
        have HMN := Lib.hid hmn
        have HMP := Lib.hid hmp
        generalize depth n = dn at *
        clear hT hM hfx hR hsz hpw hmn hmk hlen h6 hfw hfk heq hkl hk0 hmp g1 g2 g3 g4
        go_enter Tryz.func7, Tryz.ntmps7
        go_wp2_with fail
        refine H1.out.mono ?_
        rintro e w1 ⟨⟨A1, c1, K1, d1, rfl, hv1⟩, hb1⟩
        have N1 := Lib.hid (Nbx.new hv1)
        have BB1 := Lib.hid (hb1.alloc hb1.size (nodeBox n A1 c1 K1 d1))
        clear hv1 hb1
        go_wp2_with fail
        obtain ⟨b1, hw1⟩ : ∃ b1, w1.heap.size = b1 := ⟨_, rfl⟩
        rw [hw1] at N1 ⊢
        clear hw1
        generalize w1.alloc (nodeBox n A1 c1 K1 d1) = W1 at *
        obtain ⟨x0, x1, x2, x3, x4, x5, x6⟩ := N1.out.cells
        go_wp2_with (first
          | (go_at_call 24; first
            | ((with_reducible refine (I1.out _).mono ?_); rintro e q ⟨rfl, hw⟩; rw [hw]; clear hw q)
            | ((with_reducible refine (I2.out _).mono ?_); rintro e q ⟨rfl, hw⟩; rw [hw]; clear hw q)
            | ((with_reducible refine (I3.out _).mono ?_); rintro e q ⟨rfl, hw⟩; rw [hw]; clear hw q))
          | (go_at_call 25; refine (I4.out _).mono ?_; rintro e q ⟨rfl, hw⟩; rw [hw]; clear hw q)
          | (go_at_call 20; refine (HDP.out _ _ N1.out.tree).mono ?_; rintro e w2 ⟨rfl, hb2⟩; have N2 := Lib.hid (N1.out.keep hb2); have BB2 := Lib.hid (BB1.out.trans (hb2.mono BB1.out.size)); clear hb2))
        clear x0 x1 x2 x3 x4 x5 x6 N1 BB1
        refine (H6.out _ BB2.out).mono ?_
        rintro e w3 ⟨⟨A2, c2, K2, d2, rfl, hv2⟩, hb3⟩
        have M3 := Lib.hid (Nbx.new hv2)
        have X3 := hb3.alloc hb3.size (nodeBox mm A2 c2 K2 d2)
        have N3 := Lib.hid (N2.out.keep X3)
        have BB3 := Lib.hid (BB2.out.trans (X3.mono BB2.out.size))
        obtain ⟨b3, hw3⟩ : ∃ b3, w3.heap.size = b3 := ⟨_, rfl⟩
        have hm3 := M3.out.cells
        have y2 : (w3.alloc (nodeBox mm A2 c2 K2 d2)).cell? ⟨w3.heap.size, 2, none⟩ = some (.string ⟨#[119, 114, 97, 112]⟩) := by
          have := hm3.2.2.1
          rw [HMN.out] at this
          exact this
        have y4 := hm3.2.2.2.2.1
        have hkl0 : ((mm.kids.length : Int) == 0) = false := by rw [HKL.out, beq_eq_false_iff_ne]; omega
        have hkl1 : 0 < mm.kids.length := by rw [HKL.out]; omega
        have hkl2 : (0 : Int) < mm.kids.length := by omega
        have hv3 := hv2.keep (w' := w3.alloc (nodeBox mm A2 c2 K2 d2)) (B' := (w3.alloc (nodeBox mm A2 c2 K2 d2)).heap.size) (fun k hk => Below.heap_alloc _ _ _ hk) (by simp)
        obtain ⟨A2', c2', K2', d2', hvv, _, hk2, _, _⟩ := hv3.open_
        obtain ⟨rfl, rfl, rfl, rfl⟩ : A2 = A2' ∧ c2 = c2' ∧ K2 = K2' ∧ d2 = d2' := by
          injection hvv with h1
          simp at h1
          exact ⟨h1.1.1, h1.1.2, h1.2.1, h1.2.2⟩
        obtain ⟨kb, koff, kcs, rfl, hkb, hkr, hkn⟩ := hk2.at_ hkl1
        rw [HK0.out hkl1] at hkn
        obtain ⟨A5, c5, K5, d5, rfl, _, _, _, _⟩ := hkn.open_
        have hnk : NodeV (w3.alloc (nodeBox mm A2 c2 (some ⟨kb, koff, none⟩) d2)) (w3.alloc (nodeBox mm A2 c2 (some ⟨kb, koff, none⟩) d2)).heap.size Y (nodeAgg Y A5 c5 K5 d5) := ⟨_, rfl, hkn⟩
        have NK := Lib.hid hnk
        have KR := Lib.hid hkr
        have HKB := Lib.hid hkb
        clear hv2 hb3 X3 hm3 hv3 hvv hk2 hkr hkn hnk hkb N2
        generalize hW3 : w3.alloc (nodeBox mm A2 c2 (some ⟨kb, koff, none⟩) d2) = W3 at *
        rw [hw3] at M3 y2 y4
        go_wp2_with fail
        clear y2 y4 hkl0
        clear hw3 hW3
        have hKP : ∀ W, Below W3.heap.size W3 W → ((W.cell? ⟨b1, 0, none⟩ = some (.int .i64 n.kind) ∧ W.cell? ⟨b1, 1, none⟩ = some (.string (S n.space)) ∧ W.cell? ⟨b1, 2, none⟩ = some (.string (S n.name)) ∧ W.cell? ⟨b1, 3, none⟩ = some (.slice A1 n.attrs.length c1) ∧ W.cell? ⟨b1, 4, none⟩ = some (.slice K1 n.kids.length d1) ∧ W.cell? ⟨b1, 5, none⟩ = some (.string (S n.text)) ∧ W.cell? ⟨b1, 6, none⟩ = some (.int .i64 n.pos)) ∧ W.cell? ⟨b3, 4, none⟩ = some (.slice (some ⟨kb, koff, none⟩) mm.kids.length d2) ∧ (W.cell? ⟨kb, koff, none⟩ = some (.int .i64 Y.kind) ∧ W.cell? ⟨kb, koff + 1, none⟩ = some (.string (S Y.space)) ∧ W.cell? ⟨kb, koff + 2, none⟩ = some (.string (S Y.name)) ∧ W.cell? ⟨kb, koff + 3, none⟩ = some (.slice A5 Y.attrs.length c5) ∧ W.cell? ⟨kb, koff + 4, none⟩ = some (.slice K5 Y.kids.length d5) ∧ W.cell? ⟨kb, koff + 5, none⟩ = some (.string (S Y.text)) ∧ W.cell? ⟨kb, koff + 6, none⟩ = some (.int .i64 6))) := fun W hW => by
          have hr := rangeAt_keep KR.out (hW.block kb HKB.out)
          rw [HMP.out] at hr
          exact ⟨(N3.out.keep hW).cells, (M3.out.keep hW).cells.2.2.2.2.1, hr 0 _ rfl, hr 1 _ rfl, hr 2 _ rfl, hr 3 _ rfl, hr 4 _ rfl, hr 5 _ rfl, hr 6 _ rfl⟩
        have hNN : ∀ W, Below W3.heap.size W3 W → NodeV W W.heap.size n (nodeAgg n A1 c1 K1 d1) := fun W hW => (N3.out.keep hW).tree
        have hNK : ∀ W, Below W3.heap.size W3 W → NodeV W W.heap.size Y (.agg #[.int .i64 Y.kind, .string (S Y.space), .string (S Y.name), .slice A5 Y.attrs.length c5, .slice K5 Y.kids.length d5, .string (S Y.text), .int .i64 6]) := fun W hW => by
          have := NK.out.keep (fun k hk => hW.block k hk) hW.size
          unfold nodeAgg at this
          rw [HMP.out] at this
          exact this
        have KEEP := Lib.hid hKP
        have HNN := Lib.hid hNN
        have HNK := Lib.hid hNK
        clear hKP hNN hNK KR NK N3 M3
        go_region_held3 (fun x => (x.cell? ⟨b1, 0, none⟩ = some (.int .i64 n.kind) ∧ x.cell? ⟨b1, 1, none⟩ = some (.string (S n.space)) ∧ x.cell? ⟨b1, 2, none⟩ = some (.string (S n.name)) ∧ x.cell? ⟨b1, 3, none⟩ = some (.slice A1 n.attrs.length c1) ∧ x.cell? ⟨b1, 4, none⟩ = some (.slice K1 n.kids.length d1) ∧ x.cell? ⟨b1, 5, none⟩ = some (.string (S n.text)) ∧ x.cell? ⟨b1, 6, none⟩ = some (.int .i64 n.pos)) ∧ x.cell? ⟨b3, 4, none⟩ = some (.slice (some ⟨kb, koff, none⟩) mm.kids.length d2) ∧ (x.cell? ⟨kb, koff, none⟩ = some (.int .i64 Y.kind) ∧ x.cell? ⟨kb, koff + 1, none⟩ = some (.string (S Y.space)) ∧ x.cell? ⟨kb, koff + 2, none⟩ = some (.string (S Y.name)) ∧ x.cell? ⟨kb, koff + 3, none⟩ = some (.slice A5 Y.attrs.length c5) ∧ x.cell? ⟨kb, koff + 4, none⟩ = some (.slice K5 Y.kids.length d5) ∧ x.cell? ⟨kb, koff + 5, none⟩ = some (.string (S Y.text)) ∧ x.cell? ⟨kb, koff + 6, none⟩ = some (.int .i64 6)))
          (first | exact KEEP.out _ R2.out | exact KEEP.out _ R1.out | exact KEEP.out _ (Below.refl _ _).drew)
          (first
            | ((go_at_call 11; refine (HAL.out _ (BB3.out.trans ((Below.refl W3.heap.size W3).drew.mono BB3.out.size))).mono ?_; rintro e q1 ⟨rfl, hb5⟩; have R1 : Hid (Below W3.heap.size W3 q1) := Lib.hid ((Below.refl _ _).drew.trans hb5); clear hb5))
            | ((go_at_call 14; refine (HEQ.out _ _ _ (HNN.out _ R1.out) (HNK.out _ R1.out)).mono ?_; rintro e q2 ⟨rfl, hb5⟩; have R2 := Lib.hid (R1.out.trans (hb5.mono R1.out.size)); clear hb5)))
        all_goals
          go_wp2_with fail
          go_ret
          exact ⟨rfl, BB3.out.trans (R2.out.mono BB3.out.size)⟩
      all_goals
        first
          | rw [g1] at I1
          | skip
        first
          | rw [g2] at I2
          | skip
        first
          | rw [g3] at I3
          | skip
        first
          | rw [g4] at I4
          | skip
        generalize depth n = dn at *
        clear hT hM hfx hR hsz
        go_enter Tryz.func7, Tryz.ntmps7
        go_wp2_with fail
        refine H1.out.mono ?_
        rintro e w1 ⟨⟨A1, c1, K1, d1, rfl, hv1⟩, hb1⟩
        have N1 := Lib.hid (Nbx.new hv1)
        have BB1 := Lib.hid (hb1.alloc hb1.size (nodeBox n A1 c1 K1 d1))
        clear hv1 hb1
        go_wp2_with fail
        obtain ⟨b1, hw1⟩ : ∃ b1, w1.heap.size = b1 := ⟨_, rfl⟩
        rw [hw1] at N1 ⊢
        clear hw1
        generalize w1.alloc (nodeBox n A1 c1 K1 d1) = W1 at *
        obtain ⟨x0, x1, x2, x3, x4, x5, x6⟩ := N1.out.cells
      · go_wp2_with (first
          | (go_at_call 24; (with_reducible refine (I1.out _).mono ?_); rintro e q ⟨rfl, hw⟩; rw [hw]; clear hw q)
          | (go_at_call 11; refine (HAL.out _ BB1.out).mono ?_; rintro e w3 ⟨rfl, hb3⟩))
        go_ret
        exact ⟨rfl, BB1.out.trans (hb3.mono BB1.out.size)⟩
      · go_wp2_with (first
          | (go_at_call 24; first
            | ((with_reducible refine (I1.out _).mono ?_); rintro e q ⟨rfl, hw⟩; rw [hw]; clear hw q)
            | ((with_reducible refine (I2.out _).mono ?_); rintro e q ⟨rfl, hw⟩; rw [hw]; clear hw q))
          | (go_at_call 11; refine (HAL.out _ BB1.out).mono ?_; rintro e w3 ⟨rfl, hb3⟩))
        go_ret
        exact ⟨rfl, BB1.out.trans (hb3.mono BB1.out.size)⟩
      · go_wp2_with (first
          | (go_at_call 24; first
            | ((with_reducible refine (I1.out _).mono ?_); rintro e q ⟨rfl, hw⟩; rw [hw]; clear hw q)
            | ((with_reducible refine (I2.out _).mono ?_); rintro e q ⟨rfl, hw⟩; rw [hw]; clear hw q)
            | ((with_reducible refine (I3.out _).mono ?_); rintro e q ⟨rfl, hw⟩; rw [hw]; clear hw q))
          | (go_at_call 11; refine (HAL.out _ BB1.out).mono ?_; rintro e w3 ⟨rfl, hb3⟩))
        go_ret
        exact ⟨rfl, BB1.out.trans (hb3.mono BB1.out.size)⟩
      · go_wp2_with (first
          | (go_at_call 24; first
            | ((with_reducible refine (I1.out _).mono ?_); rintro e q ⟨rfl, hw⟩; rw [hw]; clear hw q)
            | ((with_reducible refine (I2.out _).mono ?_); rintro e q ⟨rfl, hw⟩; rw [hw]; clear hw q)
            | ((with_reducible refine (I3.out _).mono ?_); rintro e q ⟨rfl, hw⟩; rw [hw]; clear hw q))
          | (go_at_call 25; refine (I4.out _).mono ?_; rintro e q ⟨rfl, hw⟩; rw [hw]; clear hw q)
          | (go_at_call 11; refine (HAL.out _ BB1.out).mono ?_; rintro e w3 ⟨rfl, hb3⟩))
        go_ret
        exact ⟨rfl, BB1.out.trans (hb3.mono BB1.out.size)⟩
      · go_wp2_with (first
          | (go_at_call 24; first
            | ((with_reducible refine (I1.out _).mono ?_); rintro e q ⟨rfl, hw⟩; rw [hw]; clear hw q)
            | ((with_reducible refine (I2.out _).mono ?_); rintro e q ⟨rfl, hw⟩; rw [hw]; clear hw q)
            | ((with_reducible refine (I3.out _).mono ?_); rintro e q ⟨rfl, hw⟩; rw [hw]; clear hw q))
          | (go_at_call 25; refine (I4.out _).mono ?_; rintro e q ⟨rfl, hw⟩; rw [hw]; clear hw q)
          | (go_at_call 20; refine (HDP.out _ _ N1.out.tree).mono ?_; rintro e w2 ⟨rfl, hb2⟩; have BB2 := Lib.hid (BB1.out.trans (hb2.mono BB1.out.size)); clear hb2)
          | (go_at_call 11; refine (HAL.out _ BB2.out).mono ?_; rintro e w3 ⟨rfl, hb3⟩))
        go_ret
        exact ⟨rfl, BB2.out.trans (hb3.mono BB2.out.size)⟩
end Go.Proofs.YtclhdppppgjgfaaGreatDoor
