/-
  Several texts in one file, in build order:
  - Worlds that differ in own strings alone, each grown by a bounded number of bytes.
  - Walk of chapter 7's statement Isolated.
-/
import Derived.Test.YtclhdppppgjgfaaGreatDoorH3
import Derived.Test.YtclhdppppgjgfaaGreatDoorH21
import Derived.Test.YtclhdppppgjgfaaGreatDoorH17
import Derived.Test.YtclhdppppgjgfaaGreatDoorH24
import Derived.Test.YtclhdppppgjgfaaGreatDoorH30
set_option linter.unusedVariables false
namespace Go.Proofs.YtclhdppppgjgfaaGreatDoor
open Go.RowKit

/-- Nothing but strings of its own has changed; each by k bytes at most. -/
structure StrGrow (L k : Nat) (w w' : World) : Prop where
  below : Below L w w'
  cell : ∀ p v, w.cell? p = some v → (∀ s, v ≠ .string s) → w'.cell? p = some v
  str : ∀ p s, w.cell? p = some (.string s) → ∃ s' : Bytes, w'.cell? p = some (.string (S s')) ∧ s'.length ≤ s.size + k
  free : ∀ p, w'.frozen? p = w.frozen? p
theorem StrGrow.refl (L : Nat) (w : World) : StrGrow L 0 w w := ⟨Below.refl _ _, fun _ _ h _ => h, fun _ s h => ⟨s.data.toList, by rw [S_data']; exact h, Nat.le_refl _⟩, fun _ => rfl⟩
theorem StrGrow.more {L k m : Nat} {w w' : World} (h : StrGrow L k w w') (hm : k ≤ m) : StrGrow L m w w' :=
  ⟨h.below, h.cell, fun p s hs => by obtain ⟨s', h1, h2⟩ := h.str p s hs; exact ⟨s', h1, by omega⟩, h.free⟩
theorem StrGrow.set {L k : Nat} {w w' : World} (h : StrGrow L k w w') {p : Addr} {s : ByteArray} (hp : w.cell? p = some (.string s)) (hL : L ≤ p.block) {u : Bytes} (hu : w'.cell? p = some (.string (S u))) (c : UInt8) : StrGrow L (k + 1) w (w'.setCell p (.string (S (u ++ [c])))) := by
  refine ⟨h.below.setCell (p := p) hL _, fun q v hq hv => ?_, fun q t hq => ?_, fun q => by rw [World.frozen?_setCell]; exact h.free q⟩
  · by_cases e : p = q
    · subst e; rw [hp] at hq; cases hq; exact absurd rfl (hv s)
    · rw [World.cell?_setCell_other _ _ _ _ e]; exact h.cell q v hq hv
  · by_cases e : p = q
    · subst e
      obtain ⟨s', h1, h2⟩ := h.str p t hq
      rw [hu] at h1
      have h3 : u = s' := by
        injection h1 with h1
        injection h1 with h1
        exact S_inj h1
      subst h3
      exact ⟨u ++ [c], World.cell?_setCell_same _ _ _ hu, by simp; omega⟩
    · rw [World.cell?_setCell_other _ _ _ _ e]
      obtain ⟨s', h1, h2⟩ := h.str q t hq
      exact ⟨s', h1, by omega⟩
theorem loose_free {w : World} {b : Nat} (h : Loose w b) (j : Nat) : w.frozen? ⟨b, j, none⟩ = false := by
  obtain ⟨cur, t, h⟩ := h
  exact Lib.frozen_of_heap h j
end Go.Proofs.YtclhdppppgjgfaaGreatDoor
set_option linter.unusedVariables false
namespace Go.Proofs.YtclhdppppgjgfaaGreatDoor
open Go.RowKit

/-- Sizes of the parts that the statement changes. -/
theorem iso_sizes {n : Node} (h : full n ≤ 500000) : n.attrs.length ≤ 500000 ∧ n.kids.length ≤ 500000 ∧ (∀ (i : Nat) (hi : i < n.attrs.length), n.attrs[i].value.length ≤ 500000) ∧ ∀ (i : Nat) (hi : i < n.kids.length), n.kids[i].text.length ≤ 500000 ∧ n.kids[i].kids.length ≤ 500000 ∧ ∀ (j : Nat) (hj : j < n.kids[i].kids.length), n.kids[i].kids[j].name.length ≤ 500000 := by
  have hp := parts n h
  refine ⟨by have := hp.attrs; omega, by have := hp.kids; omega, fun i hi => by have := (hp.att _ (List.getElem_mem hi)).2.2; omega, fun i hi => ?_⟩
  have hk := hp.kid _ (List.getElem_mem hi)
  have hp2 := parts n.kids[i] (Nat.le_of_lt hk)
  refine ⟨by have := hp2.text; omega, by have := hp2.kids; omega, fun j hj => ?_⟩
  have hk2 := hp2.kid _ (List.getElem_mem hj)
  have hp3 := parts n.kids[i].kids[j] (Nat.le_of_lt hk2)
  have := hp3.name
  omega
theorem full_strip : ∀ n : Node, full (stripN n) = full n := by
  have hat : ∀ l : List Att, attsF (l.map stripA) = attsF l := by
    intro l
    induction l with
    | nil => rfl
    | cons a l ih => rw [List.map_cons, attsF, attsF, ih]; rfl
  intro n
  have : ∀ g, ∀ n : Node, nsz n ≤ g → full (stripN n) = full n := by
    intro g
    induction g with
    | zero => intro n h; cases n; rw [nsz] at h; omega
    | succ g ih =>
      intro n h
      rw [stripN_eq, full_form, full_form n]
      simp only [Node.space, Node.name, Node.text, Node.attrs, Node.kids]
      rw [hat]
      have hk : ∀ ks : List Node, (∀ k ∈ ks, nsz k ≤ g) → fullL (ks.map stripN) = fullL ks := by
        intro ks hks
        induction ks with
        | nil => rfl
        | cons k ks ih2 => rw [List.map_cons, fullL, fullL, ih k (hks k (by simp)), ih2 (fun x hx => hks x (by simp [hx]))]
      rw [hk _ (fun k hk => by have := nsz_lt n hk; omega)]
  exact this _ n (Nat.le_refl _)

set_option maxHeartbeats 8000000 in
set_option maxRecDepth 100000 in
theorem law7isolated_any (l : Bytes) (m : Int) (w : World) (hT : Tabs w) (hM : MaxLen m w) (hl : l.length ≤ 9223372036854775807) :
    Calls Tryz.prog 6 #[.string (S l)] w fun e w' => e = .returned (.bool true) ∧ Below w.heap.size w w' := by
  have hal := fun W => fun (hW : Below w.heap.size w W) => alive7_any m W (hT.next hW) (hM.below hW)
  have HAL := Lib.hid hal
  by_cases h5 : 3000 < l.length
  · have h5' : (3000 : Int) < l.length := by omega
    clear hal hT hM
    go_enter Tryz.func6, Tryz.ntmps6
    go_wp2_with (go_at_call 11; refine (HAL.out _ (Below.refl _ _)).mono ?_; rintro e w1 ⟨rfl, hb1⟩)
    go_ret
    exact ⟨rfl, hb1⟩
  have h5' : ¬ (3000 : Int) < l.length := by omega
  have h1 := parse7_both l m w hT hM (by omega)
  have h2 := fun W => refParse_both l W (by omega)
  have hfx := treeR_facts (l := l) (by omega)
  unfold BothR at h1 h2
  cases hR : parse l with
  | error q =>
    have hq := parse_errne hR
    rw [hR] at h1 h2
    simp only [treeR, atR, erR] at h1 h2
    obtain ⟨x, y⟩ := q
    have t1 : ((y : Int) != 0) = true := by simpa using hq
    have t2 : ((y : Int) == (y : Int)) = true := by simp
    have H1 := Lib.hid h1
    have H2 := Lib.hid h2
    clear hal hT hM h1 h2 hfx hR hq
    go_enter Tryz.func6, Tryz.ntmps6
    go_wp2_with fail
    refine H1.out.mono ?_
    rintro e w1 ⟨⟨A1, c1, K1, d1, rfl, hv1⟩, hb1⟩
    have BB1 := Lib.hid (hb1.alloc hb1.size (nodeBox zNodeN A1 c1 K1 d1))
    clear hv1 hb1
    go_wp2_with fail
    generalize w1.alloc (nodeBox zNodeN A1 c1 K1 d1) = W1 at *
    refine (H2.out W1).mono ?_
    rintro e w2 ⟨⟨A2, c2, K2, d2, rfl, hv2⟩, hb2⟩
    have X2 := hb2.alloc hb2.size (nodeBox zNodeN A2 c2 K2 d2)
    have BB2 := Lib.hid (BB1.out.trans (X2.mono BB1.out.size))
    clear hv2 hb2 X2
    go_wp2_with (go_at_call 11; refine (HAL.out _ BB2.out).mono ?_; rintro e w3 ⟨rfl, hb3⟩)
    go_ret
    exact ⟨rfl, BB2.out.trans (hb3.mono BB2.out.size)⟩
  | ok n =>
    rw [hR] at h1 h2 hfx
    simp only [treeR, atR, erR] at h1 h2 hfx
    have hsz := nsz_full n
    have hst := fun W v (hv : NodeV W W.heap.size n v) => strip7_any 500000 n v W (by omega) hfx.1 hv
    have heq := fun W v u (hv : NodeV W W.heap.size n v) (hu : NodeV W W.heap.size n u) => refEqual_any true n n v u W hv hu hfx.2.1 hfx.2.1
    simp only [eqv_refl7] at heq
    have hiso := iso_sizes (n := stripN n) (by rw [full_strip]; exact hfx.2.2)
    generalize stripN n = X at *
    obtain ⟨hxa, hxk, hxv, hxt⟩ := hiso
    have H1 := Lib.hid h1
    have H2 := Lib.hid h2
    have HST := Lib.hid hst
    have HEQ := Lib.hid heq
    have HXV := Lib.hid hxv
    have HXT := Lib.hid hxt
    clear hal hT hM h1 h2 hfx hR hst heq hxv hxt hsz
    go_enter Tryz.func6, Tryz.ntmps6
    go_wp2_with fail
    refine H1.out.mono ?_
    rintro e w1 ⟨⟨A1, c1, K1, d1, rfl, hv1⟩, hb1⟩
    have N1 := Lib.hid (Nbx.new hv1)
    have BB1 := Lib.hid (hb1.alloc hb1.size (nodeBox n A1 c1 K1 d1))
    clear hv1 hb1
    go_wp2_with fail
    obtain ⟨b1, hw1⟩ : ∃ b1, w1.heap.size = b1 := ⟨_, rfl⟩
    rw [hw1] at N1 ⊢
    clear hw1
    generalize w1.alloc (nodeBox n A1 c1 K1 d1) = W1 at *
    refine (H2.out W1).mono ?_
    rintro e w2 ⟨⟨A2, c2, K2, d2, rfl, hv2⟩, hb2⟩
    have N2 := Lib.hid (Nbx.new hv2)
    have X2 := Lib.hid (hb2.alloc hb2.size (nodeBox n A2 c2 K2 d2))
    have BB2 := Lib.hid (BB1.out.trans (X2.out.mono BB1.out.size))
    have N1b := Lib.hid (N1.out.keep X2.out)
    obtain ⟨b2, hw2⟩ : ∃ b2, w2.heap.size = b2 := ⟨_, rfl⟩
    rw [hw2] at N2
    have HW2 := Lib.hid hw2
    have r1 := N1b.out.range
    clear hv2 hb2 N1 X2 hw2
    go_wp2_with (with_reducible refine gate ?_; refine wp_load_node rfl _ rfl b1 0 rfl _ rfl r1 ?_)
    rw [HW2.out]
    generalize w2.alloc (nodeBox n A2 c2 K2 d2) = W2 at *
    refine (HST.out W2 _ N1b.out.tree).mono ?_
    rintro e w3 ⟨v3, rfl, hv3, hb3⟩
    obtain ⟨cs3, rfl, hn3⟩ := hv3
    obtain ⟨A3, c3, K3, d3, rfl, ha3, hk3, _, _⟩ := hn3.open_
    have hp3 : ∀ b, (W2.heap.size ≤ b ∧ b < w3.heap.size ∧ Loose w3 b) → (w3.alloc (nodeBox X A3 c3 K3 d3)).heap[b]? = w3.heap[b]? := fun b hb => Below.heap_alloc _ _ _ hb.2.1
    have HA3 := Lib.hid (AttsP.keep (w' := w3.alloc (nodeBox X A3 c3 K3 d3)) (p' := fun b => W2.heap.size ≤ b ∧ Loose (w3.alloc (nodeBox X A3 c3 K3 d3)) b) ha3 hp3 (fun b hb => ⟨hb.1, hb.2.2.keep (hp3 b hb)⟩))
    have HK3 := Lib.hid (NodesP.keep (w' := w3.alloc (nodeBox X A3 c3 K3 d3)) (p' := fun b => W2.heap.size ≤ b ∧ Loose (w3.alloc (nodeBox X A3 c3 K3 d3)) b) hk3 hp3 (fun b hb => ⟨hb.1, hb.2.2.keep (hp3 b hb)⟩))
    have X3 := Lib.hid (heap_alloc_new w3 (nodeBox X A3 c3 K3 d3))
    have B23 := Lib.hid (hb3.alloc hb3.size (nodeBox X A3 c3 K3 d3))
    obtain ⟨b3, hw3⟩ : ∃ b3, w3.heap.size = b3 := ⟨_, rfl⟩
    rw [hw3] at X3
    have HW3 := Lib.hid hw3
    clear hb3 hn3 ha3 hk3 hp3 r1 hw3
    go_wp2_with fail
    rw [HW3.out]
    generalize w3.alloc (nodeBox X A3 c3 K3 d3) = W3 at *
    go_loopw [46] (fun i46 wr => ∃ i : Nat, i ≤ X.attrs.length ∧ i46 = .int .i64 i ∧ StrGrow W2.heap.size i W3 wr) (fun i46 _ => X.attrs.length - (intOf i46).toNat)
    case atStart => exact ⟨0, by omega, rfl, StrGrow.refl _ _⟩
    case round =>
      obtain ⟨i, hi, rfl, hso⟩ := hrel
      have b3' := hso.cell ⟨b3, 3, none⟩ _ (cells7 X3.out).2.2.2.1 (by simp)
      by_cases hlt : i < X.attrs.length
      · have hlt' : (i : Int) < X.attrs.length := by omega
        obtain ⟨b, off, rfl, hpb, hr⟩ := HA3.out.at_ hlt
        have hc := hr 2 _ rfl
        obtain ⟨s', hs', hsl⟩ := hso.str _ _ hc
        have hv := HXV.out i hlt
        rw [S_size] at hsl
        have hsl' : s'.length + 1 ≤ 9000000000000000000 := by omega
        have hf : wr.frozen? ⟨b, off + i * 4 + 2, none⟩ = false := (hso.free _).trans (loose_free hpb.2 _)
        have HSO := Lib.hid (hso.set hc hpb.1 hs' 120)
        clear hso hc hr hpb hsl hv
        go_wp2
        go_roundw
        case rel => exact ⟨i + 1, by omega, by go_num, HSO.out⟩
        case measure => simp [intOf]; omega
      · have hil : i = X.attrs.length := by omega
        subst hil
        have hlt' : ¬ ((X.attrs.length : Int) < X.attrs.length) := by omega
        have b4 := hso.cell ⟨b3, 4, none⟩ _ (cells7 X3.out).2.2.2.2.1 (by simp)
        have HSO := Lib.hid (hso.more hxa)
        clear hso hlt
        go_wp2_with fail
        go_loopw [62] (fun i62 wr => ∃ i : Nat, i ≤ X.kids.length ∧ i62 = .int .i64 i ∧ StrGrow W2.heap.size (500000 + i * 500001) W3 wr) (fun i62 _ => X.kids.length - (intOf i62).toNat)
        case atStart => exact ⟨0, by omega, rfl, by simpa using HSO.out⟩
        case round =>
          obtain ⟨i, hi, rfl, hso⟩ := hrel
          have b4 := hso.cell ⟨b3, 4, none⟩ _ (cells7 X3.out).2.2.2.2.1 (by simp)
          by_cases hlt : i < X.kids.length
          · have hlt' : (i : Int) < X.kids.length := by omega
            obtain ⟨b, off, cs, rfl, hpb, hr, hcs⟩ := HK3.out.at_ hlt
            obtain ⟨KA, kc, KK, kd, rfl, _, hkk, _, _⟩ := hcs.open_
            have hc := hr 5 _ rfl
            have hc4 := hr 4 _ rfl
            obtain ⟨hx1, hx2, hx3⟩ := HXT.out i hlt
            obtain ⟨s', hs', hsl⟩ := hso.str _ _ hc
            rw [S_size] at hsl
            have hsl' : s'.length + 1 ≤ 9000000000000000000 := by omega
            have hf : wr.frozen? ⟨b, off + i * 7 + 5, none⟩ = false := (hso.free _).trans (loose_free hpb.2 _)
            have hso2 := hso.set hc hpb.1 hs' 120
            have k4 := hso2.cell _ _ hc4 (by simp)
            have c4 := hso2.cell ⟨b3, 4, none⟩ _ (cells7 X3.out).2.2.2.2.1 (by simp)
            have HSO2 := Lib.hid hso2
            have HKK := Lib.hid hkk
            have HC4 := Lib.hid hc4
            have HX3 := Lib.hid hx3
            generalize X.kids[i] = kk at *
            clear hso hc hr hpb hcs hkk hc4 hso2 HSO hx3 hsl
            go_wp2_with fail
            generalize wr.setCell ⟨b, off + i * 7 + 5, none⟩ (.string (S (s' ++ [120]))) = W6 at *
            go_loopw [81] (fun i81 wq => ∃ j : Nat, j ≤ kk.kids.length ∧ i81 = .int .i64 j ∧ StrGrow W2.heap.size (500000 + i * 500001 + 1 + j) W3 wq) (fun i81 _ => kk.kids.length - (intOf i81).toNat)
            case atStart => exact ⟨0, by omega, rfl, HSO2.out⟩
            case round =>
              obtain ⟨j, hj, rfl, hso⟩ := hrel
              by_cases hltj : j < kk.kids.length
              · have hltj' : (j : Int) < kk.kids.length := by omega
                obtain ⟨ab, aoff, csj, rfl, hpa, hra, hcj⟩ := HKK.out.at_ hltj
                obtain ⟨JA, jc, JK, jd, rfl, _, _, _, _⟩ := hcj.open_
                have d4 := hso.cell ⟨b3, 4, none⟩ _ (cells7 X3.out).2.2.2.2.1 (by simp)
                have e4 := hso.cell _ _ HC4.out (by simp)
                have hc := hra 2 _ rfl
                obtain ⟨s2, hs2, hsl⟩ := hso.str _ _ hc
                rw [S_size] at hsl
                have hx3 := HX3.out j hltj
                have hsl2 : s2.length + 1 ≤ 9000000000000000000 := by omega
                have hf : wr.frozen? ⟨ab, aoff + j * 7 + 2, none⟩ = false := (hso.free _).trans (loose_free hpa.2 _)
                have HSO := Lib.hid (hso.set hc hpa.1 hs2 120)
                clear hso hc hra hpa b4 k4 c4 hs' hcj hsl hx3
                go_wp2
                go_roundw
                case rel => exact ⟨j + 1, by omega, by go_num, HSO.out⟩
                case measure => simp [intOf]; omega
              · have hjl : j = kk.kids.length := by omega
                subst hjl
                have hltj' : ¬ ((kk.kids.length : Int) < kk.kids.length) := by omega
                have HSO := Lib.hid (hso.more (m := 500000 + (i + 1) * 500001) (by rw [Nat.succ_mul]; omega))
                clear hso
                go_wp2_with fail
                go_roundw
                case rel => exact ⟨i + 1, by omega, by go_num, HSO.out⟩
                case measure => simp [intOf]; omega
          · have hil : i = X.kids.length := by omega
            subst hil
            have hlt' : ¬ ((X.kids.length : Int) < X.kids.length) := by omega
            have hbl := hso.below
            have hq : Below W2.heap.size W2 wr := B23.out.trans hbl
            have N1c := Lib.hid (N1b.out.keep hq)
            have N2c := Lib.hid (N2.out.keep hq)
            have BB3 := Lib.hid (BB2.out.trans (hq.mono BB2.out.size))
            clear hso hbl hq N1b N2 hlt b4 HSO
            go_wp2_with fail
            refine (HAL.out wr BB3.out).mono ?_
            rintro e w8 ⟨rfl, hb8⟩
            have N1d := Lib.hid (N1c.out.keep hb8)
            have N2d := Lib.hid (N2c.out.keep hb8)
            have BB8 := Lib.hid (BB3.out.trans (hb8.mono BB3.out.size))
            obtain ⟨x0, x1, x2, x3, x4, x5, x6⟩ := N1d.out.cells
            obtain ⟨y0, y1, y2, y3, y4, y5, y6⟩ := N2d.out.cells
            clear hb8 N1c N2c
            go_wp2_with fail
            refine (HEQ.out w8 _ _ N1d.out.tree N2d.out.tree).mono ?_
            rintro e w9 ⟨rfl, hb9⟩
            go_wp2_with fail
            go_ret
            exact ⟨rfl, BB8.out.trans (hb9.mono BB8.out.size)⟩
end Go.Proofs.YtclhdppppgjgfaaGreatDoor
