/-
  Walk of chapter 8's statement Isolated.
-/
import Derived.Test.YtaghipnheomggaaDoorG1
import Derived.Test.YtaghipnheomggaaDoorEqualT
set_option linter.unusedVariables false
namespace Go.Proofs.YtaghipnheomggaaDoor
open Go.RowKit

/-- Nothing but strings of its own has changed. -/
structure StrOnly (L : Nat) (w w' : World) : Prop where
  below : Below L w w'
  cell : ∀ p v, w.cell? p = some v → (∀ s, v ≠ .string s) → w'.cell? p = some v
  str : ∀ p s, w.cell? p = some (.string s) → ∃ s', w'.cell? p = some (.string s')
  free : ∀ p, w'.frozen? p = w.frozen? p
theorem StrOnly.refl (L : Nat) (w : World) : StrOnly L w w := ⟨Below.refl _ _, fun _ _ h _ => h, fun _ s h => ⟨s, h⟩, fun _ => rfl⟩
theorem StrOnly.set {L : Nat} {w w' : World} (h : StrOnly L w w') {p : Addr} {s : ByteArray} (hp : w.cell? p = some (.string s)) (hL : L ≤ p.block) (u : ByteArray) : StrOnly L w (w'.setCell p (.string u)) := by
  obtain ⟨s', hs'⟩ := h.str p s hp
  refine ⟨h.below.setCell (p := p) hL _, fun q v hq hv => ?_, fun q t hq => ?_, fun q => by rw [World.frozen?_setCell]; exact h.free q⟩
  · by_cases e : p = q
    · subst e; rw [hp] at hq; cases hq; exact absurd rfl (hv s)
    · rw [World.cell?_setCell_other _ _ _ _ e]; exact h.cell q v hq hv
  · by_cases e : p = q
    · subst e; exact ⟨u, World.cell?_setCell_same _ _ _ hs'⟩
    · rw [World.cell?_setCell_other _ _ _ _ e]; exact h.str q t hq
theorem Loose.free {w : World} {b : Nat} (h : Loose w b) (j : Nat) : w.frozen? ⟨b, j, none⟩ = false := by
  obtain ⟨cur, t, h⟩ := h
  exact Lib.frozen_of_heap h j

set_option maxHeartbeats 4000000 in
set_option maxRecDepth 100000 in
theorem law8isolated_any (l : Bytes) (w : World) (hT : Tabs w) (hl : l.length ≤ 9223372036854775807) :
    Calls Tryd.prog 6 #[.string (S l)] w fun e w' => e = .returned (.bool true) ∧ Below w.heap.size w w' := by
  have hal := fun W => fun (hW : Below w.heap.size w W) => alive8_any W (hT.next hW)
  have hpd := fun W => parsed8_any l W hl
  have HAL := Lib.hid hal
  have HT := Lib.hid hT
  clear hal hT
  cases hp : parsed8 l with
  | none =>
    rw [hp] at hpd
    have HPD := Lib.hid hpd
    clear hpd hp
    go_enter Tryd.func6, Tryd.ntmps6
    go_wp2_with fail
    refine (HPD.out _).mono ?_
    rintro e w1 ⟨rfl, hb1⟩
    have BB1 := Lib.hid (hb1.alloc hb1.size (.cells zNodC 29))
    clear hb1
    go_wp2_with (go_at_call 9; refine (HAL.out _ BB1.out).mono ?_; rintro e w2 ⟨rfl, hb2⟩)
    go_ret
    exact ⟨rfl, BB1.out.trans (hb2.mono BB1.out.size)⟩
  | some n =>
    rw [hp] at hpd
    obtain ⟨hfull, hcl⟩ := parsed8_small hp
    have hfit : Fit n := full_fit _ n (Nat.le_refl _) (by omega)
    have hrt := fun W v (h1 : Below w.heap.size w W) (h2 : NodeV W W.heap.size n v) => resolveTop_any n v W hcl (by omega) (HT.out.next h1) h2
    have heq := fun W v u (hv : NodeV W W.heap.size n v) (hu : NodeV W W.heap.size n u) => refEqual_any true _ _ v u W hv hu hfit hfit
    rw [eqv_refl8] at heq
    obtain ⟨X, hX⟩ : ∃ X, treeOf (resolveF n) = X := ⟨_, rfl⟩
    have HX := Lib.hid hX
    have hXf := treeOf_fit hfit
    rw [hX] at hXf
    have hxl := hXf.form
    have hxa := hxl.1
    have hxk := hxl.2.1
    have HXF := Lib.hid hXf
    clear hXf hxl
    clear hX
    generalize resolveF n = R at *
    have HPD := Lib.hid hpd
    have HRT := Lib.hid hrt
    have HEQ := Lib.hid heq
    clear hpd hrt heq hfit hfull hcl hp
    go_enter Tryd.func6, Tryd.ntmps6
    go_wp2_with fail
    refine (HPD.out _).mono ?_
    rintro e w1 ⟨⟨v1, rfl, hv1⟩, hb1⟩
    obtain ⟨cs1, rfl, hn1⟩ := hv1
    obtain ⟨A1, c1, K1, d1, rfl, _, _, _, _⟩ := hn1.open_
    have N1 := Lib.hid (NodeP.keep (w' := w1.alloc (nodeBox n A1 c1 K1 d1)) (p' := (· < w1.heap.size)) (fun b hb => Below.heap_alloc _ _ _ hb.2) (fun b hb => hb.2) _ _ hn1)
    have X1 := Lib.hid (heap_alloc_new w1 (nodeBox n A1 c1 K1 d1))
    have BB1 := Lib.hid (hb1.alloc hb1.size (nodeBox n A1 c1 K1 d1))
    have z1 : (w1.alloc (nodeBox n A1 c1 K1 d1)).heap.size = w1.heap.size + 1 := by simp
    clear hb1 hn1
    go_wp2_with fail
    generalize w1.alloc (nodeBox n A1 c1 K1 d1) = W1 at *
    refine (HPD.out W1).mono ?_
    rintro e w2 ⟨⟨v2, rfl, hv2⟩, hb2⟩
    obtain ⟨cs2, rfl, hn2⟩ := hv2
    obtain ⟨A2, c2, K2, d2, rfl, _, _, _, _⟩ := hn2.open_
    have hbb := (Below.refl _ w2).alloc (Nat.le_refl _) (nodeBox n A2 c2 K2 d2)
    have N2 := Lib.hid (NodeP.keep (w' := w2.alloc (nodeBox n A2 c2 K2 d2)) (p' := (· < w2.heap.size)) (fun b hb => Below.heap_alloc _ _ _ hb.2) (fun b hb => hb.2) _ _ hn2)
    have X2 := Lib.hid (heap_alloc_new w2 (nodeBox n A2 c2 K2 d2))
    have BB2 := Lib.hid ((BB1.out.trans (hb2.mono BB1.out.size)).alloc (by have := BB1.out.size; have := hb2.size; omega) (nodeBox n A2 c2 K2 d2))
    have hq2 := hb2.trans (hbb.mono hb2.size)
    have N1b := Lib.hid (NodeP.keep (fun b hb => hq2.block b (by have h1 : b < w1.heap.size := hb; omega)) (fun _ h => h) _ _ N1.out)
    have X1b := Lib.hid ((hq2.block _ (heap_lt X1.out)).trans X1.out)
    have r2 := Lib.hid (range_of_heap (cs := [.int .i64 n.kind, .string (S n.space), .string (S n.name), .slice A1 n.attrs.length c1, .slice K1 n.kids.length d1, .string (S n.text), .int .i64 n.pos]) X1b.out)
    have z2 : (w2.alloc (nodeBox n A2 c2 K2 d2)).heap.size = w2.heap.size + 1 := by simp
    have z12 := hb2.size
    clear hbb hb2 hn2 hq2 N1 X1
    go_wp2_with (with_reducible refine gate ?_; refine wp_load_node rfl _ rfl w1.heap.size 0 rfl _ rfl r2.out ?_)
    generalize w2.alloc (nodeBox n A2 c2 K2 d2) = W2 at *
    refine (HRT.out W2 _ BB2.out ⟨_, rfl, NodeP.toIn (B := W2.heap.size) (fun b hb => by have h1 : b < w1.heap.size := hb; omega) _ _ N1b.out⟩).mono ?_
    rintro e w3 ⟨hres, hb3⟩
    obtain ⟨v3, rfl, hv3⟩ := hres.formL
    rw [HX.out] at hv3
    obtain ⟨cs3, rfl, hn3⟩ := hv3
    obtain ⟨A3, c3, K3, d3, rfl, ha3, hk3, _, _⟩ := hn3.open_
    have hp3 : ∀ b, (W2.heap.size ≤ b ∧ b < w3.heap.size ∧ Loose w3 b) → (w3.alloc (nodeBox X A3 c3 K3 d3)).heap[b]? = w3.heap[b]? := fun b hb => Below.heap_alloc _ _ _ hb.2.1
    have HA3 := Lib.hid (AttsP.keep (w' := w3.alloc (nodeBox X A3 c3 K3 d3)) (p' := fun b => W2.heap.size ≤ b ∧ Loose (w3.alloc (nodeBox X A3 c3 K3 d3)) b) ha3 hp3 (fun b hb => ⟨hb.1, hb.2.2.keep (hp3 b hb)⟩))
    have HK3 := Lib.hid (NodesP.keep (w' := w3.alloc (nodeBox X A3 c3 K3 d3)) (p' := fun b => W2.heap.size ≤ b ∧ Loose (w3.alloc (nodeBox X A3 c3 K3 d3)) b) hk3 hp3 (fun b hb => ⟨hb.1, hb.2.2.keep (hp3 b hb)⟩))
    have X3 := Lib.hid (heap_alloc_new w3 (nodeBox X A3 c3 K3 d3))
    have hbb := (Below.refl _ w3).alloc (Nat.le_refl _) (nodeBox X A3 c3 K3 d3)
    have B23 := Lib.hid (hb3.trans (hbb.mono hb3.size))
    have z3 : (w3.alloc (nodeBox X A3 c3 K3 d3)).heap.size = w3.heap.size + 1 := by simp
    have z23 := hb3.size
    clear hbb hb3 hn3 hres ha3 hk3 hp3 r2
    go_wp2_with fail
    generalize w3.alloc (nodeBox X A3 c3 K3 d3) = W3 at *
    go_loopw [35] (fun i35 wr => ∃ i : Nat, i ≤ X.attrs.length ∧ i35 = .int .i64 i ∧ StrOnly W2.heap.size W3 wr) (fun i35 _ => X.attrs.length - (intOf i35).toNat)
    case atStart => exact ⟨0, by omega, rfl, StrOnly.refl _ _⟩
    case round =>
      obtain ⟨i, hi, rfl, hso⟩ := hrel
      have b3 := hso.cell ⟨w3.heap.size, 3, none⟩ _ (cells7 X3.out).2.2.2.1 (by simp)
      by_cases hlt : i < X.attrs.length
      · have hlt' : (i : Int) < X.attrs.length := by omega
        obtain ⟨b, off, rfl, hpb, hr⟩ := HA3.out.at_ hlt
        have hc := hr 2 _ rfl
        obtain ⟨s', hs'⟩ := hso.str _ _ hc
        have hf : wr.frozen? ⟨b, off + i * 4 + 2, none⟩ = false := (hso.free _).trans (hpb.2.free _)
        have HSO := Lib.hid (hso.set hc hpb.1 ⟨#[63]⟩)
        clear hso hc hr hpb
        go_wp2
        go_roundw
        case rel => exact ⟨i + 1, by omega, by go_num, HSO.out⟩
        case measure => simp [intOf]; omega
      · have hil : i = X.attrs.length := by omega
        subst hil
        have hlt' : ¬ ((X.attrs.length : Int) < X.attrs.length) := by omega
        have b4 := hso.cell ⟨w3.heap.size, 4, none⟩ _ (cells7 X3.out).2.2.2.2.1 (by simp)
        have HSO := Lib.hid hso
        clear hso hlt
        go_wp2_with fail
        go_loopw [47] (fun i47 wr => ∃ i : Nat, i ≤ X.kids.length ∧ i47 = .int .i64 i ∧ StrOnly W2.heap.size W3 wr) (fun i47 _ => X.kids.length - (intOf i47).toNat)
        case atStart => exact ⟨0, by omega, rfl, HSO.out⟩
        case round =>
          obtain ⟨i, hi, rfl, hso⟩ := hrel
          have b4 := hso.cell ⟨w3.heap.size, 4, none⟩ _ (cells7 X3.out).2.2.2.2.1 (by simp)
          by_cases hlt : i < X.kids.length
          · have hlt' : (i : Int) < X.kids.length := by omega
            obtain ⟨b, off, cs, rfl, hpb, hr, hcs⟩ := HK3.out.at_ hlt
            obtain ⟨KA, kc, KK, kd, rfl, hka, _, _, _⟩ := hcs.open_
            have hc := hr 5 _ rfl
            have hc3 := hr 3 _ rfl
            obtain ⟨s', hs'⟩ := hso.str _ _ hc
            have hf : wr.frozen? ⟨b, off + i * 7 + 5, none⟩ = false := (hso.free _).trans (hpb.2.free _)
            have hso2 := hso.set hc hpb.1 ⟨#[63]⟩
            have c3 := hso2.cell _ _ hc3 (by simp)
            have c4 := hso2.cell ⟨w3.heap.size, 4, none⟩ _ (cells7 X3.out).2.2.2.2.1 (by simp)
            have HSO2 := Lib.hid hso2
            have HKA := Lib.hid hka
            have HC3 := Lib.hid hc3
            have hll : X.kids[i].attrs.length ≤ 9000000000000000000 := Nat.le_trans (HXF.out.form.2.2 _ (List.getElem_mem hlt)).form.1 (by decide)
            generalize X.kids[i] = kk at *
            clear hso hc hr hpb hcs hka hc3 hso2 HSO
            go_wp2_with fail
            generalize wr.setCell ⟨b, off + i * 7 + 5, none⟩ (.string ⟨#[63]⟩) = W6 at *
            go_loopw [62] (fun i62 wq => ∃ j : Nat, j ≤ kk.attrs.length ∧ i62 = .int .i64 j ∧ StrOnly W2.heap.size W3 wq) (fun i62 _ => kk.attrs.length - (intOf i62).toNat)
            case atStart => exact ⟨0, by omega, rfl, HSO2.out⟩
            case round =>
              obtain ⟨j, hj, rfl, hso⟩ := hrel
              by_cases hltj : j < kk.attrs.length
              · have hltj' : (j : Int) < kk.attrs.length := by omega
                obtain ⟨ab, aoff, rfl, hpa, hra⟩ := HKA.out.at_ hltj
                have d4 := hso.cell ⟨w3.heap.size, 4, none⟩ _ (cells7 X3.out).2.2.2.2.1 (by simp)
                have d3 := hso.cell _ _ HC3.out (by simp)
                have hc := hra 2 _ rfl
                obtain ⟨s2, hs2⟩ := hso.str _ _ hc
                have hf : wr.frozen? ⟨ab, aoff + j * 4 + 2, none⟩ = false := (hso.free _).trans (hpa.2.free _)
                have HSO := Lib.hid (hso.set hc hpa.1 ⟨#[63]⟩)
                clear hso hc hra hpa b4 c3 c4 hs'
                go_wp2
                go_roundw
                case rel => exact ⟨j + 1, by omega, by go_num, HSO.out⟩
                case measure => simp [intOf]; omega
              · have hjl : j = kk.attrs.length := by omega
                subst hjl
                have hltj' : ¬ ((kk.attrs.length : Int) < kk.attrs.length) := by omega
                have HSO := Lib.hid hso
                clear hso
                go_wp2_with fail
                go_roundw
                case rel => exact ⟨i + 1, by omega, by go_num, HSO.out⟩
                case measure => simp [intOf]; omega
          · have hil : i = X.kids.length := by omega
            subst hil
            have hlt' : ¬ ((X.kids.length : Int) < X.kids.length) := by omega
            have hbl := hso.below
            have hb2 := hbl.size
            have hq : Below W2.heap.size W2 wr := B23.out.trans hbl
            have N1c := Lib.hid (NodeP.keep (fun b hb => hq.block b (by have h1 : b < w1.heap.size := hb; omega)) (fun _ h => h) _ _ N1b.out)
            have N2c := Lib.hid (NodeP.keep (fun b hb => hq.block b (by have h1 : b < w2.heap.size := hb; omega)) (fun _ h => h) _ _ N2.out)
            have X1c := Lib.hid ((hq.block _ (heap_lt X1b.out)).trans X1b.out)
            have X2c := Lib.hid ((hq.block _ (heap_lt X2.out)).trans X2.out)
            have BB3 := Lib.hid (BB2.out.trans (hq.mono BB2.out.size))
            clear hso hbl hq N1b N2 X1b X2 hlt b4 HSO
            go_wp2_with fail
            refine (HAL.out wr BB3.out).mono ?_
            rintro e w8 ⟨rfl, hb8⟩
            have z8 := hb8.size
            have N1d := Lib.hid (NodeP.keep (fun b hb => hb8.block b (by have h1 : b < w1.heap.size := hb; omega)) (fun _ h => h) _ _ N1c.out)
            have N2d := Lib.hid (NodeP.keep (fun b hb => hb8.block b (by have h1 : b < w2.heap.size := hb; omega)) (fun _ h => h) _ _ N2c.out)
            have X1d := (hb8.block _ (heap_lt X1c.out)).trans X1c.out
            have X2d := (hb8.block _ (heap_lt X2c.out)).trans X2c.out
            have BB8 := Lib.hid (BB3.out.trans (hb8.mono BB3.out.size))
            obtain ⟨x0, x1, x2, x3, x4, x5, x6⟩ := cells7 X1d
            obtain ⟨y0, y1, y2, y3, y4, y5, y6⟩ := cells7 X2d
            clear hb8 X1d X2d N1c N2c X1c X2c
            go_wp2_with fail
            refine (HEQ.out w8 _ _ ⟨_, rfl, NodeP.toIn (B := w8.heap.size) (fun b hb => by have h1 : b < w1.heap.size := hb; omega) _ _ N1d.out⟩ ⟨_, rfl, NodeP.toIn (B := w8.heap.size) (fun b hb => by have h1 : b < w2.heap.size := hb; omega) _ _ N2d.out⟩).mono ?_
            rintro e w9 ⟨rfl, hb9⟩
            go_wp2_with fail
            go_ret
            exact ⟨rfl, BB8.out.trans (hb9.mono BB8.out.size)⟩
end Go.Proofs.YtaghipnheomggaaDoor
