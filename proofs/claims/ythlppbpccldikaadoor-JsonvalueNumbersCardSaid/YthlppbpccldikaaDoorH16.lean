/-
  Several texts in one file, in build order:
  - Walks of chapter 11, the program: Depth.
  - Walks of chapter 11, the program: Equal. Made by gen_jeq11.py.
-/
import Derived.Test.YthlppbpccldikaaDoorH14
import Derived.WalkSpells
import Derived.WalkLawsBesides
set_option linter.unusedVariables false
namespace Go.Proofs.YthlppbpccldikaaDoor
open Go.RowKit

set_option maxHeartbeats 4000000 in
set_option maxRecDepth 100000 in
theorem depth11_any (s : Nat) : ∀ (v : JV) (u : Value) (w : World), jsz v ≤ s → jful v ≤ 1000000 → ValV w (· < w.heap.size) v u →
    Calls Tryd.prog 12 #[u] w fun e w' => e = .returned (.int .i64 (jdep v : Nat)) ∧ Below w.heap.size w w' := by
  induction s with
  | zero => intro v u w h; have := jsz_pos v; omega
  | succ s ih =>
    intro v u w hs hf hv
    have hfm := jful_form v
    obtain ⟨IA, ic, MA, mc, rfl, hi, hm, hic, hmc⟩ := hv.open_
    have hil := jfulL_len v.items
    have hml := jfulM_len v.mems
    have hdl := jdepL_le v.items
    have hdm := jdepM_le v.mems
    have hX0 := heap_alloc_new w (valBox v IA ic MA mc)
    have hB0 := (Below.refl w.heap.size w).alloc (Nat.le_refl _) (valBox v IA ic MA mc)
    have hil2 : v.items.length ≤ 1000000 := by omega
    have hml2 : v.mems.length ≤ 1000000 := by omega
    have hdl2 : jdepL v.items ≤ 1000000 := by omega
    have hdm2 : jdepM v.mems ≤ 1000000 := by omega
    have hdep := jdep_form v
    obtain ⟨k0, k1, k2, k3, k4, k5, k6⟩ := jbox_cells hX0
    obtain ⟨D, hD⟩ : ∃ D, jdep v = D := ⟨_, rfl⟩
    rw [hD] at hdep ⊢
    have HI := Lib.hid hi
    have HM := Lib.hid hm
    have HIH := Lib.hid ih
    have HS := Lib.hid hs
    have HF := Lib.hid hf
    have HFM := Lib.hid hfm
    have HX0 := Lib.hid hX0
    have HB0 := Lib.hid hB0
    clear hi hm ih hs hf hfm hv hD hdl hdm hX0 hil hml hB0
    by_cases h4 : v.kind = 4
    · have t4 : (v.kind == 4) = true := by rw [h4]; rfl
      rw [if_pos h4, if_neg (by rw [h4]; decide), Nat.max_zero] at hdep
      obtain ⟨E, hE⟩ : ∃ E, jdepL v.items = E := ⟨_, rfl⟩
      rw [hE] at hdep hdl2
      subst hdep
      have HE := Lib.hid hE
      clear h4 hE hdm2
      go_enter Tryd.func12, Tryd.ntmps12
      go_wp2_with fail
      clear k0 k1 k2 k3 k4 k5 k6
      go_loopw [3, 15] (fun s3 i4 wr => ∃ (i a : Nat), i ≤ v.items.length ∧ i4 = .int .i64 i ∧ s3 = .int .i64 a ∧ max a (jdepL (v.items.drop i)) = E ∧ Below w.heap.size w wr) (fun _ i4 _ => v.items.length - (intOf i4).toNat)
      case atStart => exact ⟨0, 0, Nat.zero_le _, rfl, rfl, by have := HE.out; simpa using this, HB0.out⟩
      case round =>
        obtain ⟨i, a, hi, rfl, rfl, hres, hb⟩ := hrel
        have HB := Lib.hid hb
        clear hb
        by_cases hlt : i < v.items.length
        · have hlt' : (i : Int) < v.items.length := by omega
          rw [jdepL_step hlt] at hres
          have hjz := jsz_item (List.getElem_mem hlt)
          have hjf := jfulL_mem (List.getElem_mem hlt)
          obtain ⟨b, off, cs, rfl, hbl, hr, hcs⟩ := HI.out.at_ hlt
          have hr1 := rangeAt_keep hr (HB.out.block b hbl)
          have hcs1 := ValP.keep (fun k hk => HB.out.block k hk) (fun k hk => Nat.lt_of_lt_of_le hk HB.out.size) _ _ hcs
          generalize v.items[i] = x at *
          obtain ⟨NA, nc, NM, nd, rfl, _, _, _, _⟩ := hcs.open_
          have hb5 := (Below.refl wr.heap.size wr).alloc (Nat.le_refl _) (valBox x NA nc NM nd)
          have hg5 := range_of_heap (cs := [.int .i64 x.kind, .bool x.b, .int .i64 x.n, .string (S x.s), .slice NA x.items.length nc, .slice NM x.mems.length nd, .int .i64 x.pos]) (heap_alloc_new wr (valBox x NA nc NM nd))
          have hcall := HIH.out x _ (wr.alloc (valBox x NA nc NM nd)) (by have := HS.out; omega) (by have := HF.out; have := HFM.out; omega) ⟨_, rfl, ValP.keep (fun k hk => hb5.block k hk) (fun k hk => Nat.lt_of_lt_of_le hk hb5.size) _ _ hcs1⟩
          have hdx2 : jdep x ≤ 1000000 := by have := jdep_le x; have := HF.out; have := HFM.out; omega
          generalize jdep x = dx at *
          have ha : a ≤ 1000000 := by omega
          have HC := Lib.hid hcall
          have HR1 := Lib.hid hr1
          have HG5 := Lib.hid hg5
          have HB5 := Lib.hid (HB.out.trans (hb5.mono HB.out.size))
          have HRR := Lib.hid hres
          clear hr hr1 hcs hcs1 hcall hjz hjf hres hb5 hg5
          go_wp2_with (first
            | ((with_reducible refine gate ?_); first
                | (refine wp_load_val rfl _ rfl b (off + i * 7) rfl _ rfl HR1.out ?_)
                | (refine wp_load_val rfl _ rfl wr.heap.size 0 rfl _ rfl HG5.out ?_))
            | (go_at_call 12; refine HC.out.mono ?_; rintro e w3 ⟨rfl, hb3⟩))
          go_roundw
          case rel => exact ⟨i + 1, max a dx, by omega, by go_num, val_int (by omega), HRR.out, HB5.out.trans (hb3.mono HB5.out.size)⟩
          case measure => simp [intOf]; omega
        · obtain rfl : i = v.items.length := by omega
          rw [List.drop_length, jdepL, Nat.max_zero] at hres
          subst hres
          go_wp2_with fail
          go_ret
          exact ⟨ret_int (by rw [Int.natCast_add]; rfl), HB.out⟩
    · have t4 : (v.kind == 4) = false := by rw [beq_eq_false_iff_ne]; exact h4
      rw [if_neg h4, Nat.zero_max] at hdep
      by_cases h5 : v.kind = 5
      · have t5 : (v.kind == 5) = true := by rw [h5]; rfl
        rw [if_pos h5] at hdep
        obtain ⟨E, hE⟩ : ∃ E, jdepM v.mems = E := ⟨_, rfl⟩
        rw [hE] at hdep hdm2
        subst hdep
        have HE := Lib.hid hE
        clear h4 h5 hE hdl2
        go_enter Tryd.func12, Tryd.ntmps12
        go_wp2_with fail
        clear k0 k1 k2 k3 k4 k5 k6
        go_loopw [3, 29] (fun s3 i4 wr => ∃ (i a : Nat), i ≤ v.mems.length ∧ i4 = .int .i64 i ∧ s3 = .int .i64 a ∧ max a (jdepM (v.mems.drop i)) = E ∧ Below w.heap.size w wr) (fun _ i4 _ => v.mems.length - (intOf i4).toNat)
        case atStart => exact ⟨0, 0, Nat.zero_le _, rfl, rfl, by have := HE.out; simpa using this, HB0.out⟩
        case round =>
          obtain ⟨i, a, hi, rfl, rfl, hres, hb⟩ := hrel
          have HB := Lib.hid hb
          clear hb
          by_cases hlt : i < v.mems.length
          · have hlt' : (i : Int) < v.mems.length := by omega
            rw [jdepM_step hlt] at hres
            have hjz := jsz_mem (List.getElem_mem hlt)
            have hjf := jfulM_mem (List.getElem_mem hlt)
            obtain ⟨b, off, cs, rfl, hbl, hr, hcs⟩ := HM.out.at_ hlt
            have hr1 := rangeAt_keep hr (HB.out.block b hbl)
            have hcs1 := MemP.keep (fun k hk => HB.out.block k hk) (fun k hk => Nat.lt_of_lt_of_le hk HB.out.size) hcs
            generalize v.mems[i] = x at *
            obtain ⟨vs, hvs, hcse⟩ := hcs1
            obtain ⟨NA, nc, NM, nd, hvse, _, _, _, _⟩ := hvs.open_
            subst hvse
            simp only [List.cons_append, List.nil_append] at hcse
            subst hcse
            have hb5 := (Below.refl wr.heap.size wr).alloc (Nat.le_refl _) (memBox x NA nc NM nd)
            have hg5 := mem_cells_val (range_of_heap (cs := [.string (S x.key), .int .i64 x.val.kind, .bool x.val.b, .int .i64 x.val.n, .string (S x.val.s), .slice NA x.val.items.length nc, .slice NM x.val.mems.length nd, .int .i64 x.val.pos, .int .i64 x.pos]) (heap_alloc_new wr (memBox x NA nc NM nd)))
            have hcall := HIH.out x.val _ (wr.alloc (memBox x NA nc NM nd)) (by have := HS.out; omega) (by have := HF.out; have := HFM.out; omega) ⟨_, rfl, ValP.keep (fun k hk => hb5.block k hk) (fun k hk => Nat.lt_of_lt_of_le hk hb5.size) _ _ hvs⟩
            have hdx2 : jdep x.val ≤ 1000000 := by have := jdep_le x.val; have := HF.out; have := HFM.out; omega
            generalize jdep x.val = dx at *
            have ha : a ≤ 1000000 := by omega
            have HC := Lib.hid hcall
            have HR1 := Lib.hid hr1
            have HG5 := Lib.hid hg5
            have HB5 := Lib.hid (HB.out.trans (hb5.mono HB.out.size))
            have HRR := Lib.hid hres
            clear hr hr1 hcs hvs hcall hjz hjf hres hb5 hg5
            go_wp2_with (first
              | ((with_reducible refine gate ?_); first
                  | (refine wp_load_mem rfl _ rfl b (off + i * 9) rfl _ rfl HR1.out ?_)
                  | (refine wp_load_val rfl _ rfl wr.heap.size (0 + 1) rfl _ rfl HG5.out ?_))
              | (go_at_call 12; refine HC.out.mono ?_; rintro e w3 ⟨rfl, hb3⟩))
            go_roundw
            case rel => exact ⟨i + 1, max a dx, by omega, by go_num, val_int (by omega), HRR.out, HB5.out.trans (hb3.mono HB5.out.size)⟩
            case measure => simp [intOf]; omega
          · obtain rfl : i = v.mems.length := by omega
            rw [List.drop_length, jdepM, Nat.max_zero] at hres
            subst hres
            go_wp2_with fail
            go_ret
            exact ⟨ret_int (by rw [Int.natCast_add]; rfl), HB.out⟩
      · have t5 : (v.kind == 5) = false := by rw [beq_eq_false_iff_ne]; exact h5
        rw [if_neg h5] at hdep
        subst hdep
        clear h4 h5
        go_enter Tryd.func12, Tryd.ntmps12
        go_wp2_with fail
        go_ret
        exact ⟨rfl, HB0.out⟩
end Go.Proofs.YthlppbpccldikaaDoor
set_option linter.unusedVariables false
set_option linter.unusedSimpArgs false
namespace Go.Proofs.YthlppbpccldikaaDoor
open Go.RowKit

def vFEq (l r : List JV) : Bool := decide (l.length = r.length) && jeqL false l r
set_option maxHeartbeats 4000000 in
set_option maxRecDepth 100000 in
theorem eqFuncV11_any (l r : List JV) (A B : Option Addr) (c d : Nat) (w : World) (hl : ElsP valE w (· < w.heap.size) (.slice A l.length c) l) (hr : ElsP valE w (· < w.heap.size) (.slice B r.length d) r) (hll : l.length ≤ 2600000000000) (hrl : r.length ≤ 2600000000000)
    (ih : ∀ x ∈ l, ∀ y ∈ r, ∀ (v u : Value) (W : World), ValV W (· < W.heap.size) x v → ValV W (· < W.heap.size) y u → Calls Tryd.prog 14 #[v, u] W fun e w' => e = .returned (.bool (jeq false x y)) ∧ Below W.heap.size W w') :
    Calls Tryd.prog 20 #[.slice A l.length c, .slice B r.length d, .func (.func 14) #[] #[]] w fun e w' => e = .returned (.bool (vFEq l r)) ∧ Below w.heap.size w w' := by
  by_cases hn : l.length = r.length
  · obtain ⟨T, hT⟩ : ∃ T, jeqL false l r = T := ⟨_, rfl⟩
    have hTT : vFEq l r = T := by unfold vFEq; rw [hT]; simp [hn]
    rw [hTT]
    clear hTT
    have HT := Lib.hid hT
    have HL := Lib.hid hl
    have HR := Lib.hid hr
    have HN := Lib.hid hn
    have HIH := Lib.hid ih
    have hnn : ((l.length : Int) != r.length) = false := by rw [bne, beq_iff_eq.2 (by omega)]; rfl
    clear hT hl hr hn ih
    go_enter Tryd.func20, Tryd.ntmps20
    go_wp2_with fail
    clear hnn
    go_loopw [17] (fun i17 wr => ∃ i : Nat, i ≤ l.length ∧ i17 = .int .i64 i ∧ jeqL false (l.drop i) (r.drop i) = T ∧ Below w.heap.size w wr) (fun i17 _ => l.length - (intOf i17).toNat)
    case atStart => exact ⟨0, Nat.zero_le _, rfl, HT.out, Below.refl _ _⟩
    case round =>
      obtain ⟨i, hi, rfl, hres, hb⟩ := hrel
      clear HT
      have HB := Lib.hid hb
      have hsz := hb.size
      clear hb
      by_cases hlt : i < l.length
      · have hlt' : (i : Int) < l.length := by omega
        have hlr : i < r.length := by have := HN.out; omega
        have hlr2 : (i : Int) < r.length := by omega
        obtain ⟨b, off, cs, rfl, hpb, hra0, hcs⟩ := HL.out.at_ hlt
        obtain ⟨b2, off2, ds, rfl, hpb2, hrb0, hds⟩ := HR.out.at_ hlr
        have hra := rangeAt_keep hra0 (HB.out.block b hpb)
        have hrb := rangeAt_keep hrb0 (HB.out.block b2 hpb2)
        have hres' : (jeq false l[i] r[i] && jeqL false (l.drop (i + 1)) (r.drop (i + 1))) = T := by
          rw [← hres, jeqL_step hlt hlr]
        clear hres
        have hih := HIH.out _ (List.getElem_mem hlt) _ (List.getElem_mem hlr)
        have hcs1 := ValP.keep (w' := wr) (p' := (· < wr.heap.size)) (fun k hk => HB.out.block k hk) (fun k hk => Nat.lt_of_lt_of_le hk hsz) _ _ hcs
        have hds1 := ValP.keep (w' := wr) (p' := (· < wr.heap.size)) (fun k hk => HB.out.block k hk) (fun k hk => Nat.lt_of_lt_of_le hk hsz) _ _ hds
        have hsf := fun W (hW : Below wr.heap.size wr W) => hih (.agg cs.toArray) (.agg ds.toArray) W ⟨cs, rfl, ValP.keep (fun k hk => hW.block k hk) (fun k hk => Nat.lt_of_lt_of_le hk hW.size) _ _ hcs1⟩ ⟨ds, rfl, ValP.keep (fun k hk => hW.block k hk) (fun k hk => Nat.lt_of_lt_of_le hk hW.size) _ _ hds1⟩
        obtain ⟨PA, pc, KA, kc, hce⟩ := hcs.cells
        obtain ⟨PB, pd, KB, kd, hde⟩ := hds.cells
        subst hce hde
        clear hih hcs1 hds1 hra0 hrb0
        obtain ⟨q, hq⟩ : ∃ q, jeq false l[i] r[i] = q := ⟨_, rfl⟩
        rw [hq] at hres'
        simp only [hq] at hsf
        clear hq
        generalize l[i] = x at *
        generalize r[i] = y at *
        have HSF := Lib.hid hsf
        have HRA := Lib.hid hra
        obtain ⟨W2, hW2⟩ : ∃ W2, (wr.alloc (valBox x PA pc KA kc)).alloc (valBox y PB pd KB kd) = W2 := ⟨_, rfl⟩
        have hb2 : Below wr.heap.size wr W2 := by rw [← hW2]; exact ((Below.refl _ _).alloc (Nat.le_refl _) _).alloc (by simp) _
        have HRB := Lib.hid (show (wr.alloc (valBox x PA pc KA kc)).rangeAt b2 (off2 + i * 7) _ from rangeAt_keep hrb (Below.heap_alloc _ _ _ (Nat.lt_of_lt_of_le hpb2 hsz)))
        have hxa := range_of_heap (cs := [.int .i64 x.kind, .bool x.b, .int .i64 x.n, .string (S x.s), .slice PA x.items.length pc, .slice KA x.mems.length kc, .int .i64 x.pos]) (w := W2) (b := wr.heap.size) (t := 25) (fr := (0, 0)) (by rw [← hW2]; exact alloc_old (heap_alloc_new _ _))
        have hxb := range_of_heap (cs := [.int .i64 y.kind, .bool y.b, .int .i64 y.n, .string (S y.s), .slice PB y.items.length pd, .slice KB y.mems.length kd, .int .i64 y.pos]) (w := W2) (b := wr.heap.size + 1) (t := 25) (fr := (0, 0)) (by rw [← hW2]; exact alloc_at (by simp))
        have HXA := Lib.hid hxa
        have HXB := Lib.hid hxb
        have W2B := Lib.hid hb2
        have HRES := Lib.hid hres'
        clear hsf hra hrb hres' hxa hxb hb2 hcs hds
        cases q with
        | true =>
          have hres := HRES.out
          rw [Bool.true_and] at hres
          have HRS := Lib.hid hres
          clear hres HRES
          go_wp2_with (first
            | ((with_reducible refine gate ?_); first
                | (refine wp_load_val rfl _ rfl b (off + i * 7) rfl _ rfl HRA.out ?_)
                | (refine wp_load_val rfl _ rfl b2 (off2 + i * 7) rfl _ rfl HRB.out ?_)
                | (refine wp_load_val rfl _ rfl wr.heap.size 0 rfl _ rfl HXA.out ?_)
                | (refine wp_load_val rfl _ rfl (wr.heap.size + 1) 0 rfl _ rfl HXB.out ?_))
            | (go_at_call 14; refine (HSF.out _ W2B.out).mono ?_; rintro e w3 ⟨rfl, hb3⟩; have R3 := Lib.hid (W2B.out.trans (hb3.mono W2B.out.size)); clear hb3))
          go_roundw
          case rel => exact ⟨i + 1, by omega, by go_num, HRS.out, HB.out.trans (R3.out.mono hsz)⟩
          case measure => simp [intOf]; omega
        | false =>
          have hres := HRES.out
          rw [Bool.false_and] at hres
          subst hres
          clear HRES
          go_wp2_with (first
            | ((with_reducible refine gate ?_); first
                | (refine wp_load_val rfl _ rfl b (off + i * 7) rfl _ rfl HRA.out ?_)
                | (refine wp_load_val rfl _ rfl b2 (off2 + i * 7) rfl _ rfl HRB.out ?_)
                | (refine wp_load_val rfl _ rfl wr.heap.size 0 rfl _ rfl HXA.out ?_)
                | (refine wp_load_val rfl _ rfl (wr.heap.size + 1) 0 rfl _ rfl HXB.out ?_))
            | (go_at_call 14; refine (HSF.out _ W2B.out).mono ?_; rintro e w3 ⟨rfl, hb3⟩; have R3 := Lib.hid (W2B.out.trans (hb3.mono W2B.out.size)); clear hb3))
          go_ret
          exact ⟨rfl, HB.out.trans (R3.out.mono hsz)⟩
      · obtain rfl : i = l.length := by omega
        have e : T = true := by
          rw [← hres, List.drop_length]; exact jeqL_nil _ _
        subst e
        clear hres
        go_wp2_with fail
        go_ret
        exact ⟨rfl, HB.out⟩
  · have t : ((l.length : Int) != r.length) = true := by rw [bne_iff_ne]; omega
    have hTT : vFEq l r = false := by unfold vFEq; simp [hn]
    rw [hTT]
    clear hn hl hr hTT ih
    go_enter Tryd.func20, Tryd.ntmps20
    go_wp2_with fail
    go_ret
    exact ⟨rfl, Below.refl _ _⟩
def mFEq (l r : List JM) : Bool := decide (l.length = r.length) && jeqM false l r
set_option maxHeartbeats 4000000 in
set_option maxRecDepth 100000 in
theorem eqFuncM11_any (l r : List JM) (A B : Option Addr) (c d : Nat) (w : World) (hl : ElsP memE w (· < w.heap.size) (.slice A l.length c) l) (hr : ElsP memE w (· < w.heap.size) (.slice B r.length d) r) (hll : l.length ≤ 2600000000000) (hrl : r.length ≤ 2600000000000)
    (ih : ∀ x ∈ l, ∀ y ∈ r, ∀ (vc uc : List Value) (W : World), MemP W (· < W.heap.size) x vc → MemP W (· < W.heap.size) y uc → Calls Tryd.prog 22 #[.agg vc.toArray, .agg uc.toArray] W fun e w' => e = .returned (.bool ((x.key == y.key) && jeq false x.val y.val)) ∧ Below W.heap.size W w') :
    Calls Tryd.prog 21 #[.slice A l.length c, .slice B r.length d, .func (.func 22) #[] #[]] w fun e w' => e = .returned (.bool (mFEq l r)) ∧ Below w.heap.size w w' := by
  by_cases hn : l.length = r.length
  · obtain ⟨T, hT⟩ : ∃ T, jeqM false l r = T := ⟨_, rfl⟩
    have hTT : mFEq l r = T := by unfold mFEq; rw [hT]; simp [hn]
    rw [hTT]
    clear hTT
    have HT := Lib.hid hT
    have HL := Lib.hid hl
    have HR := Lib.hid hr
    have HN := Lib.hid hn
    have HIH := Lib.hid ih
    have hnn : ((l.length : Int) != r.length) = false := by rw [bne, beq_iff_eq.2 (by omega)]; rfl
    clear hT hl hr hn ih
    go_enter Tryd.func21, Tryd.ntmps21
    go_wp2_with fail
    clear hnn
    go_loopw [17] (fun i17 wr => ∃ i : Nat, i ≤ l.length ∧ i17 = .int .i64 i ∧ jeqM false (l.drop i) (r.drop i) = T ∧ Below w.heap.size w wr) (fun i17 _ => l.length - (intOf i17).toNat)
    case atStart => exact ⟨0, Nat.zero_le _, rfl, HT.out, Below.refl _ _⟩
    case round =>
      obtain ⟨i, hi, rfl, hres, hb⟩ := hrel
      clear HT
      have HB := Lib.hid hb
      have hsz := hb.size
      clear hb
      by_cases hlt : i < l.length
      · have hlt' : (i : Int) < l.length := by omega
        have hlr : i < r.length := by have := HN.out; omega
        have hlr2 : (i : Int) < r.length := by omega
        obtain ⟨b, off, cs, rfl, hpb, hra0, hcs⟩ := HL.out.at_ hlt
        obtain ⟨b2, off2, ds, rfl, hpb2, hrb0, hds⟩ := HR.out.at_ hlr
        have hra := rangeAt_keep hra0 (HB.out.block b hpb)
        have hrb := rangeAt_keep hrb0 (HB.out.block b2 hpb2)
        have hres' : (((l[i].key == r[i].key) && jeq false l[i].val r[i].val) && jeqM false (l.drop (i + 1)) (r.drop (i + 1))) = T := by
          rw [← hres, jeqM_step hlt hlr]; simp
        clear hres
        have hih := HIH.out _ (List.getElem_mem hlt) _ (List.getElem_mem hlr)
        have hcs1 := MemP.keep (w' := wr) (p' := (· < wr.heap.size)) (fun k hk => HB.out.block k hk) (fun k hk => Nat.lt_of_lt_of_le hk hsz) hcs
        have hds1 := MemP.keep (w' := wr) (p' := (· < wr.heap.size)) (fun k hk => HB.out.block k hk) (fun k hk => Nat.lt_of_lt_of_le hk hsz) hds
        have hsf := fun W (hW : Below wr.heap.size wr W) => hih cs ds W (MemP.keep (fun k hk => hW.block k hk) (fun k hk => Nat.lt_of_lt_of_le hk hW.size) hcs1) (MemP.keep (fun k hk => hW.block k hk) (fun k hk => Nat.lt_of_lt_of_le hk hW.size) hds1)
        obtain ⟨PA, pc, KA, kc, hce⟩ := hcs.cells
        obtain ⟨PB, pd, KB, kd, hde⟩ := hds.cells
        subst hce hde
        clear hih hcs1 hds1 hra0 hrb0
        obtain ⟨q, hq⟩ : ∃ q, ((l[i].key == r[i].key) && jeq false l[i].val r[i].val) = q := ⟨_, rfl⟩
        rw [hq] at hres'
        simp only [hq] at hsf
        clear hq
        generalize l[i] = x at *
        generalize r[i] = y at *
        have HSF := Lib.hid hsf
        have HRA := Lib.hid hra
        obtain ⟨W2, hW2⟩ : ∃ W2, (wr.alloc (memBox x PA pc KA kc)).alloc (memBox y PB pd KB kd) = W2 := ⟨_, rfl⟩
        have hb2 : Below wr.heap.size wr W2 := by rw [← hW2]; exact ((Below.refl _ _).alloc (Nat.le_refl _) _).alloc (by simp) _
        have HRB := Lib.hid (show (wr.alloc (memBox x PA pc KA kc)).rangeAt b2 (off2 + i * 9) _ from rangeAt_keep hrb (Below.heap_alloc _ _ _ (Nat.lt_of_lt_of_le hpb2 hsz)))
        have hxa := range_of_heap (cs := [.string (S x.key), .int .i64 x.val.kind, .bool x.val.b, .int .i64 x.val.n, .string (S x.val.s), .slice PA x.val.items.length pc, .slice KA x.val.mems.length kc, .int .i64 x.val.pos, .int .i64 x.pos]) (w := W2) (b := wr.heap.size) (t := 45) (fr := (0, 0)) (by rw [← hW2]; exact alloc_old (heap_alloc_new _ _))
        have hxb := range_of_heap (cs := [.string (S y.key), .int .i64 y.val.kind, .bool y.val.b, .int .i64 y.val.n, .string (S y.val.s), .slice PB y.val.items.length pd, .slice KB y.val.mems.length kd, .int .i64 y.val.pos, .int .i64 y.pos]) (w := W2) (b := wr.heap.size + 1) (t := 45) (fr := (0, 0)) (by rw [← hW2]; exact alloc_at (by simp))
        have HXA := Lib.hid hxa
        have HXB := Lib.hid hxb
        have W2B := Lib.hid hb2
        have HRES := Lib.hid hres'
        clear hsf hra hrb hres' hxa hxb hb2 hcs hds
        cases q with
        | true =>
          have hres := HRES.out
          rw [Bool.true_and] at hres
          have HRS := Lib.hid hres
          clear hres HRES
          go_wp2_with (first
            | ((with_reducible refine gate ?_); first
                | (refine wp_load_mem rfl _ rfl b (off + i * 9) rfl _ rfl HRA.out ?_)
                | (refine wp_load_mem rfl _ rfl b2 (off2 + i * 9) rfl _ rfl HRB.out ?_)
                | (refine wp_load_mem rfl _ rfl wr.heap.size 0 rfl _ rfl HXA.out ?_)
                | (refine wp_load_mem rfl _ rfl (wr.heap.size + 1) 0 rfl _ rfl HXB.out ?_))
            | (go_at_call 22; refine (HSF.out _ W2B.out).mono ?_; rintro e w3 ⟨rfl, hb3⟩; have R3 := Lib.hid (W2B.out.trans (hb3.mono W2B.out.size)); clear hb3))
          go_roundw
          case rel => exact ⟨i + 1, by omega, by go_num, HRS.out, HB.out.trans (R3.out.mono hsz)⟩
          case measure => simp [intOf]; omega
        | false =>
          have hres := HRES.out
          rw [Bool.false_and] at hres
          subst hres
          clear HRES
          go_wp2_with (first
            | ((with_reducible refine gate ?_); first
                | (refine wp_load_mem rfl _ rfl b (off + i * 9) rfl _ rfl HRA.out ?_)
                | (refine wp_load_mem rfl _ rfl b2 (off2 + i * 9) rfl _ rfl HRB.out ?_)
                | (refine wp_load_mem rfl _ rfl wr.heap.size 0 rfl _ rfl HXA.out ?_)
                | (refine wp_load_mem rfl _ rfl (wr.heap.size + 1) 0 rfl _ rfl HXB.out ?_))
            | (go_at_call 22; refine (HSF.out _ W2B.out).mono ?_; rintro e w3 ⟨rfl, hb3⟩; have R3 := Lib.hid (W2B.out.trans (hb3.mono W2B.out.size)); clear hb3))
          go_ret
          exact ⟨rfl, HB.out.trans (R3.out.mono hsz)⟩
      · obtain rfl : i = l.length := by omega
        have e : T = true := by
          rw [← hres, List.drop_length]; exact jeqM_nil _ _
        subst e
        clear hres
        go_wp2_with fail
        go_ret
        exact ⟨rfl, HB.out⟩
  · have t : ((l.length : Int) != r.length) = true := by rw [bne_iff_ne]; omega
    have hTT : mFEq l r = false := by unfold mFEq; simp [hn]
    rw [hTT]
    clear hn hl hr hTT ih
    go_enter Tryd.func21, Tryd.ntmps21
    go_wp2_with fail
    go_ret
    exact ⟨rfl, Below.refl _ _⟩
set_option maxHeartbeats 4000000 in
set_option maxRecDepth 100000 in
theorem equalM11_any (x y : JM) (vc uc : List Value) (w : World) (hv : MemP w (· < w.heap.size) x vc) (hu : MemP w (· < w.heap.size) y uc)
    (ih : ∀ (v u : Value) (W : World), ValV W (· < W.heap.size) x.val v → ValV W (· < W.heap.size) y.val u → Calls Tryd.prog 14 #[v, u] W fun e w' => e = .returned (.bool (jeq false x.val y.val)) ∧ Below W.heap.size W w') :
    Calls Tryd.prog 22 #[.agg vc.toArray, .agg uc.toArray] w fun e w' => e = .returned (.bool ((x.key == y.key) && jeq false x.val y.val)) ∧ Below w.heap.size w w' := by
  obtain ⟨vs, hvs, hce⟩ := hv
  obtain ⟨PA, pc, KA, kc, hvse, _, _, _, _⟩ := hvs.open_
  subst hvse
  simp only [List.cons_append, List.nil_append] at hce
  subst hce
  obtain ⟨us, hus, hde⟩ := hu
  obtain ⟨PB, pd, KB, kd, huse, _, _, _, _⟩ := hus.open_
  subst huse
  simp only [List.cons_append, List.nil_append] at hde
  subst hde
  obtain ⟨W2, hW2⟩ : ∃ W2, (w.alloc (memBox x PA pc KA kc)).alloc (memBox y PB pd KB kd) = W2 := ⟨_, rfl⟩
  have hb2 : Below w.heap.size w W2 := by rw [← hW2]; exact ((Below.refl _ _).alloc (Nat.le_refl _) _).alloc (by simp) _
  have hga : W2.heap[w.heap.size]? = some (memBox x PA pc KA kc) := by rw [← hW2]; exact alloc_old (heap_alloc_new _ _)
  have hgb : W2.heap[w.heap.size + 1]? = some (memBox y PB pd KB kd) := by rw [← hW2]; exact alloc_at (by simp)
  have hra := mem_cells_val (range_of_heap (cs := [.string (S x.key), .int .i64 x.val.kind, .bool x.val.b, .int .i64 x.val.n, .string (S x.val.s), .slice PA x.val.items.length pc, .slice KA x.val.mems.length kc, .int .i64 x.val.pos, .int .i64 x.pos]) hga)
  have hrb := mem_cells_val (range_of_heap (cs := [.string (S y.key), .int .i64 y.val.kind, .bool y.val.b, .int .i64 y.val.n, .string (S y.val.s), .slice PB y.val.items.length pd, .slice KB y.val.mems.length kd, .int .i64 y.val.pos, .int .i64 y.pos]) hgb)
  have hc := ih _ _ W2 ⟨_, rfl, ValP.keep (fun k hk => hb2.block k hk) (fun k hk => Nat.lt_of_lt_of_le hk hb2.size) _ _ hvs⟩ ⟨_, rfl, ValP.keep (fun k hk => hb2.block k hk) (fun k hk => Nat.lt_of_lt_of_le hk hb2.size) _ _ hus⟩
  obtain ⟨x0, x1, x2, x3, x4, x5, x6, x7, x8⟩ := mbox_cells hga
  obtain ⟨y0, y1, y2, y3, y4, y5, y6, y7, y8⟩ := mbox_cells hgb
  obtain ⟨q, hq⟩ : ∃ q, jeq false x.val y.val = q := ⟨_, rfl⟩
  rw [hq] at hc ⊢
  have HC := Lib.hid hc
  have HRA := Lib.hid hra
  have HRB := Lib.hid hrb
  have HB2 := Lib.hid hb2
  clear hc hra hrb hb2 hga hgb hvs hus ih hq
  cases hk : (x.key == y.key) with
  | false =>
    go_enter Tryd.func22, Tryd.ntmps22
    go_wp2_with fail
    go_ret
    exact ⟨rfl, HB2.out⟩
  | true =>
    go_enter Tryd.func22, Tryd.ntmps22
    go_wp2_with (first
      | (go_at_call 14; refine HC.out.mono ?_; rintro e w3 ⟨rfl, hb3⟩))
    go_ret
    exact ⟨rfl, HB2.out.trans (hb3.mono HB2.out.size)⟩
theorem jeqF_form (v u : JV) : jeq false v u = ((v.kind == u.kind) && ((v.b == u.b) && ((v.n == u.n) && ((v.s == u.s) && (vFEq v.items u.items && mFEq v.mems u.mems))))) := by
  rw [jeq_form]
  unfold jhEq vFEq mFEq
  have e1 : (v.items.length == u.items.length) = decide (v.items.length = u.items.length) := rfl
  have e2 : (v.mems.length == u.mems.length) = decide (v.mems.length = u.mems.length) := rfl
  rw [e1, e2]
  cases (v.kind == u.kind) <;> cases (v.b == u.b) <;> cases (v.n == u.n) <;> cases (v.s == u.s) <;> cases decide (v.items.length = u.items.length) <;> cases decide (v.mems.length = u.mems.length) <;> cases jeqL false v.items u.items <;> simp
set_option maxHeartbeats 4000000 in
set_option maxRecDepth 100000 in
theorem equal11_any (g : Nat) : ∀ (n m : JV) (v u : Value) (w : World), jsz n ≤ g → JFit n → JFit m → ValV w (· < w.heap.size) n v → ValV w (· < w.heap.size) m u →
    Calls Tryd.prog 14 #[v, u] w fun e w' => e = .returned (.bool (jeq false n m)) ∧ Below w.heap.size w w' := by
  induction g with
  | zero => intro n m v u w h; have := jsz_pos n; omega
  | succ g ih =>
    intro n m v u w hg hfn hfm hv hu
    obtain ⟨A1, a1, K1, k1, rfl, hA1, hK1, _, _⟩ := hv.open_
    obtain ⟨A2, a2, K2, k2, rfl, hA2, hK2, _, _⟩ := hu.open_
    obtain ⟨⟨hf1, hf2, _, _⟩, hf4, hf5⟩ := hfn.form
    obtain ⟨⟨he1, he2, _, _⟩, he4, he5⟩ := hfm.form
    obtain ⟨W1, hW1⟩ : ∃ W1, (w.alloc (valBox n A1 a1 K1 k1)).alloc (valBox m A2 a2 K2 k2) = W1 := ⟨_, rfl⟩
    have hb1 : Below w.heap.size w W1 := by rw [← hW1]; exact ((Below.refl _ _).alloc (Nat.le_refl _) _).alloc (by simp) _
    have hga : W1.heap[w.heap.size]? = some (valBox n A1 a1 K1 k1) := by rw [← hW1]; exact alloc_old (heap_alloc_new _ _)
    have hgb : W1.heap[w.heap.size + 1]? = some (valBox m A2 a2 K2 k2) := by rw [← hW1]; exact alloc_at (by simp)
    have hz1 := hb1.size
    obtain ⟨x0, x1, x2, x3, x4, x5, x6⟩ := jbox_cells hga
    obtain ⟨y0, y1, y2, y3, y4, y5, y6⟩ := jbox_cells hgb
    have hcA := fun W (hW : Below w.heap.size w W) => eqFuncV11_any n.items m.items A1 A2 a1 a2 W (hA1.keep valE_ok (fun k hk => hW.block k hk) (fun k hk => Nat.lt_of_lt_of_le hk hW.size)) (hA2.keep valE_ok (fun k hk => hW.block k hk) (fun k hk => Nat.lt_of_lt_of_le hk hW.size)) hf1 he1 (fun x hx y hy v u W' hv' hu' => ih x y v u W' (by have := jsz_item hx; omega) (hf4 _ hx) (he4 _ hy) hv' hu')
    have hcN := fun W (hW : Below w.heap.size w W) => eqFuncM11_any n.mems m.mems K1 K2 k1 k2 W (hK1.keep memE_ok (fun k hk => hW.block k hk) (fun k hk => Nat.lt_of_lt_of_le hk hW.size)) (hK2.keep memE_ok (fun k hk => hW.block k hk) (fun k hk => Nat.lt_of_lt_of_le hk hW.size)) hf2 he2 (fun x hx y hy vc uc W' hv' hu' => equalM11_any x y vc uc W' hv' hu' (fun v u W2 hv2 hu2 => ih x.val y.val v u W2 (by have := jsz_mem hx; omega) (hf5 _ hx) (he5 _ hy) hv2 hu2))
    have HB1 := Lib.hid hb1
    have HC2 := Lib.hid (fun W (hW : Below W1.heap.size W1 W) => (show W.cell? ⟨w.heap.size, 5, none⟩ = some (.slice K1 n.mems.length k1) ∧ W.cell? ⟨w.heap.size + 1, 5, none⟩ = some (.slice K2 m.mems.length k2) from
      ⟨(jbox_cells ((hW.block _ (heap_lt hga)).trans hga)).2.2.2.2.2.1, (jbox_cells ((hW.block _ (heap_lt hgb)).trans hgb)).2.2.2.2.2.1⟩))
    rw [jeqF_form]
    generalize vFEq n.items m.items = q5 at *
    generalize mFEq n.mems m.mems = q6 at *
    have HCA := Lib.hid hcA
    have HCN := Lib.hid hcN
    clear hcA hcN ih hA1 hK1 hA2 hK2 hv hu hga hgb hb1 hf4 hf5 he4 he5 hfn hfm
    cases h1 : (n.kind == m.kind) with
    | false =>
      have u1 : (n.kind != m.kind) = true := by rw [bne, h1]; rfl
      rw [Bool.false_and]
      go_enter Tryd.func14, Tryd.ntmps14
      go_wp2_with fail
      go_ret
      exact ⟨rfl, HB1.out⟩
    | true =>
      have u1 : (n.kind != m.kind) = false := by rw [bne, h1]; rfl
      rw [Bool.true_and]
      cases h2 : (n.b == m.b) with
      | false =>
        have u2 : (n.b != m.b) = true := by rw [bne, h2]; rfl
        rw [Bool.false_and]
        go_enter Tryd.func14, Tryd.ntmps14
        go_wp2_with fail
        go_ret
        exact ⟨rfl, HB1.out⟩
      | true =>
        have u2 : (n.b != m.b) = false := by rw [bne, h2]; rfl
        rw [Bool.true_and]
        cases h3 : (n.n == m.n) with
        | false =>
          have u3 : (n.n != m.n) = true := by rw [bne, h3]; rfl
          rw [Bool.false_and]
          go_enter Tryd.func14, Tryd.ntmps14
          go_wp2_with fail
          go_ret
          exact ⟨rfl, HB1.out⟩
        | true =>
          have u3 : (n.n != m.n) = false := by rw [bne, h3]; rfl
          rw [Bool.true_and]
          cases h4 : (n.s == m.s) with
          | false =>
            have u4 : (n.s != m.s) = true := by rw [bne, h4]; rfl
            rw [Bool.false_and]
            go_enter Tryd.func14, Tryd.ntmps14
            go_wp2_with fail
            go_ret
            exact ⟨rfl, HB1.out⟩
          | true =>
            have u4 : (n.s != m.s) = false := by rw [bne, h4]; rfl
            rw [Bool.true_and]
            cases q5 with
            | false =>
              rw [Bool.false_and]
              go_enter Tryd.func14, Tryd.ntmps14
              go_wp2_with (go_at_call 20; refine (HCA.out _ HB1.out).mono ?_; rintro e w2 ⟨rfl, hb2⟩)
              go_ret
              exact ⟨rfl, HB1.out.trans (hb2.mono hz1)⟩
            | true =>
              rw [Bool.true_and]
              go_enter Tryd.func14, Tryd.ntmps14
              go_wp2_with (first
                | (go_at_call 20; refine (HCA.out _ HB1.out).mono ?_; rintro e w2 ⟨rfl, hb2⟩; have hb2' := HB1.out.trans (hb2.mono hz1); obtain ⟨z1, z2⟩ := HC2.out w2 hb2)
                | (go_at_call 21; refine (HCN.out _ hb2').mono ?_; rintro e w3 ⟨rfl, hb3⟩))
              go_ret
              exact ⟨rfl, hb2'.trans (hb3.mono hb2'.size)⟩
end Go.Proofs.YthlppbpccldikaaDoor
