/-
  Walks of chapter 12, the reference: text, Write.
-/
import Derived.Test.YtadkgjbidhfefaaDoorRefJC
import Derived.Test.YtadkgjbidhfefaaDoorRefQ10
import Derived.Test.YtadkgjbidhfefaaDoorDecim
import Derived.Test.YtadkgjbidhfefaaDoorJwr3
set_option linter.unusedVariables false
namespace Go.Proofs.YtadkgjbidhfefaaDoor
open Go.RowKit

theorem jtxL_drop {l : List JV} {i : Nat} (f : Bool) (h : i < l.length) : jtxL f (l.drop i) = (if f = true then [] else [44]) ++ (jtx l[i] ++ jtxL false (l.drop (i + 1))) := by
  rw [List.drop_eq_getElem_cons h, jtxL_cons]
theorem jtxM_drop {l : List JM} {i : Nat} (f : Bool) (h : i < l.length) : jtxM f (l.drop i) = (if f = true then [] else [44]) ++ (jtm l[i] ++ jtxM false (l.drop (i + 1))) := by
  rw [List.drop_eq_getElem_cons h, jtxM_cons]

/-- What is told of a value whose text is written. -/
def TR (v : JV) : Prop := ∀ (u : Value) (w : World), jful v ≤ 1000000 → JFit v → jrv v = true → ValV w (· < w.heap.size) v u →
  Calls Tryd.prog 53 #[u] w fun e w' => e = .returned (.string (S (jtx v))) ∧ Below w.heap.size w w'

set_option maxHeartbeats 4000000 in
set_option maxRecDepth 100000 in
theorem refText12_any (s : Nat) : ∀ v : JV, jsz v ≤ s → TR v := by
  induction s with
  | zero => intro v h; have := jsz_pos v; omega
  | succ s ih =>
    intro v hs u w hf hfit hv hva
    have hfm := jful_form v
    have hff := hfit.form
    have hok := jrv_ok hv
    have hjo := jhOk_form hok.1
    have hi1 : ∀ x ∈ v.items, TR x := fun x hx => ih x (by have := jsz_item hx; omega)
    have hm1 : ∀ x ∈ v.mems, TR x.val := fun x hx => ih x.val (by have := jsz_mem hx; omega)
    have hlen := jtx_len v hfit
    obtain ⟨IA, ic, MA, mc, rfl, hi, hm, hic, hmc⟩ := hva.open_
    have hX0 := heap_alloc_new w (valBox v IA ic MA mc)
    have F1 := Lib.hid ((Below.refl w.heap.size w).alloc (Nat.le_refl _) (valBox v IA ic MA mc))
    obtain ⟨E, hE⟩ : ∃ E, jtx v = E := ⟨_, rfl⟩
    rw [hE] at hlen ⊢
    rw [jtx_form] at hE
    have hkk : v.kind = 0 ∨ v.kind = 1 ∨ v.kind = 2 ∨ v.kind = 3 ∨ v.kind = 4 ∨ v.kind = 5 := by omega
    rcases hkk with h | h | h | h | h | h
    · -- null
      have t0 : (v.kind == 0) = true := by rw [h]; rfl
      rw [h] at hE
      simp at hE
      subst hE
      clear hi1 hm1 hi hm hva hfit hff hok hjo hv ih h
      go_enter Tryd.func53, Tryd.ntmps53
      go_wp2_with fail
      go_ret
      exact ⟨rfl, F1.out⟩
    · -- Boolean
      have t0 : (v.kind == 0) = false := by rw [h]; rfl
      have t1 : (v.kind == 1) = true := by rw [h]; rfl
      rw [h] at hE
      simp only [if_true] at hE
      obtain ⟨k0, k1, k2, k3, k4, k5, k6⟩ := jbox_cells hX0
      clear hi1 hm1 hi hm hva hfit hff hok hjo hv ih h
      rcases hb : v.b with _ | _
      all_goals
        rw [hb] at hE
        simp at hE
        subst hE
        go_enter Tryd.func53, Tryd.ntmps53
        go_wp2_with fail
        go_ret
        exact ⟨rfl, (Below.refl _ _).alloc (Nat.le_refl _) _⟩
    · -- number
      have t0 : (v.kind == 0) = false := by rw [h]; rfl
      have t1 : (v.kind == 1) = false := by rw [h]; rfl
      have t2 : (v.kind == 2) = true := by rw [h]; rfl
      rw [h] at hE
      simp at hE
      have hfi := fun (W : World) => decimal_any v.n hff.1.2.2.1 hff.1.2.2.2 W
      rw [hE] at hfi
      have HFI := Lib.hid hfi
      obtain ⟨k0, k1, k2, k3, k4, k5, k6⟩ := jbox_cells hX0
      clear hfi hi1 hm1 hi hm hva hfit hff hok hjo hv ih h hE
      go_enter Tryd.func53, Tryd.ntmps53
      go_wp2_with (go_at_call 78; refine (HFI.out _).mono ?_; rintro e w1 ⟨rfl, hb1⟩)
      go_ret
      exact ⟨rfl, F1.out.trans (hb1.mono (by simp))⟩
    · -- string
      have t0 : (v.kind == 0) = false := by rw [h]; rfl
      have t1 : (v.kind == 1) = false := by rw [h]; rfl
      have t2 : (v.kind == 2) = false := by rw [h]; rfl
      have t3 : (v.kind == 3) = true := by rw [h]; rfl
      rw [h] at hE
      simp at hE
      have hfi := fun (W : World) => refQuote_any v.s W (by omega)
      have hqb : quoteB v.s = E := by unfold quoteB; rw [if_pos hjo.2.2.2.2.2.2.2]; exact hE
      rw [hqb] at hfi
      have HFI := Lib.hid hfi
      obtain ⟨k0, k1, k2, k3, k4, k5, k6⟩ := jbox_cells hX0
      clear hfi hi1 hm1 hi hm hva hfit hff hok hjo hv ih h hE hqb
      go_enter Tryd.func53, Tryd.ntmps53
      go_wp2_with (go_at_call 89; refine (HFI.out _).mono ?_; rintro e w1 ⟨rfl, hb1⟩)
      go_ret
      exact ⟨rfl, F1.out.trans (hb1.mono (by simp))⟩
    · -- array
      have t0 : (v.kind == 0) = false := by rw [h]; rfl
      have t1 : (v.kind == 1) = false := by rw [h]; rfl
      have t2 : (v.kind == 2) = false := by rw [h]; rfl
      have t3 : (v.kind == 3) = false := by rw [h]; rfl
      have t4 : (v.kind == 4) = true := by rw [h]; rfl
      rw [h] at hE
      simp at hE
      obtain ⟨T, hT⟩ : ∃ T, jtxL true v.items = T := ⟨_, rfl⟩
      rw [hT] at hE
      subst hE
      have hTl : T.length ≤ 100000000 := by simp only [List.length_cons, List.length_append, List.length_nil] at hlen; omega
      have hil := jfulL_len v.items
      have hside : ∀ x ∈ v.items, jful x ≤ 1000000 ∧ JFit x ∧ jrv x = true := fun x hx => ⟨by have := jfulL_mem hx; omega, hff.2.1 x hx, jrvL_all hok.2.1 x hx⟩
      have hnl : v.items.length ≤ 1000000 := by omega
      have HS := Lib.hid hside
      have HI := Lib.hid hi
      have HA := Lib.hid hi1
      have HT := Lib.hid hT
      have HX0 := Lib.hid hX0
      clear hi1 hm1 hi hm hva hfit hff hok hjo hv ih h hT hX0 hside hil hfm hf hlen hs
      go_enter Tryd.func53, Tryd.ntmps53
      go_wp2_with fail
      obtain ⟨k0, k1, k2, k3, k4, k5, k6⟩ := jbox_cells HX0.out
      go_wp2_with fail
      clear k0 k1 k2 k3 k4 k5 k6
      go_loopw [5, 6] (fun s5 i6 wr => ∃ (i : Nat) (Y : Bytes), i ≤ v.items.length ∧ i6 = .int .i64 i ∧ s5 = .string (S Y) ∧ Y ++ jtxL (decide (i = 0)) (v.items.drop i) = T ∧ Below w.heap.size w wr ∧ wr.heap[w.heap.size]? = some (valBox v IA ic MA mc)) (fun _ i6 _ => v.items.length - (intOf i6).toNat)
      case atStart => exact ⟨0, [], Nat.zero_le _, rfl, rfl, HT.out, F1.out, HX0.out⟩
      case round =>
        obtain ⟨i, Y, hi, rfl, rfl, hres, hb, hX⟩ := hrel
        have HB := Lib.hid hb
        have HX := Lib.hid hX
        have hsz := heap_lt hX
        obtain ⟨k0, k1, k2, k3, k4, k5, k6⟩ := jbox_cells hX
        clear hb hX
        by_cases hlt : i < v.items.length
        · have hlt' : (i : Int) < v.items.length := by omega
          rw [jtxL_drop _ hlt] at hres
          have hxm := List.getElem_mem hlt
          obtain ⟨b, off, cs, rfl, hbl, hr, hcs⟩ := HI.out.at_ hlt
          have hr1 := rangeAt_keep hr (HB.out.block b hbl)
          have hax := HA.out _ hxm
          have hsx := HS.out _ hxm
          clear hxm
          generalize v.items[i] = x at *
          have hcs1 := ValP.keep (fun k hk => HB.out.block k hk) (fun k hk => Nat.lt_of_lt_of_le hk HB.out.size) _ _ hcs
          obtain ⟨NA, nc, NM, nd, rfl, _, _, _, _⟩ := hcs.open_
          have hcall := hax _ wr hsx.1 hsx.2.1 hsx.2.2 ⟨_, rfl, hcs1⟩
          have HR1 := Lib.hid hr1
          clear hr hr1 hcs hcs1 hax hsx
          obtain ⟨X, hXX⟩ : ∃ X, jtx x = X := ⟨_, rfl⟩
          rw [hXX] at hcall hres
          have HC := Lib.hid hcall
          clear hcall hXX
          have hYl : Y.length + X.length + 1 ≤ 100000001 := by
            have := congrArg List.length hres
            simp only [List.length_append] at this
            omega
          by_cases hi0 : i = 0
          · have q0 : ¬ ((0 : Int) < i) := by omega
            rw [decide_eq_true hi0] at hres
            simp only [if_true, List.nil_append] at hres
            have hnx : (Y ++ X) ++ jtxL (decide (i + 1 = 0)) (v.items.drop (i + 1)) = T := by rw [decide_eq_false (by omega : ¬ i + 1 = 0), ← hres]; simp
            have g1 : ∀ W : World, (Op.stringOp .add (S Y) (S X)).run Tryd.prog W = .ok (.string (S (Y ++ X))) W := run_catJ Y X _ rfl (by omega)
            have HNX := Lib.hid hnx
            clear hres hnx hi0
            go_wp2_with (first
              | (with_reducible refine gate ?_; refine wp_load_val rfl _ rfl b (off + i * 7) rfl _ rfl HR1.out ?_)
              | (go_at_call 53; refine HC.out.mono ?_; rintro e w3 ⟨rfl, hb3⟩))
            go_roundw
            case rel => exact ⟨i + 1, Y ++ X, by omega, by go_num, rfl, HNX.out, HB.out.trans (hb3.mono HB.out.size), (hb3.block _ hsz).trans HX.out⟩
            case measure => simp [intOf]; omega
          · have q0 : (0 : Int) < i := by omega
            rw [decide_eq_false hi0] at hres
            simp only [Bool.false_eq_true, if_false] at hres
            obtain ⟨Z, hZ⟩ : ∃ Z, Y ++ [44] = Z := ⟨_, rfl⟩
            have hnx : (Z ++ X) ++ jtxL (decide (i + 1 = 0)) (v.items.drop (i + 1)) = T := by rw [decide_eq_false (by omega : ¬ i + 1 = 0), ← hres, ← hZ]; simp
            have hZl : Z.length = Y.length + 1 := by rw [← hZ]; simp
            have g0 : ∀ W : World, (Op.stringOp .add (S Y) ⟨#[44]⟩).run Tryd.prog W = .ok (.string (S Z)) W := run_catJ Y [44] _ hZ.symm (by simp only [List.length_cons, List.length_nil]; omega)
            have g1 : ∀ W : World, (Op.stringOp .add (S Z) (S X)).run Tryd.prog W = .ok (.string (S (Z ++ X))) W := run_catJ Z X _ rfl (by omega)
            have HNX := Lib.hid hnx
            clear hres hnx hi0 hZ hZl
            go_wp2_with (first
              | (with_reducible refine gate ?_; refine wp_load_val rfl _ rfl b (off + i * 7) rfl _ rfl HR1.out ?_)
              | (go_at_call 53; refine HC.out.mono ?_; rintro e w3 ⟨rfl, hb3⟩))
            go_roundw
            case rel => exact ⟨i + 1, Z ++ X, by omega, by go_num, rfl, HNX.out, HB.out.trans (hb3.mono HB.out.size), (hb3.block _ hsz).trans HX.out⟩
            case measure => simp [intOf]; omega
        · have hil : i = v.items.length := by omega
          subst hil
          have hlt' : ¬ ((v.items.length : Int) < v.items.length) := by omega
          rw [List.drop_length, jtxL_nil, List.append_nil] at hres
          subst hres
          obtain ⟨L1, e1⟩ : ∃ L1 : Bytes, L1 = [91] ++ Y := ⟨_, rfl⟩
          have g1 : ∀ W : World, (Op.stringOp .add ⟨#[91]⟩ (S Y)).run Tryd.prog W = .ok (.string (S L1)) W := run_catJ [91] Y L1 e1 (by simp only [List.length_cons, List.length_nil]; omega)
          have g2 : ∀ W : World, (Op.stringOp .add (S L1) ⟨#[93]⟩).run Tryd.prog W = .ok (.string (S (91 :: (Y ++ [93])))) W := run_catJ L1 [93] _ (by rw [e1]; simp) (by rw [e1]; simp only [List.length_cons, List.length_nil, List.length_append]; omega)
          clear hlt e1
          go_wp2_with fail
          go_ret
          exact ⟨rfl, HB.out⟩
    · -- object
      have t0 : (v.kind == 0) = false := by rw [h]; rfl
      have t1 : (v.kind == 1) = false := by rw [h]; rfl
      have t2 : (v.kind == 2) = false := by rw [h]; rfl
      have t3 : (v.kind == 3) = false := by rw [h]; rfl
      have t4 : (v.kind == 4) = false := by rw [h]; rfl
      have hnil : v.items = [] := hjo.2.2.2.2.2.1.resolve_left (by omega)
      rw [h] at hE
      simp at hE
      obtain ⟨T, hT⟩ : ∃ T, jtxM true v.mems = T := ⟨_, rfl⟩
      rw [hT] at hE
      subst hE
      have hTl : T.length ≤ 100000000 := by simp only [List.length_cons, List.length_append, List.length_nil] at hlen; omega
      have hil := jfulM_len v.mems
      have hside : ∀ x ∈ v.mems, (x.key.length + jful x.val ≤ 1000000 ∧ JFit x.val) ∧ jrv x.val = true ∧ utf8J x.key = true := fun x hx => ⟨⟨by have := jfulM_mem hx; omega, hff.2.2 x hx⟩, (jrvM_all hok.2.2 x hx).1, (jrvM_all hok.2.2 x hx).2⟩
      have hnl : v.mems.length ≤ 1000000 := by omega
      have hz0 : ¬ ((0 : Int) < v.items.length) := by rw [hnil]; simp
      have HZ := Lib.hid (show decide (0 < v.items.length) = false by rw [hnil]; rfl)
      have HS := Lib.hid hside
      have HI := Lib.hid hm
      have HA := Lib.hid hm1
      have HT := Lib.hid hT
      have HX0 := Lib.hid hX0
      clear hi1 hm1 hi hm hva hfit hff hok hjo hv ih h hT hX0 hside hil hfm hf hlen hs hnil
      go_enter Tryd.func53, Tryd.ntmps53
      go_wp2_with fail
      obtain ⟨k0, k1, k2, k3, k4, k5, k6⟩ := jbox_cells HX0.out
      go_wp2_with fail
      clear k0 k1 k2 k3 k4 k5 k6
      go_loopw [5, 6] (fun s5 i6 wr => i6 = .int .i64 0 ∧ s5 = .string (S []) ∧ wr = w.alloc (valBox v IA ic MA mc)) (fun _ _ _ => 0)
      case atStart => exact ⟨rfl, rfl, rfl⟩
      case round =>
        obtain ⟨rfl, rfl, rfl⟩ := hrel
        obtain ⟨k0, k1, k2, k3, k4, k5, k6⟩ := jbox_cells HX0.out
        go_wp2_with fail
        clear k0 k1 k2 k3 k4 k5 k6 hz0
        simp only [HZ.out]
        go_loopw [5, 7] (fun s5 i7 wr => ∃ (i : Nat) (Y : Bytes), i ≤ v.mems.length ∧ i7 = .int .i64 i ∧ s5 = .string (S Y) ∧ Y ++ jtxM (decide (i = 0)) (v.mems.drop i) = T ∧ Below w.heap.size w wr ∧ wr.heap[w.heap.size]? = some (valBox v IA ic MA mc)) (fun _ i7 _ => v.mems.length - (intOf i7).toNat)
        case atStart => exact ⟨0, [], Nat.zero_le _, rfl, rfl, HT.out, F1.out, HX0.out⟩
        case round =>
          obtain ⟨i, Y, hi, rfl, rfl, hres, hb, hX⟩ := hrel
          have HB := Lib.hid hb
          have HX := Lib.hid hX
          have hsz := heap_lt hX
          obtain ⟨k0, k1, k2, k3, k4, k5, k6⟩ := jbox_cells hX
          clear hb hX
          by_cases hlt : i < v.mems.length
          · have hlt' : (i : Int) < v.mems.length := by omega
            rw [jtxM_drop _ hlt] at hres
            have hxm := List.getElem_mem hlt
            obtain ⟨b, off, cs, rfl, hbl, hr, hcs⟩ := HI.out.at_ hlt
            have hr1 := rangeAt_keep hr (HB.out.block b hbl)
            have hax := HA.out _ hxm
            have hsx := HS.out _ hxm
            clear hxm
            generalize v.mems[i] = x at *
            have hcs1 := MemP.keep (fun k hk => HB.out.block k hk) (fun k hk => Nat.lt_of_lt_of_le hk HB.out.size) hcs
            obtain ⟨vs, hvs, hcse⟩ := hcs1
            obtain ⟨NA, nc, NM, nd, hvse, _, _, _, _⟩ := hvs.open_
            subst hvse
            simp only [List.cons_append, List.nil_append] at hcse
            subst hcse
            have d0 : wr.cell? ⟨b, off + i * 9, none⟩ = some (.string (S x.key)) := hr1 0 _ rfl
            have hbw : b < wr.heap.size := Nat.lt_of_lt_of_le hbl HB.out.size
            have hr2 := mem_cells_val hr1
            have hcall := fun W => fun (hW : Below wr.heap.size wr W) => hax _ W (by omega) hsx.1.2 hsx.2.1 ⟨_, rfl, ValP.keep (fun k hk => hW.block k hk) (fun k hk => Nat.lt_of_lt_of_le hk hW.size) _ _ hvs⟩
            have hq := fun W => refQuote_any x.key W (by omega)
            have hqb : quoteB x.key = jq x.key := by unfold quoteB; rw [if_pos hsx.2.2]
            rw [hqb] at hq
            obtain ⟨J, hJ⟩ : ∃ J, jtm x = J := ⟨_, rfl⟩
            rw [hJ] at hres
            unfold jtm at hJ
            obtain ⟨X, hXX⟩ : ∃ X, jtx x.val = X := ⟨_, rfl⟩
            obtain ⟨K, hKK⟩ : ∃ K, jq x.key = K := ⟨_, rfl⟩
            rw [hXX] at hcall hJ
            rw [hKK] at hq hJ
            have HR1 := Lib.hid hr2
            have HC := Lib.hid hcall
            have HQ := Lib.hid hq
            have HX3 : Hid (∀ W, Below wr.heap.size wr W → W.heap[w.heap.size]? = some (valBox v IA ic (some ⟨b, off, none⟩) mc) ∧ W.rangeAt b (off + i * 9 + 1) [.int .i64 x.val.kind, .bool x.val.b, .int .i64 x.val.n, .string (S x.val.s), .slice NA x.val.items.length nc, .slice NM x.val.mems.length nd, .int .i64 x.val.pos]) := fun W hW => ⟨(hW.block _ hsz).trans HX.out, rangeAt_keep HR1.out (hW.block b hbw)⟩
            have hKl : X.length + K.length + 1 = J.length := by rw [← hJ]; simp only [List.length_append, List.length_cons]; omega
            have hYl : Y.length + J.length + 1 ≤ 100000001 := by
              have := congrArg List.length hres
              simp only [List.length_append] at this
              omega
            obtain ⟨M, hM⟩ : ∃ M, K ++ [58] = M := ⟨_, rfl⟩
            have hJ2 : M ++ X = J := by rw [← hJ, ← hM]; simp
            have hMl : M.length = K.length + 1 := by rw [← hM]; simp
            have g2 : ∀ W : World, (Op.stringOp .add (S K) ⟨#[58]⟩).run Tryd.prog W = .ok (.string (S M)) W := run_catJ K [58] _ hM.symm (by simp only [List.length_cons, List.length_nil]; omega)
            have g3 : ∀ W : World, (Op.stringOp .add (S M) (S X)).run Tryd.prog W = .ok (.string (S J)) W := run_catJ M X _ hJ2.symm (by omega)
            clear hr hr1 hr2 hcs hvs hcall hax hsx hq hqb hXX hKK hJ hM hJ2
            by_cases hi0 : i = 0
            · have q0 : ¬ ((0 : Int) < i) := by omega
              rw [decide_eq_true hi0] at hres
              simp only [if_true, List.nil_append] at hres
              have hnx : (Y ++ J) ++ jtxM (decide (i + 1 = 0)) (v.mems.drop (i + 1)) = T := by rw [decide_eq_false (by omega : ¬ i + 1 = 0), ← hres]; simp
              have g1 : ∀ W : World, (Op.stringOp .add (S Y) (S J)).run Tryd.prog W = .ok (.string (S (Y ++ J))) W := run_catJ Y J _ rfl (by omega)
              have HNX := Lib.hid hnx
              clear hres hnx hi0 hKl hMl
              go_wp2_with (first
                | (go_at_call 89; refine (HQ.out _).mono ?_; rintro e w2 ⟨rfl, hb2⟩; have hX2 := HX3.out _ hb2; clear k0 k1 k2 k3 k4 k5 k6; obtain ⟨k0, k1, k2, k3, k4, k5, k6⟩ := jbox_cells hX2.1; have HR2 := Lib.hid hX2.2; clear hX2)
                | (with_reducible refine gate ?_; refine wp_load_val rfl _ rfl b (off + i * 9 + 1) rfl _ rfl HR2.out ?_)
                | (go_at_call 53; refine (HC.out _ hb2).mono ?_; rintro e w3 ⟨rfl, hb3⟩))
              have hb3' := hb2.trans (hb3.mono hb2.size)
              go_roundw
              case rel => exact ⟨i + 1, Y ++ J, by omega, by go_num, rfl, HNX.out, HB.out.trans (hb3'.mono HB.out.size), (hb3'.block _ hsz).trans HX.out⟩
              case measure => simp [intOf]; omega
            · have q0 : (0 : Int) < i := by omega
              rw [decide_eq_false hi0] at hres
              simp only [Bool.false_eq_true, if_false] at hres
              obtain ⟨Z, hZ⟩ : ∃ Z, Y ++ [44] = Z := ⟨_, rfl⟩
              have hnx : (Z ++ J) ++ jtxM (decide (i + 1 = 0)) (v.mems.drop (i + 1)) = T := by rw [decide_eq_false (by omega : ¬ i + 1 = 0), ← hres, ← hZ]; simp
              have hZl : Z.length = Y.length + 1 := by rw [← hZ]; simp
              have g0 : ∀ W : World, (Op.stringOp .add (S Y) ⟨#[44]⟩).run Tryd.prog W = .ok (.string (S Z)) W := run_catJ Y [44] _ hZ.symm (by simp only [List.length_cons, List.length_nil]; omega)
              have g1 : ∀ W : World, (Op.stringOp .add (S Z) (S J)).run Tryd.prog W = .ok (.string (S (Z ++ J))) W := run_catJ Z J _ rfl (by omega)
              have HNX := Lib.hid hnx
              clear hres hnx hi0 hZ hZl hKl hMl
              go_wp2_with (first
                | (go_at_call 89; refine (HQ.out _).mono ?_; rintro e w2 ⟨rfl, hb2⟩; have hX2 := HX3.out _ hb2; clear k0 k1 k2 k3 k4 k5 k6; obtain ⟨k0, k1, k2, k3, k4, k5, k6⟩ := jbox_cells hX2.1; have HR2 := Lib.hid hX2.2; clear hX2)
                | (with_reducible refine gate ?_; refine wp_load_val rfl _ rfl b (off + i * 9 + 1) rfl _ rfl HR2.out ?_)
                | (go_at_call 53; refine (HC.out _ hb2).mono ?_; rintro e w3 ⟨rfl, hb3⟩))
              have hb3' := hb2.trans (hb3.mono hb2.size)
              go_roundw
              case rel => exact ⟨i + 1, Z ++ J, by omega, by go_num, rfl, HNX.out, HB.out.trans (hb3'.mono HB.out.size), (hb3'.block _ hsz).trans HX.out⟩
              case measure => simp [intOf]; omega
          · have hil : i = v.mems.length := by omega
            subst hil
            have hlt' : ¬ ((v.mems.length : Int) < v.mems.length) := by omega
            rw [List.drop_length, jtxM_nil, List.append_nil] at hres
            subst hres
            obtain ⟨L1, e1⟩ : ∃ L1 : Bytes, L1 = [123] ++ Y := ⟨_, rfl⟩
            have g1 : ∀ W : World, (Op.stringOp .add ⟨#[123]⟩ (S Y)).run Tryd.prog W = .ok (.string (S L1)) W := run_catJ [123] Y L1 e1 (by simp only [List.length_cons, List.length_nil]; omega)
            have g2 : ∀ W : World, (Op.stringOp .add (S L1) ⟨#[125]⟩).run Tryd.prog W = .ok (.string (S (123 :: (Y ++ [125])))) W := run_catJ L1 [125] _ (by rw [e1]; simp) (by rw [e1]; simp only [List.length_cons, List.length_nil, List.length_append]; omega)
            clear hlt e1
            go_wp2_with fail
            go_ret
            exact ⟨rfl, HB.out⟩

set_option maxHeartbeats 2000000 in
set_option maxRecDepth 100000 in
theorem refWrite12_any (v : JV) (u : Value) (w : World) (hf : jful v ≤ 1000000) (hfit : JFit v) (hT : TabJ w) (hv : ValV w (· < w.heap.size) v u) :
    Calls Tryd.prog 15 #[u] w fun e w' => e = .returned (.tuple #[.string (S (outJ v (jvd v 1))), .int .i64 (errJ (jvd v 1))]) ∧ Below w.heap.size w w' := by
  have hck := fun W => fun (hW : Below w.heap.size w W) => refCheck12_any v u W hf (hv.keep (fun k hk => hW.block k hk) (fun k hk => Nat.lt_of_lt_of_le hk hW.size)) (hT.next hW)
  have htx := fun (h : jrv v = true) W => fun (hW : Below w.heap.size w W) => refText12_any _ v (Nat.le_refl _) u W hf hfit h (hv.keep (fun k hk => hW.block k hk) (fun k hk => Nat.lt_of_lt_of_le hk hW.size))
  obtain ⟨IA, ic, MA, mc, rfl, hi, hm, hic, hmc⟩ := hv.open_
  have hX := Lib.hid (heap_alloc_new w (valBox v IA ic MA mc))
  have F1 : Hid (∀ o, Below w.heap.size w (w.alloc o)) := fun o => (Below.refl _ _).alloc (Nat.le_refl _) o
  cases hj : jvd v 1 with
  | false =>
    rw [hj] at hck
    have HC := Lib.hid hck
    clear hck htx hv hi hm hT hj
    go_enter Tryd.func15, Tryd.ntmps15
    go_wp2_with (go_at_call 25; refine (HC.out _ (F1.out _)).mono ?_; rintro e w1 ⟨rfl, hb1⟩)
    go_ret2
    exact ⟨rfl, (F1.out _).trans (hb1.mono (by simp))⟩
  | true =>
    rw [hj] at hck
    have hjr : jrv v = true := by rw [jvd_eq, Bool.and_eq_true] at hj; exact hj.1
    have htx1 := htx hjr
    have HC := Lib.hid hck
    have HX := Lib.hid htx1
    rw [show outJ v true = jtx v from rfl]
    generalize jtx v = T at *
    clear hck htx htx1 hv hi hm hT hj hjr
    go_enter Tryd.func15, Tryd.ntmps15
    go_wp2_with (first
      | (go_at_call 25; refine (HC.out _ (F1.out _)).mono ?_; rintro e w1 ⟨rfl, hb1⟩; have hbx := (hb1.block w.heap.size (by simp)).trans hX.out; obtain ⟨k0, k1, k2, k3, k4, k5, k6⟩ := jbox_cells hbx; have hb1' := (F1.out _).trans (hb1.mono (show w.heap.size ≤ (w.alloc _).heap.size by simp)))
      | (go_at_call 53; refine (HX.out _ hb1').mono ?_; rintro e w2 ⟨rfl, hb2⟩))
    go_ret2
    exact ⟨rfl, hb1'.trans (hb2.mono hb1'.size)⟩
end Go.Proofs.YtadkgjbidhfefaaDoor
