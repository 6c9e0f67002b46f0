/-
  Several texts in one file, in build order:
  - Walks of chapter 11, the program: value.
  - Walks of chapter 11, the program: the deferred function of Parse. Made by gen_jp11n.py.
-/
import Derived.Test.YthlppbpccldikaaDoorH9
import Derived.Recover
set_option linter.unusedVariables false
set_option linter.unusedSimpArgs false
namespace Go.Proofs.YthlppbpccldikaaDoor
open Go.RowKit

abbrev zVC : Array Value := vC 0 none 0 0 none 0 0 0
abbrev vG (k : Int) (bb : Bool) (n : Int) (s : ByteArray) (IA : Option Addr) (i ic : Nat) (MA : Option Addr) (m mc : Nat) (a : Int) : Array Value := #[.int .i64 k, .bool bb, .int .i64 n, .string s, .slice IA i ic, .slice MA m mc, .int .i64 a]
theorem memJ_ok {l : Bytes} {d n : Nat} {ms : List JM} {m : JM} {e : Nat} (hn : n ≤ l.length) (h : memJ l (pvF l d) n ms = .ok (m, e)) : n < e ∧ e ≤ l.length := by
  unfold memJ at h
  have h1 := spEnd_ge l n
  cases hk : keyAt l (spEnd l n) ms with
  | error q => rw [hk] at h; cases h
  | ok p =>
    obtain ⟨k, a⟩ := p
    rw [hk] at h
    have h0 := keyAt_ok hk
    simp only at h
    cases hv : pvF l d a with
    | error q => rw [hv] at h; cases h
    | ok p =>
      obtain ⟨v, e'⟩ := p
      rw [hv] at h
      cases h
      have := pvV_ok h0.2.1 hv
      omega
set_option maxHeartbeats 8000000 in
set_option maxRecDepth 100000 in
theorem value11_any (l : Bytes) (hl : l.length ≤ 1000000) (b : Nat) : ∀ (f d0 n : Nat) (w : World), l.length - n ≤ f → n ≤ l.length → d0 ≤ 100 → Psr w b l n d0 → TabB b w →
    Calls Tryd.prog 25 #[.pointer (some ⟨b, 0, none⟩)] w fun e w' => ValR b l d0 w w' (pvF l (d0 + 1) n) e := by
  intro f
  induction f using Nat.strongRecOn with
  | _ f ih =>
    intro d0 n w hf hn hd hP hT
    have hzn := spEnd_le (l := l) (n := n) hn
    have hzg := spEnd_ge l n
    have hbw := hP.lt
    obtain ⟨W0, hW0⟩ : ∃ W0, (w.alloc (.cells #[.pointer (some ⟨b, 0, none⟩)] 52)).alloc (.cells zVC 25) = W0 := ⟨_, rfl⟩
    have hb0 : Below w.heap.size w W0 := by rw [← hW0]; exact ((Below.refl _ _).alloc (Nat.le_refl _) _).alloc (by simp) _
    have hz0 : W0.heap.size = w.heap.size + 2 := by rw [← hW0]; simp
    have hpc0 : W0.heap[w.heap.size]? = some (.cells #[.pointer (some ⟨b, 0, none⟩)] 52 (0, 0)) := by rw [← hW0]; exact alloc_old (heap_alloc_new _ _)
    have hr0 : W0.heap[w.heap.size + 1]? = some (.cells zVC 25 (0, 0)) := by rw [← hW0]; exact alloc_at (by simp)
    have hpk := peek_any b l n d0 W0 (hP.below hb0) hn (by omega)
    have hq := fun z (e : spEnd l n = z) (h : z ≤ l.length) => @pvF_eq l (d0 + 1) n z e h
    have hpb : peekB l n = (l.getD (spEnd l n) 0).toNat := rfl
    obtain ⟨R, hR⟩ : ∃ R, pvF l (d0 + 1) n = R := ⟨_, rfl⟩
    rw [hR] at hq ⊢
    obtain ⟨z, hz⟩ : ∃ z, spEnd l n = z := ⟨_, rfl⟩
    have hq := hq z hz (by rw [← hz]; exact hzn)
    rw [hz] at hpk hzn hzg hpb
    obtain ⟨k, hk⟩ : ∃ k, peekB l n = k := ⟨_, rfl⟩
    rw [hk] at hpk hpb
    have HT0 := Lib.hid (hT.below hb0)
    have HU0 : Hid (Upd b w W0) := Upd.of_below hb0
    have hu01 : ∀ w1, Upd b ((w.alloc (.cells #[.pointer (some ⟨b, 0, none⟩)] 52)).alloc (.cells zVC 25)) w1 → Upd b W0 w1 := fun w1 h => by rw [← hW0]; exact h
    have HU01 := Lib.hid hu01
    rw [← hW0] at hpk
    have HPK := Lib.hid hpk
    have HW0 := Lib.hid hW0
    have HQ := Lib.hid hq
    have HIH := Lib.hid ih
    have HPC0 := Lib.hid hpc0
    have HR0 := Lib.hid hr0
    have HPB := Lib.hid hpb
    have hc0 : W0.cell? ⟨w.heap.size, 0, none⟩ = some (.pointer (some ⟨b, 0, none⟩)) := by rw [Lib.cell_of_heap hpc0]; rfl
    clear hpk hW0 hu01 hq ih hpc0 hr0 hpb hz hk hR hP hT hb0
    go_enter Tryd.func25, Tryd.ntmps25
    go_upto_region 4 with (first
      | (go_at_call 33; refine HPK.out.mono ?_; rintro e w1 ⟨rfl, hp1, hu1'⟩; have hu1 := HU01.out _ hu1'; have q1 := hp1.c1; have hpc1 := (hu1.block w.heap.size (by omega) (by omega)).trans HPC0.out; have hc1 : w1.cell? ⟨w.heap.size, 0, none⟩ = some (.pointer (some ⟨b, 0, none⟩)) := (by rw [Lib.cell_of_heap hpc1]; rfl)))
    obtain ⟨W2, hW2⟩ : ∃ W2, w1.alloc (.cells (vC 0 none 0 0 none 0 0 z) 25) = W2 := ⟨_, rfl⟩
    change Code.wp _ _ _ _ (w1.alloc (.cells (vC 0 none 0 0 none 0 0 z) 25))
    rw [hW2]
    have hb2 : Below w1.heap.size w1 W2 := by rw [← hW2]; exact (Below.refl _ _).alloc (Nat.le_refl _) _
    have hg2 : W2.heap[w1.heap.size]? = some (.cells (vC 0 none 0 0 none 0 0 z) 25 (0, 0)) := by rw [← hW2]; exact heap_alloc_new _ _
    have hz2 : W2.heap.size = w1.heap.size + 1 := by rw [← hW2]; simp
    have hpc2 := (hb2.block _ (heap_lt hpc1)).trans hpc1
    have hr1 := (hu1.block (w.heap.size + 1) (by omega) (by omega)).trans HR0.out
    have hr2 := (hb2.block _ (heap_lt hr1)).trans hr1
    have hp2 := hp1.below hb2
    have hu2 : Upd b w W2 := (HU0.out.trans hu1).next hb2
    have ht2 := (HT0.out.upd hu1).below hb2
    have hzG : w.heap.size + 2 ≤ w1.heap.size := by have := hu1.size; omega
    generalize w1.heap.size = G at *
    have pcc : W2.cell? ⟨w.heap.size, 0, none⟩ = some (.pointer (some ⟨b, 0, none⟩)) := by rw [Lib.cell_of_heap hpc2]; rfl
    have gc0 : W2.cell? ⟨G, 0, none⟩ = some (.int .i64 0) := by rw [Lib.cell_of_heap hg2]; rfl
    have gc1 : W2.cell? ⟨G, 1, none⟩ = some (.bool false) := by rw [Lib.cell_of_heap hg2]; rfl
    have gfr : ∀ i, W2.frozen? ⟨G, i, none⟩ = false := Lib.frozen_of_heap hg2
    have HG2 := Lib.hid hg2
    have HPC2 := Lib.hid hpc2
    have HR2 := Lib.hid hr2
    have HP2 := Lib.hid hp2
    have HU2 := Lib.hid hu2
    have HT2 := Lib.hid ht2
    clear hW2 hb2 hg2 hpc2 hr1 hr2 hp2 hu2 ht2 hpc1 hc1 q1 hp1 hu1 hu1' hc0 HPC0 HR0 HU01 HPK
    have hq := HQ.out
    clear HQ HW0 HU0 HT0 hz0 W0
    by_cases h0 : l.length ≤ z
    · rw [if_pos h0] at hq
      have HRR := Lib.hid hq
      have hk0 : k = 0 := by rw [HPB.out, List.getD_eq_getElem?_getD, List.getElem?_eq_none h0]; rfl
      have hw := wrong11_any b l z d0 W2 HP2.out hzn (by omega)
      have hwj : wrongJ l z = (l.length, 8) := by unfold wrongJ; rw [if_pos h0]
      rw [hwj] at hw
      have HW := Lib.hid hw
      clear hw hwj hq HPB
      subst hk0
      go_wp2_with (go_at_call 41; refine HW.out.mono ?_; rintro e w3 ⟨rfl, hp3, hu3⟩)
      simp only [bodyPost, true_and]
      rw [HRR.out]
      exact ⟨HU2.out.trans hu3, rfl⟩
    rw [if_neg h0] at hq
    obtain ⟨c, hc⟩ : ∃ c, l.getD z 0 = c := ⟨_, rfl⟩
    have hkc : k = c.toNat := by rw [HPB.out, hc]
    rw [hc] at hq
    have hcz : l[z]'(by omega) = c := by rw [← hc, List.getD_eq_getElem?_getD, List.getElem?_eq_getElem (by omega)]; rfl
    clear HPB
    by_cases h110 : c = 110
    · rw [if_pos h110] at hq
      have hk110 : k = 110 := by rw [hkc, h110]; rfl
      clear hkc hc hcz h110
      subst hk110
      have hg3 := HG2.out
      have hp3 := HP2.out
      have hr3 := HR2.out
      have hu3 := HU2.out
      obtain ⟨W3, hW3⟩ : ∃ W3, W2 = W3 := ⟨_, rfl⟩
      subst hW3
      have hwd : Calls Tryd.prog 34 #[.pointer (some ⟨b, 0, none⟩), .string ⟨#[110, 117, 108, 108]⟩, .agg (vG 0 false 0 ByteArray.empty none 0 0 none 0 0 z)] W2 fun e w' => WordR b l d0 (.agg (valCells 0 false z)) W2 w' (wordN l z sNull) e := word_any b l z d0 sNull 0 false z W2 hp3 hzn (by omega) (by decide)
      cases hwn : wordN l z sNull with
      | error q =>
        rw [hwn] at hwd hq
        have HRR : Hid (R = .error q) := hq
        have HWD := Lib.hid hwd
        have HG3 := Lib.hid hg3
        have HU3 := Lib.hid hu3
        clear hq hwd hwn hg3 hp3 hr3 hu3
        go_wp2_with (first
          | (go_at_call 34; refine HWD.out.mono ?_; rintro e w4 ⟨hu4, rfl⟩)
          | ((with_reducible refine gate ?_); refine wp_load_val rfl _ rfl G 0 rfl _ rfl (range_of_heap HG3.out) ?_))
        simp only [bodyPost, true_and]
        rw [HRR.out]
        exact ⟨HU3.out.trans hu4, rfl⟩
      | ok e0 =>
        rw [hwn] at hwd hq
        have HRR : Hid (R = .ok (.mk 0 false 0 [] [] [] z, e0)) := hq
        have HWD := Lib.hid hwd
        have HG3 := Lib.hid hg3
        have HU3 := Lib.hid hu3
        have HR3 := Lib.hid hr3
        clear hq hwd hwn hg3 hp3 hr3 hu3
        go_wp2_with (first
          | (go_at_call 34; refine HWD.out.mono ?_; rintro e w4 ⟨hu4, rfl, hp4⟩; have hr4 := (hu4.block (w.heap.size + 1) (heap_lt HR3.out) (by omega)).trans HR3.out)
          | ((with_reducible refine gate ?_); refine wp_load_val rfl _ rfl G 0 rfl _ rfl (range_of_heap HG3.out) ?_)
          | ((with_reducible refine gate ?_); refine wp_store_valQ rfl _ _ rfl (w.heap.size + 1) _ _ _ _ _ _ _ _ _ _ _ _ rfl rfl hr4 rfl ?_; intro w9 hx9 hu9))
        refine bodyPost_ret (v := .agg _) (res_whole Tryd.results25 _ _ (w.heap.size + 1) rfl 25 _ hx9 Tryd.underlying25 rfl valSize) rfl ?_
        rw [HRR.out]
        exact ⟨(HU3.out.trans hu4).nextC hu9 (by omega), ⟨_, rfl, _, rfl, ValP.of_open (n := .mk 0 false 0 [] [] [] z) (ElsP.nil _ _ _) (ElsP.nil _ _ _)⟩, hp4.beside hu9 (by omega)⟩
    rw [if_neg h110] at hq
    by_cases h116 : c = 116
    · rw [if_pos h116] at hq
      have hk116 : k = 116 := by rw [hkc, h116]; rfl
      clear hkc hc hcz h116
      subst hk116
      go_upto_region 8 with fail
      obtain ⟨hg3, hx3⟩ : ((W2.setCell ⟨G, 0, none⟩ (.int .i64 1)).setCell ⟨G, 1, none⟩ (.bool true)).heap[G]? = some (.cells (vG 1 true 0 ByteArray.empty none 0 0 none 0 0 z) 25 (0, 0)) ∧ Upd G W2 ((W2.setCell ⟨G, 0, none⟩ (.int .i64 1)).setCell ⟨G, 1, none⟩ (.bool true)) := ⟨heap_set (i := 1) (heap_set (i := 0) HG2.out (.int .i64 1)) (.bool true), ((Upd.set_ G 0 W2 _).trans (Upd.set_ G 1 _ _))⟩
      have hp3 := HP2.out.beside hx3 (by omega)
      have hr3 := (hx3.block (w.heap.size + 1) (heap_lt HR2.out) (by omega)).trans HR2.out
      have hu3 := HU2.out.nextC hx3 (by omega)
      have pc3 : ((W2.setCell ⟨G, 0, none⟩ (.int .i64 1)).setCell ⟨G, 1, none⟩ (.bool true)).cell? ⟨w.heap.size, 0, none⟩ = some (.pointer (some ⟨b, 0, none⟩)) := by rw [Lib.cell_of_heap ((hx3.block w.heap.size (heap_lt HPC2.out) (by omega)).trans HPC2.out)]; rfl
      clear pcc gc0 gc1 gfr hx3
      generalize (W2.setCell ⟨G, 0, none⟩ (.int .i64 1)).setCell ⟨G, 1, none⟩ (.bool true) = W3 at *
      have hwd : Calls Tryd.prog 34 #[.pointer (some ⟨b, 0, none⟩), .string ⟨#[116, 114, 117, 101]⟩, .agg (vG 1 true 0 ByteArray.empty none 0 0 none 0 0 z)] W3 fun e w' => WordR b l d0 (.agg (valCells 1 true z)) W3 w' (wordN l z sTrue) e := word_any b l z d0 sTrue 1 true z W3 hp3 hzn (by omega) (by decide)
      cases hwn : wordN l z sTrue with
      | error q =>
        rw [hwn] at hwd hq
        have HRR : Hid (R = .error q) := hq
        have HWD := Lib.hid hwd
        have HG3 := Lib.hid hg3
        have HU3 := Lib.hid hu3
        clear hq hwd hwn hg3 hp3 hr3 hu3
        go_wp2_with (first
          | (go_at_call 34; refine HWD.out.mono ?_; rintro e w4 ⟨hu4, rfl⟩)
          | ((with_reducible refine gate ?_); refine wp_load_val rfl _ rfl G 0 rfl _ rfl (range_of_heap HG3.out) ?_))
        simp only [bodyPost, true_and]
        rw [HRR.out]
        exact ⟨HU3.out.trans hu4, rfl⟩
      | ok e0 =>
        rw [hwn] at hwd hq
        have HRR : Hid (R = .ok (.mk 1 true 0 [] [] [] z, e0)) := hq
        have HWD := Lib.hid hwd
        have HG3 := Lib.hid hg3
        have HU3 := Lib.hid hu3
        have HR3 := Lib.hid hr3
        clear hq hwd hwn hg3 hp3 hr3 hu3
        go_wp2_with (first
          | (go_at_call 34; refine HWD.out.mono ?_; rintro e w4 ⟨hu4, rfl, hp4⟩; have hr4 := (hu4.block (w.heap.size + 1) (heap_lt HR3.out) (by omega)).trans HR3.out)
          | ((with_reducible refine gate ?_); refine wp_load_val rfl _ rfl G 0 rfl _ rfl (range_of_heap HG3.out) ?_)
          | ((with_reducible refine gate ?_); refine wp_store_valQ rfl _ _ rfl (w.heap.size + 1) _ _ _ _ _ _ _ _ _ _ _ _ rfl rfl hr4 rfl ?_; intro w9 hx9 hu9))
        refine bodyPost_ret (v := .agg _) (res_whole Tryd.results25 _ _ (w.heap.size + 1) rfl 25 _ hx9 Tryd.underlying25 rfl valSize) rfl ?_
        rw [HRR.out]
        exact ⟨(HU3.out.trans hu4).nextC hu9 (by omega), ⟨_, rfl, _, rfl, ValP.of_open (n := .mk 1 true 0 [] [] [] z) (ElsP.nil _ _ _) (ElsP.nil _ _ _)⟩, hp4.beside hu9 (by omega)⟩
    rw [if_neg h116] at hq
    by_cases h102 : c = 102
    · rw [if_pos h102] at hq
      have hk102 : k = 102 := by rw [hkc, h102]; rfl
      clear hkc hc hcz h102
      subst hk102
      go_upto_region 11 with fail
      obtain ⟨hg3, hx3⟩ : (W2.setCell ⟨G, 0, none⟩ (.int .i64 1)).heap[G]? = some (.cells (vG 1 false 0 ByteArray.empty none 0 0 none 0 0 z) 25 (0, 0)) ∧ Upd G W2 (W2.setCell ⟨G, 0, none⟩ (.int .i64 1)) := ⟨heap_set (i := 0) HG2.out (.int .i64 1), (Upd.set_ G 0 W2 _)⟩
      have hp3 := HP2.out.beside hx3 (by omega)
      have hr3 := (hx3.block (w.heap.size + 1) (heap_lt HR2.out) (by omega)).trans HR2.out
      have hu3 := HU2.out.nextC hx3 (by omega)
      have pc3 : (W2.setCell ⟨G, 0, none⟩ (.int .i64 1)).cell? ⟨w.heap.size, 0, none⟩ = some (.pointer (some ⟨b, 0, none⟩)) := by rw [Lib.cell_of_heap ((hx3.block w.heap.size (heap_lt HPC2.out) (by omega)).trans HPC2.out)]; rfl
      clear pcc gc0 gc1 gfr hx3
      generalize W2.setCell ⟨G, 0, none⟩ (.int .i64 1) = W3 at *
      have hwd : Calls Tryd.prog 34 #[.pointer (some ⟨b, 0, none⟩), .string ⟨#[102, 97, 108, 115, 101]⟩, .agg (vG 1 false 0 ByteArray.empty none 0 0 none 0 0 z)] W3 fun e w' => WordR b l d0 (.agg (valCells 1 false z)) W3 w' (wordN l z sFalse) e := word_any b l z d0 sFalse 1 false z W3 hp3 hzn (by omega) (by decide)
      cases hwn : wordN l z sFalse with
      | error q =>
        rw [hwn] at hwd hq
        have HRR : Hid (R = .error q) := hq
        have HWD := Lib.hid hwd
        have HG3 := Lib.hid hg3
        have HU3 := Lib.hid hu3
        clear hq hwd hwn hg3 hp3 hr3 hu3
        go_wp2_with (first
          | (go_at_call 34; refine HWD.out.mono ?_; rintro e w4 ⟨hu4, rfl⟩)
          | ((with_reducible refine gate ?_); refine wp_load_val rfl _ rfl G 0 rfl _ rfl (range_of_heap HG3.out) ?_))
        simp only [bodyPost, true_and]
        rw [HRR.out]
        exact ⟨HU3.out.trans hu4, rfl⟩
      | ok e0 =>
        rw [hwn] at hwd hq
        have HRR : Hid (R = .ok (.mk 1 false 0 [] [] [] z, e0)) := hq
        have HWD := Lib.hid hwd
        have HG3 := Lib.hid hg3
        have HU3 := Lib.hid hu3
        have HR3 := Lib.hid hr3
        clear hq hwd hwn hg3 hp3 hr3 hu3
        go_wp2_with (first
          | (go_at_call 34; refine HWD.out.mono ?_; rintro e w4 ⟨hu4, rfl, hp4⟩; have hr4 := (hu4.block (w.heap.size + 1) (heap_lt HR3.out) (by omega)).trans HR3.out)
          | ((with_reducible refine gate ?_); refine wp_load_val rfl _ rfl G 0 rfl _ rfl (range_of_heap HG3.out) ?_)
          | ((with_reducible refine gate ?_); refine wp_store_valQ rfl _ _ rfl (w.heap.size + 1) _ _ _ _ _ _ _ _ _ _ _ _ rfl rfl hr4 rfl ?_; intro w9 hx9 hu9))
        refine bodyPost_ret (v := .agg _) (res_whole Tryd.results25 _ _ (w.heap.size + 1) rfl 25 _ hx9 Tryd.underlying25 rfl valSize) rfl ?_
        rw [HRR.out]
        exact ⟨(HU3.out.trans hu4).nextC hu9 (by omega), ⟨_, rfl, _, rfl, ValP.of_open (n := .mk 1 false 0 [] [] [] z) (ElsP.nil _ _ _) (ElsP.nil _ _ _)⟩, hp4.beside hu9 (by omega)⟩
    rw [if_neg h102] at hq
    by_cases h34 : c = 34
    · rw [if_pos h34] at hq
      have hk34 : k = 34 := by rw [hkc, h34]; rfl
      clear hkc hc hcz h34
      subst hk34
      have hj := psrStr_any b l z d0 W2 HP2.out HT2.out.tabs hzn (by omega)
      cases hjs : jstrAt l z with
      | error q =>
        rw [hjs] at hj hq
        have HRR : Hid (R = .error q) := hq
        have HJ := Lib.hid hj
        clear hj hjs hq
        go_wp2_with (first
          | (go_at_call 35; refine HJ.out.mono ?_; rintro e w4 ⟨rfl, hu4⟩))
        simp only [bodyPost, true_and]
        rw [HRR.out]
        exact ⟨HU2.out.trans hu4, rfl⟩
      | ok ke =>
        obtain ⟨s1, e0⟩ := ke
        rw [hjs] at hj hq
        have HRR : Hid (R = .ok (.mk 3 false 0 s1 [] [] z, e0)) := hq
        have HJ := Lib.hid hj
        clear hj hjs hq
        go_wp2_with (first
          | (go_at_call 35; refine HJ.out.mono ?_; rintro e w4 ⟨⟨rfl, hp4⟩, hu4⟩; have hg4 := (hu4.block G (heap_lt HG2.out) (by omega)).trans HG2.out; have hr4 := (hu4.block (w.heap.size + 1) (heap_lt HR2.out) (by omega)).trans HR2.out; have g40 : w4.cell? ⟨G, 0, none⟩ = some (.int .i64 0) := (by rw [Lib.cell_of_heap hg4]; rfl); have g43 : w4.cell? ⟨G, 3, none⟩ = some (.string ByteArray.empty) := (by rw [Lib.cell_of_heap hg4]; rfl); have g4f : ∀ i, w4.frozen? ⟨G, i, none⟩ = false := Lib.frozen_of_heap hg4; have hg5 : ((w4.setCell ⟨G, 0, none⟩ (.int .i64 3)).setCell ⟨G, 3, none⟩ (.string (S s1))).heap[G]? = some (.cells (vG 3 false 0 (S s1) none 0 0 none 0 0 z) 25 (0, 0)) := heap_set (i := 3) (heap_set (i := 0) hg4 (.int .i64 3)) (.string (S s1)); have hx5 := (Upd.set_ G 0 w4 (.int .i64 3)).trans (Upd.set_ G 3 _ (.string (S s1))); have hr5 := (hx5.block (w.heap.size + 1) (heap_lt hr4) (by omega)).trans hr4)
          | ((with_reducible refine gate ?_); refine wp_load_val rfl _ rfl G 0 rfl _ rfl (range_of_heap hg5) ?_)
          | ((with_reducible refine gate ?_); refine wp_store_valQ rfl _ _ rfl (w.heap.size + 1) _ _ _ _ _ _ _ _ _ _ _ _ rfl rfl hr5 rfl ?_; intro w9 hx9 hu9))
        refine bodyPost_ret (v := .agg _) (res_whole Tryd.results25 _ _ (w.heap.size + 1) rfl 25 _ hx9 Tryd.underlying25 rfl valSize) rfl ?_
        rw [HRR.out]
        exact ⟨((HU2.out.trans hu4).nextC hx5 (by omega)).nextC hu9 (by omega), ⟨_, rfl, _, rfl, ValP.of_open (n := .mk 3 false 0 s1 [] [] z) (ElsP.nil _ _ _) (ElsP.nil _ _ _)⟩, (hp4.beside hx5 (by omega)).beside hu9 (by omega)⟩
    rw [if_neg h34] at hq
    by_cases h91 : c = 91
    · rw [if_pos h91] at hq
      have hk91 : k = 91 := by rw [hkc, h91]; rfl
      clear hkc hc hcz h91
      subst hk91
      go_upto_region 19 with fail
      obtain ⟨hg3, hx3⟩ : (W2.setCell ⟨G, 0, none⟩ (.int .i64 4)).heap[G]? = some (.cells (vC 4 none 0 0 none 0 0 z) 25 (0, 0)) ∧ Upd G W2 (W2.setCell ⟨G, 0, none⟩ (.int .i64 4)) := ⟨heap_set (i := 0) HG2.out _, Upd.set_ G 0 W2 _⟩
      have hp3 := HP2.out.beside hx3 (by omega)
      have ht3 := HT2.out.beside hx3 (by omega)
      have hr3 := (hx3.block (w.heap.size + 1) (heap_lt HR2.out) (by omega)).trans HR2.out
      have hu3 := HU2.out.nextC hx3 (by omega)
      have hpc3 := (hx3.block w.heap.size (heap_lt HPC2.out) (by omega)).trans HPC2.out
      have hz3 : (W2.setCell ⟨G, 0, none⟩ (.int .i64 4)).heap.size = G + 1 := by rw [← hz2]; simp [World.setCell]
      have pc3 : (W2.setCell ⟨G, 0, none⟩ (.int .i64 4)).cell? ⟨w.heap.size, 0, none⟩ = some (.pointer (some ⟨b, 0, none⟩)) := by rw [Lib.cell_of_heap hpc3]; rfl
      clear pcc gc0 gc1 gfr hx3 HG2 HPC2 HR2 HP2 HU2 HT2 hz2
      generalize W2.setCell ⟨G, 0, none⟩ (.int .i64 4) = W3 at *
      have HGEO : Hid (Geo b G w.heap.size (w.heap.size + 1) w.heap.size (G + 1)) := ⟨hbw, ⟨by omega, by omega⟩, ⟨by omega, by omega⟩, ⟨by omega, by omega⟩, by omega, by omega, by omega⟩
      have hs3 : ItS b G w.heap.size (w.heap.size + 1) (G + 1) z w [] W3 := ⟨hu3, ht3, ⟨none, 0, hg3, ElRow.nil _ _ _ _⟩, hpc3, hr3, by omega⟩
      have hok : ∀ (its : List JV) (m : Nat) (its' : List JV) (e : Nat), z + 1 + its.length ≤ m → m ≤ l.length → stepI (pvF l (d0 + 2)) its m = .ok (its', e) → m < e ∧ e ≤ l.length ∧ z + 1 + its'.length ≤ e := by
        intro its m its' e hG hm hst
        unfold stepI at hst
        cases hv : pvF l (d0 + 2) m with
        | error q => rw [hv] at hst; cases hst
        | ok p =>
          obtain ⟨v, e'⟩ := p
          rw [hv] at hst
          cases hst
          have := pvV_ok hm hv
          have hG' : z + 1 + its.length ≤ m := hG
          exact ⟨this.1, this.2, by show z + 1 + (its ++ [v]).length ≤ e; rw [List.length_append, List.length_singleton]; omega⟩
      have hel := elements_any (σ := List JV) 38 #[.pointer (some ⟨G, 0, none⟩), .pointer (some ⟨w.heap.size, 0, none⟩)] (fun W => by kernel_rfl) b l d0 93 (by decide) (by omega) (by omega)
        (ItS b G w.heap.size (w.heap.size + 1) (G + 1) z w) (fun W => Upd b w W) (stepI (pvF l (d0 + 2))) (kI l (d0 + 1)) (fun its m => z + 1 + its.length ≤ m) (fun its m m' h h2 => Nat.le_trans h h2)
        (fun its W W' h hu => h.next HGEO.out hu) (fun its W h => h.upd) (fun hd2 its m W hS hP hG hm => item11_any b G w.heap.size (w.heap.size + 1) (G + 1) l z m _ its w W (pvF l (d0 + 2)) HGEO.out hS hP (by have : z + 1 + its.length ≤ m := hG; omega) (fun W1 hP1 hT1 => HIH.out (l.length - m) (by have : z + 1 + its.length ≤ m := hG; omega) (d0 + 1) m W1 (Nat.le_refl _) hm (by omega) (by rw [Int.natCast_add]; exact hP1) hT1)) hok (fun its m _ hm => kI_eq hm) z [] W3 hs3 hp3 (by omega) (by simp)
      have HEL := Lib.hid hel
      clear hel hok hs3 hg3 hp3 ht3 hr3 hu3 hpc3 HIH
      cases heg : elG l 93 (kI l (d0 + 1)) (d0 + 1) z [] with
      | error q =>
        have hel := HEL.out
        rw [heg] at hq hel
        have HRR : Hid (R = .error q) := hq
        have HE := Lib.hid hel
        clear hq hel heg HEL
        go_wp2_with (first
          | (go_at_call 37; refine HE.out.mono ?_; rintro e w4 ⟨hu4, rfl⟩))
        simp only [bodyPost, true_and]
        rw [HRR.out]
        exact ⟨hu4, rfl⟩
      | ok p =>
        obtain ⟨its, e0⟩ := p
        have hel := HEL.out
        rw [heg] at hq hel
        have HRR : Hid (R = .ok (.mk 4 false 0 [] its [] z, e0)) := hq
        have HE := Lib.hid hel
        clear hq hel heg HEL
        go_wp2_with (first
          | (go_at_call 37; refine HE.out.mono ?_; rintro e w4 ⟨rfl, hs4, hp4⟩; obtain ⟨IA, ic, hg4, hrow4⟩ := hs4.row)
          | ((with_reducible refine gate ?_); refine wp_load_val rfl _ rfl G 0 rfl _ rfl (range_of_heap hg4) ?_)
          | ((with_reducible refine gate ?_); refine wp_store_valQ rfl _ _ rfl (w.heap.size + 1) _ _ _ _ _ _ _ _ _ _ _ _ rfl rfl hs4.res rfl ?_; intro w9 hx9 hu9))
        refine bodyPost_ret (v := .agg _) (res_whole Tryd.results25 _ _ (w.heap.size + 1) rfl 25 _ hx9 Tryd.underlying25 rfl valSize) rfl ?_
        rw [HRR.out]
        have hz9 := hu9.size
        have hgG := heap_lt hg4
        have hz4 := hs4.size
        have hre : ElsP valE w9 (fun k => w.heap.size ≤ k ∧ k < w9.heap.size) (.slice IA its.length ic) its := (hrow4.elsP valE_ok (p' := fun k => G + 1 ≤ k ∧ k < w4.heap.size) (fun k hk => hk.1) (fun k hk => hrow4.lt k hk)).keep valE_ok (fun k hk => hu9.block k hk.2 (by have := hk.1; omega)) (fun k hk => ⟨by have := hk.1; omega, by have := hk.2; omega⟩)
        exact ⟨hs4.upd.nextC hu9 (by omega), ⟨_, rfl, _, rfl, ValP.of_open (n := .mk 4 false 0 [] its [] z) hre (ElsP.nil _ _ _)⟩, hp4.beside hu9 (by omega)⟩
    rw [if_neg h91] at hq
    by_cases h123 : c = 123
    · rw [if_pos h123] at hq
      have hk123 : k = 123 := by rw [hkc, h123]; rfl
      clear hkc hc hcz h123
      subst hk123
      go_upto_region 22 with fail
      obtain ⟨hg3, hx3⟩ : (W2.setCell ⟨G, 0, none⟩ (.int .i64 5)).heap[G]? = some (.cells (vC 5 none 0 0 none 0 0 z) 25 (0, 0)) ∧ Upd G W2 (W2.setCell ⟨G, 0, none⟩ (.int .i64 5)) := ⟨heap_set (i := 0) HG2.out _, Upd.set_ G 0 W2 _⟩
      have hp3 := HP2.out.beside hx3 (by omega)
      have ht3 := HT2.out.beside hx3 (by omega)
      have hr3 := (hx3.block (w.heap.size + 1) (heap_lt HR2.out) (by omega)).trans HR2.out
      have hu3 := HU2.out.nextC hx3 (by omega)
      have hpc3 := (hx3.block w.heap.size (heap_lt HPC2.out) (by omega)).trans HPC2.out
      have hz3 : (W2.setCell ⟨G, 0, none⟩ (.int .i64 5)).heap.size = G + 1 := by rw [← hz2]; simp [World.setCell]
      have pc3 : (W2.setCell ⟨G, 0, none⟩ (.int .i64 5)).cell? ⟨w.heap.size, 0, none⟩ = some (.pointer (some ⟨b, 0, none⟩)) := by rw [Lib.cell_of_heap hpc3]; rfl
      clear pcc gc0 gc1 gfr hx3 HG2 HPC2 HR2 HP2 HU2 HT2 hz2
      generalize W2.setCell ⟨G, 0, none⟩ (.int .i64 5) = W3 at *
      have HGEO : Hid (Geo b G w.heap.size (w.heap.size + 1) w.heap.size (G + 1)) := ⟨hbw, ⟨by omega, by omega⟩, ⟨by omega, by omega⟩, ⟨by omega, by omega⟩, by omega, by omega, by omega⟩
      have hs3 : MeS b G w.heap.size (w.heap.size + 1) (G + 1) z w [] W3 := ⟨hu3, ht3, ⟨none, 0, hg3, ElRow.nil _ _ _ _⟩, hpc3, hr3, by omega⟩
      have hok : ∀ (its : List JM) (m : Nat) (its' : List JM) (e : Nat), z + 1 + its.length ≤ m → m ≤ l.length → (fun ms n => stepM11 (fun n => memJ l (pvF l (d0 + 2)) n ms) ms n) its m = .ok (its', e) → m < e ∧ e ≤ l.length ∧ z + 1 + its'.length ≤ e := by
        intro its m its' e hG hm hst
        have hst : (match memJ l (pvF l (d0 + 2)) m its with | .error q => .error q | .ok (v, e) => .ok (its ++ [v], e)) = Except.ok (its', e) := hst
        cases hv : memJ l (pvF l (d0 + 2)) m its with
        | error q => rw [hv] at hst; cases hst
        | ok p =>
          obtain ⟨v, e'⟩ := p
          rw [hv] at hst
          cases hst
          have := memJ_ok hm hv
          have hG' : z + 1 + its.length ≤ m := hG
          exact ⟨this.1, this.2, by show z + 1 + (its ++ [v]).length ≤ e; rw [List.length_append, List.length_singleton]; omega⟩
      have hel := elements_any (σ := List JM) 39 #[.pointer (some ⟨G, 0, none⟩), .pointer (some ⟨w.heap.size, 0, none⟩)] (fun W => by kernel_rfl) b l d0 125 (by decide) (by omega) (by omega)
        (MeS b G w.heap.size (w.heap.size + 1) (G + 1) z w) (fun W => Upd b w W) ((fun ms n => stepM11 (fun n => memJ l (pvF l (d0 + 2)) n ms) ms n)) (kM l (d0 + 1)) (fun its m => z + 1 + its.length ≤ m) (fun its m m' h h2 => Nat.le_trans h h2)
        (fun its W W' h hu => h.next HGEO.out hu) (fun its W h => h.upd) (fun hd2 its m W hS hP hG hm => mem11_any b G w.heap.size (w.heap.size + 1) (G + 1) l z m _ its w W (pvF l (d0 + 2)) HGEO.out hS hP (by have : z + 1 + its.length ≤ m := hG; omega) hm hl (fun a W1 ha1 ha2 hP1 hT1 => HIH.out (l.length - a) (by have : z + 1 + its.length ≤ m := hG; omega) (d0 + 1) a W1 (Nat.le_refl _) ha2 (by omega) (by rw [Int.natCast_add]; exact hP1) hT1)) hok (fun ms m _ hm => kM_eq hm) z [] W3 hs3 hp3 (by omega) (by simp)
      have HEL := Lib.hid hel
      clear hel hok hs3 hg3 hp3 ht3 hr3 hu3 hpc3 HIH
      cases heg : elG l 125 (kM l (d0 + 1)) (d0 + 1) z [] with
      | error q =>
        have hel := HEL.out
        rw [heg] at hq hel
        have HRR : Hid (R = .error q) := hq
        have HE := Lib.hid hel
        clear hq hel heg HEL
        go_wp2_with (first
          | (go_at_call 37; refine HE.out.mono ?_; rintro e w4 ⟨hu4, rfl⟩))
        simp only [bodyPost, true_and]
        rw [HRR.out]
        exact ⟨hu4, rfl⟩
      | ok p =>
        obtain ⟨its, e0⟩ := p
        have hel := HEL.out
        rw [heg] at hq hel
        have HRR : Hid (R = .ok (.mk 5 false 0 [] [] its z, e0)) := hq
        have HE := Lib.hid hel
        clear hq hel heg HEL
        go_wp2_with (first
          | (go_at_call 37; refine HE.out.mono ?_; rintro e w4 ⟨rfl, hs4, hp4⟩; obtain ⟨IA, ic, hg4, hrow4⟩ := hs4.row)
          | ((with_reducible refine gate ?_); refine wp_load_val rfl _ rfl G 0 rfl _ rfl (range_of_heap hg4) ?_)
          | ((with_reducible refine gate ?_); refine wp_store_valQ rfl _ _ rfl (w.heap.size + 1) _ _ _ _ _ _ _ _ _ _ _ _ rfl rfl hs4.res rfl ?_; intro w9 hx9 hu9))
        refine bodyPost_ret (v := .agg _) (res_whole Tryd.results25 _ _ (w.heap.size + 1) rfl 25 _ hx9 Tryd.underlying25 rfl valSize) rfl ?_
        rw [HRR.out]
        have hz9 := hu9.size
        have hgG := heap_lt hg4
        have hz4 := hs4.size
        have hre : ElsP memE w9 (fun k => w.heap.size ≤ k ∧ k < w9.heap.size) (.slice IA its.length ic) its := (hrow4.elsP memE_ok (p' := fun k => G + 1 ≤ k ∧ k < w4.heap.size) (fun k hk => hk.1) (fun k hk => hrow4.lt k hk)).keep memE_ok (fun k hk => hu9.block k hk.2 (by have := hk.1; omega)) (fun k hk => ⟨by have := hk.1; omega, by have := hk.2; omega⟩)
        exact ⟨hs4.upd.nextC hu9 (by omega), ⟨_, rfl, _, rfl, ValP.of_open (n := .mk 5 false 0 [] [] its z) (ElsP.nil _ _ _) hre⟩, hp4.beside hu9 (by omega)⟩
    rw [if_neg h123] at hq
    by_cases hnum : c = 45 ∨ isDg c = true
    · rw [if_pos hnum] at hq
      have hzl : z < l.length := by omega
      have hnb : isNumB l[z] = true := by
        rw [hcz]; unfold isNumB
        rcases hnum with h | h
        · rw [h]; decide
        · rw [h]; rfl
      have hn43 : l[z] ≠ 43 := by
        rw [hcz]
        rcases hnum with h | h
        · rw [h]; decide
        · intro e; rw [e] at h; revert h; decide
      have hnr := number11_any b l z d0 W2 HP2.out HT2.out hzl (by omega) hn43 hnb
      have hd45 : k = 45 ∨ (¬ k = 45 ∧ 48 ≤ k ∧ k ≤ 57) := by
        rw [hkc]
        by_cases h : c.toNat = 45
        · exact .inl h
        · refine .inr ⟨h, ?_⟩
          have := hnum.resolve_left (fun e => h (by rw [e]; rfl))
          rwa [isDg_nat] at this
      clear hkc hc hcz hnb hn43 hnum
      have HNR := Lib.hid hnr
      clear hnr
      cases hnj : numJ ((l.drop z).take (run isNumB (l.drop z))) with
      | none =>
        have hnr := HNR.out
        rw [hnj] at hnr hq
        have HRR : Hid (R = .error (z, 15)) := hq
        have HN := Lib.hid hnr
        clear hnr hq hnj HNR
        rcases hd45 with h | ⟨h, h1, h2⟩
        · subst h
          go_wp2_with (first
            | (go_at_call 36; refine HN.out.mono ?_; rintro e w4 ⟨hu4, rfl⟩))
          simp only [bodyPost, true_and]
          rw [HRR.out]
          exact ⟨HU2.out.trans hu4, rfl⟩
        · have u110 : ((k : Int) == 110) = false := by rw [beq_eq_false_iff_ne]; omega
          have u116 : ((k : Int) == 116) = false := by rw [beq_eq_false_iff_ne]; omega
          have u102 : ((k : Int) == 102) = false := by rw [beq_eq_false_iff_ne]; omega
          have u34 : ((k : Int) == 34) = false := by rw [beq_eq_false_iff_ne]; omega
          have u45 : ((k : Int) == 45) = false := by rw [beq_eq_false_iff_ne]; omega
          have u91 : ((k : Int) == 91) = false := by rw [beq_eq_false_iff_ne]; omega
          have u123 : ((k : Int) == 123) = false := by rw [beq_eq_false_iff_ne]; omega
          have u48 : (48 : Int) ≤ k := by omega
          have u57 : (k : Int) ≤ 57 := by omega
          go_wp2_with (first
            | (go_at_call 36; refine HN.out.mono ?_; rintro e w4 ⟨hu4, rfl⟩))
          simp only [bodyPost, true_and]
          rw [HRR.out]
          exact ⟨HU2.out.trans hu4, rfl⟩
      | some nv =>
        have hnr := HNR.out
        rw [hnj] at hnr hq
        have HRR : Hid (R = .ok (.mk 2 false nv [] [] [] z, numEnd l z)) := hq
        have HN := Lib.hid hnr
        clear hnr hq hnj HNR
        rcases hd45 with h | ⟨h, h1, h2⟩
        · subst h
          go_wp2_with (first
            | (go_at_call 36; refine HN.out.mono ?_; rintro e w4 ⟨hu4, rfl, hp4⟩; have hg4 := (hu4.block G (heap_lt HG2.out) (by omega)).trans HG2.out; have hr4 := (hu4.block (w.heap.size + 1) (heap_lt HR2.out) (by omega)).trans HR2.out; have g40 : w4.cell? ⟨G, 0, none⟩ = some (.int .i64 0) := (by rw [Lib.cell_of_heap hg4]; rfl); have g42 : w4.cell? ⟨G, 2, none⟩ = some (.int .i64 0) := (by rw [Lib.cell_of_heap hg4]; rfl); have g4f : ∀ i, w4.frozen? ⟨G, i, none⟩ = false := Lib.frozen_of_heap hg4; have hg5 : ((w4.setCell ⟨G, 0, none⟩ (.int .i64 2)).setCell ⟨G, 2, none⟩ (.int .i64 nv)).heap[G]? = some (.cells (vG 2 false nv ByteArray.empty none 0 0 none 0 0 z) 25 (0, 0)) := heap_set (i := 2) (heap_set (i := 0) hg4 (.int .i64 2)) (.int .i64 nv); have hx5 := (Upd.set_ G 0 w4 (.int .i64 2)).trans (Upd.set_ G 2 _ (.int .i64 nv)); have hr5 := (hx5.block (w.heap.size + 1) (heap_lt hr4) (by omega)).trans hr4)
            | ((with_reducible refine gate ?_); refine wp_load_val rfl _ rfl G 0 rfl _ rfl (range_of_heap hg5) ?_)
            | ((with_reducible refine gate ?_); refine wp_store_valQ rfl _ _ rfl (w.heap.size + 1) _ _ _ _ _ _ _ _ _ _ _ _ rfl rfl hr5 rfl ?_; intro w9 hx9 hu9))
          refine bodyPost_ret (v := .agg _) (res_whole Tryd.results25 _ _ (w.heap.size + 1) rfl 25 _ hx9 Tryd.underlying25 rfl valSize) rfl ?_
          rw [HRR.out]
          exact ⟨((HU2.out.trans hu4).nextC hx5 (by omega)).nextC hu9 (by omega), ⟨_, rfl, _, rfl, ValP.of_open (n := .mk 2 false nv [] [] [] z) (ElsP.nil _ _ _) (ElsP.nil _ _ _)⟩, (hp4.beside hx5 (by omega)).beside hu9 (by omega)⟩
        · have u110 : ((k : Int) == 110) = false := by rw [beq_eq_false_iff_ne]; omega
          have u116 : ((k : Int) == 116) = false := by rw [beq_eq_false_iff_ne]; omega
          have u102 : ((k : Int) == 102) = false := by rw [beq_eq_false_iff_ne]; omega
          have u34 : ((k : Int) == 34) = false := by rw [beq_eq_false_iff_ne]; omega
          have u45 : ((k : Int) == 45) = false := by rw [beq_eq_false_iff_ne]; omega
          have u91 : ((k : Int) == 91) = false := by rw [beq_eq_false_iff_ne]; omega
          have u123 : ((k : Int) == 123) = false := by rw [beq_eq_false_iff_ne]; omega
          have u48 : (48 : Int) ≤ k := by omega
          have u57 : (k : Int) ≤ 57 := by omega
          go_wp2_with (first
            | (go_at_call 36; refine HN.out.mono ?_; rintro e w4 ⟨hu4, rfl, hp4⟩; have hg4 := (hu4.block G (heap_lt HG2.out) (by omega)).trans HG2.out; have hr4 := (hu4.block (w.heap.size + 1) (heap_lt HR2.out) (by omega)).trans HR2.out; have g40 : w4.cell? ⟨G, 0, none⟩ = some (.int .i64 0) := (by rw [Lib.cell_of_heap hg4]; rfl); have g42 : w4.cell? ⟨G, 2, none⟩ = some (.int .i64 0) := (by rw [Lib.cell_of_heap hg4]; rfl); have g4f : ∀ i, w4.frozen? ⟨G, i, none⟩ = false := Lib.frozen_of_heap hg4; have hg5 : ((w4.setCell ⟨G, 0, none⟩ (.int .i64 2)).setCell ⟨G, 2, none⟩ (.int .i64 nv)).heap[G]? = some (.cells (vG 2 false nv ByteArray.empty none 0 0 none 0 0 z) 25 (0, 0)) := heap_set (i := 2) (heap_set (i := 0) hg4 (.int .i64 2)) (.int .i64 nv); have hx5 := (Upd.set_ G 0 w4 (.int .i64 2)).trans (Upd.set_ G 2 _ (.int .i64 nv)); have hr5 := (hx5.block (w.heap.size + 1) (heap_lt hr4) (by omega)).trans hr4)
            | ((with_reducible refine gate ?_); refine wp_load_val rfl _ rfl G 0 rfl _ rfl (range_of_heap hg5) ?_)
            | ((with_reducible refine gate ?_); refine wp_store_valQ rfl _ _ rfl (w.heap.size + 1) _ _ _ _ _ _ _ _ _ _ _ _ rfl rfl hr5 rfl ?_; intro w9 hx9 hu9))
          refine bodyPost_ret (v := .agg _) (res_whole Tryd.results25 _ _ (w.heap.size + 1) rfl 25 _ hx9 Tryd.underlying25 rfl valSize) rfl ?_
          rw [HRR.out]
          exact ⟨((HU2.out.trans hu4).nextC hx5 (by omega)).nextC hu9 (by omega), ⟨_, rfl, _, rfl, ValP.of_open (n := .mk 2 false nv [] [] [] z) (ElsP.nil _ _ _) (ElsP.nil _ _ _)⟩, (hp4.beside hx5 (by omega)).beside hu9 (by omega)⟩
    · rw [if_neg hnum] at hq
      have HRR := Lib.hid hq
      have u110 : ((k : Int) == 110) = false := by rw [beq_eq_false_iff_ne, hkc]; intro e; exact h110 (UInt8.toNat_inj.1 (by have h : c.toNat = 110 := (by omega); rw [h]; rfl))
      have u116 : ((k : Int) == 116) = false := by rw [beq_eq_false_iff_ne, hkc]; intro e; exact h116 (UInt8.toNat_inj.1 (by have h : c.toNat = 116 := (by omega); rw [h]; rfl))
      have u102 : ((k : Int) == 102) = false := by rw [beq_eq_false_iff_ne, hkc]; intro e; exact h102 (UInt8.toNat_inj.1 (by have h : c.toNat = 102 := (by omega); rw [h]; rfl))
      have u34 : ((k : Int) == 34) = false := by rw [beq_eq_false_iff_ne, hkc]; intro e; exact h34 (UInt8.toNat_inj.1 (by have h : c.toNat = 34 := (by omega); rw [h]; rfl))
      have u91 : ((k : Int) == 91) = false := by rw [beq_eq_false_iff_ne, hkc]; intro e; exact h91 (UInt8.toNat_inj.1 (by have h : c.toNat = 91 := (by omega); rw [h]; rfl))
      have u123 : ((k : Int) == 123) = false := by rw [beq_eq_false_iff_ne, hkc]; intro e; exact h123 (UInt8.toNat_inj.1 (by have h : c.toNat = 123 := (by omega); rw [h]; rfl))
      have u45 : ((k : Int) == 45) = false := by rw [beq_eq_false_iff_ne, hkc]; intro e; exact hnum (.inl (UInt8.toNat_inj.1 (by have h : c.toNat = 45 := (by omega); rw [h]; rfl)))
      have hndg : ¬ (48 ≤ k ∧ k ≤ 57) := by rw [hkc]; intro q; exact hnum (.inr (by rw [isDg_nat]; exact q))
      have hw := wrong11_any b l z d0 W2 HP2.out hzn (by omega)
      have hwj : wrongJ l z = (z, 7) := by unfold wrongJ; rw [if_neg (by omega)]
      rw [hwj] at hw
      have HW := Lib.hid hw
      clear hw hwj hq hkc hc hcz hnum h110 h116 h102 h34 h91 h123
      by_cases h48 : (48 : Int) ≤ k
      · have h57 : ¬ (k : Int) ≤ 57 := by omega
        go_wp2_with (go_at_call 41; refine HW.out.mono ?_; rintro e w3 ⟨rfl, hp3, hu3⟩)
        simp only [bodyPost, true_and]
        rw [HRR.out]
        exact ⟨HU2.out.trans hu3, rfl⟩
      · go_wp2_with (go_at_call 41; refine HW.out.mono ?_; rintro e w3 ⟨rfl, hp3, hu3⟩)
        simp only [bodyPost, true_and]
        rw [HRR.out]
        exact ⟨HU2.out.trans hu3, rfl⟩
end Go.Proofs.YthlppbpccldikaaDoor
set_option linter.unusedVariables false
set_option linter.unusedSimpArgs false
namespace Go.Proofs.YthlppbpccldikaaDoor
open Go.RowKit

theorem frame22 (a b c X : Value) : (#[a, b, c] ++ ((Array.replicate 19 undef).setIfInBounds 3 X).setIfInBounds 0 X) = #[a, b, c, X, undef, undef, X, undef, undef, undef, undef, undef, undef, undef, undef, undef, undef, undef, undef, undef, undef, undef] := by kernel_rfl
theorem parse1_idle (gv ga ge : Nat) (w : World) :
    CallsD Tryd.prog 23 #[.pointer (some ⟨gv, 0, none⟩), .pointer (some ⟨ga, 0, none⟩), .pointer (some ⟨ge, 0, none⟩)] .returning w fun e u' w' => e = .returned (.tuple #[]) ∧ u' = .returning ∧ w' = w := by
  refine callsD_of_wpS Tryd.func23 rfl fun c₀ cs hu => ?_
  apply wpS_seq
  apply wpS_region
  simp [wpOpsS, go_sem, recoverD, hu, Tryd.ntmps23, Exit.thenS]
  refine wpS_of_wp (Code.wp_mono (Q := fun e a' w' => e = .normal ∧ a'.defers = [] ∧ w' = w) ?_ ?_)
  · rintro e a' w' ⟨rfl, hd, rfl⟩
    refine ⟨hd, .returning, ?_, .tuple #[], ?_, rfl, rfl, rfl⟩
    · cases c₀; simp_all
    · exact results_none rfl _ _ _
  · rw [frame22]
    go_wp2_with fail
abbrev fltV (q : Nat × Nat) : Value := .iface 50 (.agg #[.int .i64 q.1, .int .i64 q.2])
/-- What the deferred function leaves behind a panic. -/
structure Rec11 (gv ga ge : Nat) (q : Nat × Nat) (w w' : World) : Prop where
  v : w'.heap[gv]? = some (.cells zVC 25 (0, 0))
  a : w'.heap[ga]? = some (.cells #[.int .i64 q.1] 3 (0, 0))
  e : w'.heap[ge]? = some (.cells #[.int .i64 q.2] 35 (0, 0))
  os : w'.os = w.os
  tape : w'.tape = w.tape
  output : w'.output = w.output
  size : w.heap.size ≤ w'.heap.size
  block : ∀ k, k < w.heap.size → k ≠ gv → k ≠ ga → k ≠ ge → w'.heap[k]? = w.heap[k]?
set_option maxHeartbeats 4000000 in
set_option maxRecDepth 100000 in
theorem parse1_panic (gv ga ge : Nat) (q : Nat × Nat) (older : List PanicEntry) (c0 c1 c2 c3 c4 c5 c6 : Value) (x y : Int) (w : World) (hv : w.heap[gv]? = some (.cells #[c0, c1, c2, c3, c4, c5, c6] 25 (0, 0))) (ha : w.heap[ga]? = some (.cells #[.int .i64 x] 3 (0, 0))) (he : w.heap[ge]? = some (.cells #[.int .i64 y] 35 (0, 0)))
    (h1 : gv ≠ ga) (h2 : gv ≠ ge) (h3 : ga ≠ ge) :
    CallsD Tryd.prog 23 #[.pointer (some ⟨gv, 0, none⟩), .pointer (some ⟨ga, 0, none⟩), .pointer (some ⟨ge, 0, none⟩)] (.panicking ({ v := fltV q, recovered := false } :: older)) w fun e u' w' =>
      e = .returned (.tuple #[]) ∧ u' = .panicking ({ v := fltV q, recovered := true } :: older) ∧ Rec11 gv ga ge q w w' := by
  have hta : ∀ W : World, (Instr.typeAssert (fltV q) 20 50 true).run Tryd.prog W = .ok (.tuple #[.agg #[.int .i64 q.1, .int .i64 q.2], .bool true]) W := fun W => by kernel_rfl
  refine callsD_of_wpS Tryd.func23 rfl fun c₀ cs hu => ?_
  apply wpS_seq
  apply wpS_region
  simp [wpOpsS, go_sem, recoverD, hu, Tryd.ntmps23, Exit.thenS]
  refine wpS_of_wp (Code.wp_mono (Q := fun e a' w' => e = .normal ∧ a'.defers = [] ∧ Rec11 gv ga ge q w w') ?_ ?_)
  · rintro e a' w' ⟨rfl, hd, hw⟩
    refine ⟨hd, .panicking ({ v := fltV q, recovered := true } :: older), ?_, .tuple #[], ?_, rfl, rfl, hw⟩
    · rfl
    · exact results_none rfl _ _ _
  · rw [frame22]
    go_wp2_with fail
    obtain ⟨W2, hW2⟩ : ∃ W2, w.alloc (.cells #[.int .i64 q.1, .int .i64 q.2] 50) = W2 := ⟨_, rfl⟩
    rw [hW2]
    obtain ⟨V, hV⟩ : ∃ V, W2.drew = V := ⟨_, rfl⟩
    have HV := Lib.hid hV
    have hb2 : Below w.heap.size w V := by rw [← hV, ← hW2]; exact ((Below.refl _ _).alloc (Nat.le_refl _) _).drew
    have hg2 : V.heap[w.heap.size]? = some (.cells #[.int .i64 q.1, .int .i64 q.2] 50 (0, 0)) := by rw [← hV, ← hW2]; exact heap_alloc_new _ _
    have lv := heap_lt hv
    have la := heap_lt ha
    have le := heap_lt he
    have hv2 := (hb2.block _ lv).trans hv
    have ha2 := (hb2.block _ la).trans ha
    have he2 := (hb2.block _ le).trans he
    have HB2 := Lib.hid hb2
    clear hW2 hta hu hV
    obtain ⟨F, hF⟩ : ∃ F, w.heap.size = F := ⟨_, rfl⟩
    rw [hF] at hg2 lv la le ⊢
    have HF := Lib.hid hF
    have F0 : V.cell? ⟨F, 0, none⟩ = some (.int .i64 q.1) := by rw [Lib.cell_of_heap hg2]; rfl
    have F1 : V.cell? ⟨F, 1, none⟩ = some (.int .i64 q.2) := by rw [Lib.cell_of_heap hg2]; rfl
    obtain ⟨v0, v1, v2, v3, v4, v5, v6⟩ := cells7 hv2
    have vf : ∀ i, V.frozen? ⟨gv, i, none⟩ = false := Lib.frozen_of_heap hv2
    have a0 : V.cell? ⟨ga, 0, none⟩ = some (.int .i64 x) := by rw [Lib.cell_of_heap ha2]; rfl
    have af := Lib.frozen_of_heap ha2 0
    have e0 : V.cell? ⟨ge, 0, none⟩ = some (.int .i64 y) := by rw [Lib.cell_of_heap he2]; rfl
    have ef := Lib.frozen_of_heap he2 0
    have n1 : ga ≠ gv := Ne.symm h1
    have n2 : ge ≠ gv := Ne.symm h2
    have n3 : ge ≠ ga := Ne.symm h3
    have n4 : F ≠ gv := by omega
    have n5 : F ≠ ga := by omega
    have n6 : F ≠ ge := by omega
    obtain ⟨hx3, hu3⟩ := seven_setK hv2 (.int .i64 0) (.bool false) (.int .i64 0) (.string ⟨#[]⟩) (.slice none 0 0) (.slice none 0 0) (.int .i64 0)
    have hfl3 := (hu3.block F (heap_lt hg2) n4).trans hg2
    have ha3 := (hu3.block ga (heap_lt ha2) n1).trans ha2
    have he3 := (hu3.block ge (heap_lt he2) n2).trans he2
    have hS3 : (((((((V.setCell ⟨gv, 0, none⟩ (.int .i64 0)).setCell ⟨gv, 1, none⟩ (.bool false)).setCell ⟨gv, 2, none⟩ (.int .i64 0)).setCell ⟨gv, 3, none⟩ (.string ⟨#[]⟩)).setCell ⟨gv, 4, none⟩ (.slice none 0 0)).setCell ⟨gv, 5, none⟩ (.slice none 0 0)).setCell ⟨gv, 6, none⟩ (.int .i64 0)).cell? ⟨F, 0, none⟩ = some (.int .i64 q.1) ∧ (((((((V.setCell ⟨gv, 0, none⟩ (.int .i64 0)).setCell ⟨gv, 1, none⟩ (.bool false)).setCell ⟨gv, 2, none⟩ (.int .i64 0)).setCell ⟨gv, 3, none⟩ (.string ⟨#[]⟩)).setCell ⟨gv, 4, none⟩ (.slice none 0 0)).setCell ⟨gv, 5, none⟩ (.slice none 0 0)).setCell ⟨gv, 6, none⟩ (.int .i64 0)).cell? ⟨F, 1, none⟩ = some (.int .i64 q.2) := ⟨by rw [Lib.cell_of_heap hfl3]; rfl, by rw [Lib.cell_of_heap hfl3]; rfl⟩
    have hu4 := Upd.set_ ga 0 (((((((V.setCell ⟨gv, 0, none⟩ (.int .i64 0)).setCell ⟨gv, 1, none⟩ (.bool false)).setCell ⟨gv, 2, none⟩ (.int .i64 0)).setCell ⟨gv, 3, none⟩ (.string ⟨#[]⟩)).setCell ⟨gv, 4, none⟩ (.slice none 0 0)).setCell ⟨gv, 5, none⟩ (.slice none 0 0)).setCell ⟨gv, 6, none⟩ (.int .i64 0)) (.int .i64 q.1)
    have hx4 := (hu4.block gv (heap_lt hx3) h1).trans hx3
    have ha4 : _ = some (Obj.cells #[.int .i64 q.1] _ _) := heap_set (i := 0) ha3 (.int .i64 q.1)
    have he4 := (hu4.block ge (heap_lt he3) n3).trans he3
    have hfl4 := (hu4.block F (heap_lt hfl3) n5).trans hfl3
    have hS4 : ((((((((V.setCell ⟨gv, 0, none⟩ (.int .i64 0)).setCell ⟨gv, 1, none⟩ (.bool false)).setCell ⟨gv, 2, none⟩ (.int .i64 0)).setCell ⟨gv, 3, none⟩ (.string ⟨#[]⟩)).setCell ⟨gv, 4, none⟩ (.slice none 0 0)).setCell ⟨gv, 5, none⟩ (.slice none 0 0)).setCell ⟨gv, 6, none⟩ (.int .i64 0)).setCell ⟨ga, 0, none⟩ (.int .i64 q.1)).cell? ⟨F, 0, none⟩ = some (.int .i64 q.1) ∧ ((((((((V.setCell ⟨gv, 0, none⟩ (.int .i64 0)).setCell ⟨gv, 1, none⟩ (.bool false)).setCell ⟨gv, 2, none⟩ (.int .i64 0)).setCell ⟨gv, 3, none⟩ (.string ⟨#[]⟩)).setCell ⟨gv, 4, none⟩ (.slice none 0 0)).setCell ⟨gv, 5, none⟩ (.slice none 0 0)).setCell ⟨gv, 6, none⟩ (.int .i64 0)).setCell ⟨ga, 0, none⟩ (.int .i64 q.1)).cell? ⟨F, 1, none⟩ = some (.int .i64 q.2) := ⟨by rw [Lib.cell_of_heap hfl4]; rfl, by rw [Lib.cell_of_heap hfl4]; rfl⟩
    have hu5 := Upd.set_ ge 0 ((((((((V.setCell ⟨gv, 0, none⟩ (.int .i64 0)).setCell ⟨gv, 1, none⟩ (.bool false)).setCell ⟨gv, 2, none⟩ (.int .i64 0)).setCell ⟨gv, 3, none⟩ (.string ⟨#[]⟩)).setCell ⟨gv, 4, none⟩ (.slice none 0 0)).setCell ⟨gv, 5, none⟩ (.slice none 0 0)).setCell ⟨gv, 6, none⟩ (.int .i64 0)).setCell ⟨ga, 0, none⟩ (.int .i64 q.1)) (.int .i64 q.2)
    have hx5 := (hu5.block gv (heap_lt hx4) h2).trans hx4
    have ha5 := (hu5.block ga (heap_lt ha4) h3).trans ha4
    have he5 : _ = some (Obj.cells #[.int .i64 q.2] _ _) := heap_set (i := 0) he4 (.int .i64 q.2)
    have hfl5 := (hu5.block F (heap_lt hfl4) n6).trans hfl4
    have hS5 : (((((((((V.setCell ⟨gv, 0, none⟩ (.int .i64 0)).setCell ⟨gv, 1, none⟩ (.bool false)).setCell ⟨gv, 2, none⟩ (.int .i64 0)).setCell ⟨gv, 3, none⟩ (.string ⟨#[]⟩)).setCell ⟨gv, 4, none⟩ (.slice none 0 0)).setCell ⟨gv, 5, none⟩ (.slice none 0 0)).setCell ⟨gv, 6, none⟩ (.int .i64 0)).setCell ⟨ga, 0, none⟩ (.int .i64 q.1)).setCell ⟨ge, 0, none⟩ (.int .i64 q.2)).cell? ⟨F, 0, none⟩ = some (.int .i64 q.1) ∧ (((((((((V.setCell ⟨gv, 0, none⟩ (.int .i64 0)).setCell ⟨gv, 1, none⟩ (.bool false)).setCell ⟨gv, 2, none⟩ (.int .i64 0)).setCell ⟨gv, 3, none⟩ (.string ⟨#[]⟩)).setCell ⟨gv, 4, none⟩ (.slice none 0 0)).setCell ⟨gv, 5, none⟩ (.slice none 0 0)).setCell ⟨gv, 6, none⟩ (.int .i64 0)).setCell ⟨ga, 0, none⟩ (.int .i64 q.1)).setCell ⟨ge, 0, none⟩ (.int .i64 q.2)).cell? ⟨F, 1, none⟩ = some (.int .i64 q.2) := ⟨by rw [Lib.cell_of_heap hfl5]; rfl, by rw [Lib.cell_of_heap hfl5]; rfl⟩
    have hrec : Rec11 gv ga ge q w (((((((((V.setCell ⟨gv, 0, none⟩ (.int .i64 0)).setCell ⟨gv, 1, none⟩ (.bool false)).setCell ⟨gv, 2, none⟩ (.int .i64 0)).setCell ⟨gv, 3, none⟩ (.string ⟨#[]⟩)).setCell ⟨gv, 4, none⟩ (.slice none 0 0)).setCell ⟨gv, 5, none⟩ (.slice none 0 0)).setCell ⟨gv, 6, none⟩ (.int .i64 0)).setCell ⟨ga, 0, none⟩ (.int .i64 q.1)).setCell ⟨ge, 0, none⟩ (.int .i64 q.2)) := by
      have zz := HB2.out.size
      have z3 := hu3.size
      have z4 := hu4.size
      have z5 := hu5.size
      exact ⟨hx5, ha5, he5, hu5.os.trans (hu4.os.trans (hu3.os.trans HB2.out.os)), hu5.tape.trans (hu4.tape.trans (hu3.tape.trans HB2.out.tape)), hu5.output.trans (hu4.output.trans (hu3.output.trans HB2.out.output)), Nat.le_trans zz (Nat.le_trans z3 (Nat.le_trans z4 z5)),
        fun k hk k1 k2 k3 => (hu5.block k (by omega) k3).trans ((hu4.block k (by omega) k2).trans ((hu3.block k (by omega) k1).trans (HB2.out.block k hk)))⟩
    have HREC := Lib.hid hrec
    clear hrec hx3 hu3 hfl3 ha3 he3 hu4 hx4 ha4 he4 hfl4 hu5 hx5 ha5 he5 hfl5 hv2 ha2 he2 hg2 hv ha he hb2
    refine wp_region_held_drew (S := fun x => x.cell? ⟨F, 0, none⟩ = some (.int .i64 q.1) ∧ x.cell? ⟨F, 1, none⟩ = some (.int .i64 q.2)) (by kernel_rfl) ?_ (fun hHeld => ?_)
    · (try dsimp only); rw [HV.out]; exact ⟨F0, F1⟩
    rw [HV.out] at hHeld ⊢
    refine wpAnyH_take (i := 0) (oi := (⟨some 17, _, _, _, _, _⟩ : Oper)) (v := ?_) rfl (by kernel_rfl) (by kernel_rfl) (by kernel_rfl) (fun _ _ _ h => h) (Or.inl ⟨by rfl, ?_⟩) (by assumption) ?_
    rotate_left
    · intro wS hSw; obtain ⟨hSa, hSb⟩ := hSw; go_simp <;> with_reducible rfl
    simp only [Act.put, List.setIfInBounds_toArray, List.set_cons_zero, List.set_cons_succ]
    refine wpAnyH_take (i := 1) (oi := (⟨some 18, _, _, _, _, _⟩ : Oper)) (v := ?_) rfl (by kernel_rfl) (by kernel_rfl) (by kernel_rfl) (fun _ _ _ h => h) (Or.inl ⟨by rfl, ?_⟩) (by assumption) ?_
    rotate_left
    · intro wS hSw; obtain ⟨hSa, hSb⟩ := hSw; go_simp <;> with_reducible rfl
    simp only [Act.put, List.setIfInBounds_toArray, List.set_cons_zero, List.set_cons_succ]
    refine wpAnyH_take (i := 2) (oi := (⟨some 19, _, _, _, _, _⟩ : Oper)) (v := ?_) rfl (by kernel_rfl) (by kernel_rfl) (by kernel_rfl) (fun _ _ _ h => h) (Or.inl ⟨by rfl, ?_⟩) (by assumption) ?_
    rotate_left
    · intro wS hSw; obtain ⟨hSa, hSb⟩ := hSw; go_simp <;> with_reducible rfl
    simp only [Act.put, List.setIfInBounds_toArray, List.set_cons_zero, List.set_cons_succ]
    refine wpAnyH_take (i := 3) (oi := (⟨some 20, _, _, _, _, _⟩ : Oper)) (v := ?_) rfl (by kernel_rfl) (by kernel_rfl) (by kernel_rfl) (fun _ _ _ h => h) (Or.inl ⟨by rfl, ?_⟩) (by assumption) ?_
    rotate_left
    · intro wS hSw; obtain ⟨hSa, hSb⟩ := hSw; go_simp <;> with_reducible rfl
    simp only [Act.put, List.setIfInBounds_toArray, List.set_cons_zero, List.set_cons_succ]
    refine wpAnyH_take (i := 4) (oi := (⟨some 21, _, _, _, _, _⟩ : Oper)) (v := ?_) rfl (by kernel_rfl) (by kernel_rfl) (by kernel_rfl) (fun _ _ _ h => h) (Or.inl ⟨by rfl, ?_⟩) (by assumption) ?_
    rotate_left
    · intro wS hSw; obtain ⟨hSa, hSb⟩ := hSw; go_simp <;> with_reducible rfl
    simp only [Act.put, List.setIfInBounds_toArray, List.set_cons_zero, List.set_cons_succ]
    refine wpAnyH_ready (rs := [5]) (by kernel_rfl) (by simp) ?_
    refine AllReadyH.cons (o := (⟨none, _, _, _, _, _⟩ : Oper)) rfl (fun K hK => ?_) ?_
    rotate_left
    · exact AllReadyH.nil
    go_simp
    refine hK.out _ _ ?_ (fun hHeld => ?_)
    · (try dsimp only); exact hS3
    clear hK K
    try simp only [Act.put, List.setIfInBounds_toArray, List.set_cons_zero, List.set_cons_succ]
    refine wpAnyH_ready (rs := [6]) (by kernel_rfl) (by simp) ?_
    refine AllReadyH.cons (o := (⟨none, _, _, _, _, _⟩ : Oper)) rfl (fun K hK => ?_) ?_
    rotate_left
    · exact AllReadyH.nil
    go_simp
    refine hK.out _ _ ?_ (fun hHeld => ?_)
    · (try dsimp only); exact hS4
    clear hK K
    try simp only [Act.put, List.setIfInBounds_toArray, List.set_cons_zero, List.set_cons_succ]
    refine wpAnyH_ready (rs := [7]) (by kernel_rfl) (by simp) ?_
    refine AllReadyH.cons (o := (⟨none, _, _, _, _, _⟩ : Oper)) rfl (fun K hK => ?_) ?_
    rotate_left
    · exact AllReadyH.nil
    go_simp
    refine hK.out _ _ ?_ (fun hHeld => ?_)
    · (try dsimp only); exact hS5
    clear hK K
    try simp only [Act.put, List.setIfInBounds_toArray, List.set_cons_zero, List.set_cons_succ]
    refine wpAnyH_done (by kernel_rfl) ?_ _
    go_wp2_with fail
    exact HREC.out
end Go.Proofs.YthlppbpccldikaaDoor
