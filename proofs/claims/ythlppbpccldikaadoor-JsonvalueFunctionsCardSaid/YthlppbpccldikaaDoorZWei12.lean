/-
  Walks of chapter 11's statements: how much a value weighs, and whether it is too large.
-/
import Derived.Test.YthlppbpccldikaaDoorH14
import Derived.WalkSpells
import Derived.WalkLawsBesides
set_option linter.unusedVariables false
namespace Go.Proofs.YthlppbpccldikaaDoor
open Go.RowKit

@[go_sem] theorem min_c9J (n : Nat) : min (n : Int) 9000 = (c9 n : Nat) := by
  unfold c9; omega
theorem jwtL_stop {l : List JV} {t : Nat} (h : 9000 < t) : jwtL l t = t := by
  cases l with
  | nil => rw [jwtL]
  | cons v l => rw [jwtL, if_pos h]
theorem jwtM_stop {l : List JM} {t : Nat} (h : 9000 < t) : jwtM l t = t := by
  cases l with
  | nil => rw [jwtM]
  | cons v l => cases v; rw [jwtM, if_pos h]
theorem jwtL_step {l : List JV} {i t : Nat} (h : i < l.length) (ht : ¬ 9000 < t) : jwtL (l.drop i) t = jwtL (l.drop (i + 1)) (jwt l[i] t) := by
  rw [List.drop_eq_getElem_cons h, jwtL, if_neg ht]
theorem jwtM_step {l : List JM} {i t : Nat} (h : i < l.length) (ht : ¬ 9000 < t) : jwtM (l.drop i) t = jwtM (l.drop (i + 1)) (jwt l[i].val (t + c9 l[i].key.length)) := by
  rw [List.drop_eq_getElem_cons h]
  cases hx : l[i] with
  | mk k v p => rw [jwtM, if_neg ht]; rfl
theorem jwt_form (v : JV) (t : Nat) : jwt v t = jwtM v.mems (jwtL v.items (t + (1 + c9 v.s.length))) := by cases v; rw [jwt]; rfl

set_option maxHeartbeats 4000000 in
set_option maxRecDepth 100000 in
theorem weight12_any (s : Nat) : ∀ (v : JV) (u : Value) (tot : Nat) (w : World), jsz v ≤ s → JFit v → tot ≤ 18000 → ValV w (· < w.heap.size) v u →
    Calls Tryd.prog 19 #[u, .int .i64 tot] w fun e w' => e = .returned (.int .i64 (jwt v tot : Nat)) ∧ Below w.heap.size w w' := by
  induction s with
  | zero => intro v u tot w h; have := jsz_pos v; omega
  | succ s ih =>
    intro v u tot w hs hf ht hv
    obtain ⟨⟨hil, hml, hn1, hn2⟩, hfi, hfm⟩ := hf.form
    obtain ⟨IA, ic, MA, mc, rfl, hi, hm, hic, hmc⟩ := hv.open_
    have hX0 := heap_alloc_new w (valBox v IA ic MA mc)
    have c1 := c9_le v.s.length
    obtain ⟨D1, hD1⟩ : ∃ D1, jwtL v.items (tot + (1 + c9 v.s.length)) = D1 := ⟨_, rfl⟩
    obtain ⟨D, hD⟩ : ∃ D, jwtM v.mems D1 = D := ⟨_, rfl⟩
    have hdep : jwt v tot = D := by rw [jwt_form, hD1, hD]
    rw [hdep]
    have hd1 : D1 ≤ 45001 := by rw [← hD1]; exact jwtL_le _ _ (by omega)
    have hd2 : D ≤ 45001 := by rw [← hD]; exact jwtM_le _ _ hd1
    have HI := Lib.hid hi
    have HM := Lib.hid hm
    have HIH := Lib.hid ih
    have HS := Lib.hid hs
    have HFI := Lib.hid hfi
    have HFM := Lib.hid hfm
    have HD1 := Lib.hid hD1
    have HD := Lib.hid hD
    have HX0 := Lib.hid hX0
    clear hi hm ih hs hf hfi hfm hv hD1 hD hdep hX0
    go_enter Tryd.func19, Tryd.ntmps19
    go_wp2_with fail
    go_loopw [1, 19] (fun s1 i19 wr => ∃ (i a : Nat), i ≤ v.items.length ∧ i19 = .int .i64 i ∧ s1 = .int .i64 a ∧ a ≤ 45001 ∧ jwtL (v.items.drop i) a = D1 ∧ Below w.heap.size w wr ∧ wr.heap[w.heap.size]? = some (valBox v IA ic MA mc)) (fun _ i19 _ => v.items.length - (intOf i19).toNat)
    case atStart => exact ⟨0, tot + (1 + c9 v.s.length), Nat.zero_le _, rfl, val_int (by omega), by omega, by have := HD1.out; simpa using this, (Below.refl _ _).alloc (Nat.le_refl _) _, HX0.out⟩
    case round =>
      obtain ⟨i, a, hi, rfl, rfl, ha, hres, hb, hX⟩ := hrel
      have HB := Lib.hid hb
      have HX := Lib.hid hX
      have hsz := heap_lt hX
      obtain ⟨k0, k1, k2, k3, k4, k5, k6⟩ := jbox_cells hX
      clear hb hX
      by_cases hlt : i < v.items.length
      · have hlt' : (i : Int) < v.items.length := by omega
        have hjz := jsz_item (List.getElem_mem hlt)
        have hfx := HFI.out _ (List.getElem_mem hlt)
        obtain ⟨b, off, cs, rfl, hbl, hr, hcs⟩ := HI.out.at_ hlt
        have hr1 := rangeAt_keep hr (HB.out.block b hbl)
        have hcs1 := ValP.keep (fun k hk => HB.out.block k hk) (fun k hk => Nat.lt_of_lt_of_le hk HB.out.size) _ _ hcs
        by_cases hbig : 9000 < a
        · have hbig' : (9000 : Int) < a := by omega
          have hfin : a = D := by
            have h1 := hres; rw [jwtL_stop hbig] at h1
            have h2 := HD.out; rw [← h1, jwtM_stop hbig] at h2; exact h2
          generalize v.items[i] = x at *
          obtain ⟨NA, nc, NM, nd, rfl, _, _, _, _⟩ := hcs.open_
          have HR1 := Lib.hid hr1
          have HF2 := Lib.hid hfin
          clear hr hr1 hcs hcs1 hjz hfx hres hfin
          go_wp2_with (with_reducible refine gate ?_; refine wp_load_val rfl _ rfl b (off + i * 7) rfl _ rfl HR1.out ?_)
          go_ret
          exact ⟨ret_int (by rw [HF2.out]), HB.out.trans ((Below.refl _ _).alloc (by omega) _)⟩
        · have hbig' : ¬ (9000 : Int) < a := by omega
          rw [jwtL_step hlt hbig] at hres
          generalize v.items[i] = x at *
          obtain ⟨NA, nc, NM, nd, rfl, _, _, _, _⟩ := hcs.open_
          have hcall := fun W => fun (hW : Below wr.heap.size wr W) => HIH.out x _ a W (by have := HS.out; omega) hfx (by omega) ⟨_, rfl, ValP.keep (fun k hk => hW.block k hk) (fun k hk => Nat.lt_of_lt_of_le hk hW.size) _ _ hcs1⟩
          have hdx := jwt_le x a (by omega)
          generalize jwt x a = dx at *
          have HC := Lib.hid hcall
          have HR1 := Lib.hid hr1
          have HRR := Lib.hid hres
          clear hr hr1 hcs hcs1 hcall hjz hfx hres
          go_wp2_with (first
            | (with_reducible refine gate ?_; refine wp_load_val rfl _ rfl b (off + i * 7) rfl _ rfl HR1.out ?_)
            | (go_at_call 19; refine (HC.out _ ((Below.refl _ _).alloc (Nat.le_refl _) _)).mono ?_; rintro e w3 ⟨rfl, hb3⟩))
          have hb4 : Below wr.heap.size wr w3 := ((Below.refl _ _).alloc (Nat.le_refl _) _).trans (hb3.mono (by simp))
          have HB4 := Lib.hid hb4
          clear hb3 hb4
          go_roundw
          case rel => exact ⟨i + 1, dx, by omega, by go_num, rfl, hdx, HRR.out, HB.out.trans (HB4.out.mono HB.out.size), (HB4.out.block _ hsz).trans HX.out⟩
          case measure => simp [intOf]; omega
      · obtain rfl : i = v.items.length := by omega
        rw [List.drop_length, jwtL] at hres
        subst hres
        clear HD1
        go_wp2_with fail
        clear k0 k1 k2 k3 k4 k5 k6
        go_loopw [1, 33] (fun s1 i33 wr => ∃ (i c : Nat), i ≤ v.mems.length ∧ i33 = .int .i64 i ∧ s1 = .int .i64 c ∧ c ≤ 45001 ∧ jwtM (v.mems.drop i) c = D ∧ Below w.heap.size w wr ∧ wr.heap[w.heap.size]? = some (valBox v IA ic MA mc)) (fun _ i33 _ => v.mems.length - (intOf i33).toNat)
        case atStart => exact ⟨0, a, Nat.zero_le _, rfl, rfl, hd1, by have := HD.out; simpa using this, HB.out, HX.out⟩
        case round =>
          obtain ⟨i, c, hi, rfl, rfl, hc, hres, hb, hX⟩ := hrel
          have HB := Lib.hid hb
          have HX := Lib.hid hX
          have hsz := heap_lt hX
          obtain ⟨k0, k1, k2, k3, k4, k5, k6⟩ := jbox_cells hX
          clear hb hX
          by_cases hlt : i < v.mems.length
          · have hlt' : (i : Int) < v.mems.length := by omega
            have hjz := jsz_mem (List.getElem_mem hlt)
            have hfx := HFM.out _ (List.getElem_mem hlt)
            obtain ⟨b, off, cs, rfl, hbl, hr, hcs⟩ := HM.out.at_ hlt
            have hr1 := rangeAt_keep hr (HB.out.block b hbl)
            have hcs1 := MemP.keep (fun k hk => HB.out.block k hk) (fun k hk => Nat.lt_of_lt_of_le hk HB.out.size) hcs
            by_cases hbig : 9000 < c
            · have hbig' : (9000 : Int) < c := by omega
              have hfin : c = D := by rw [← hres, jwtM_stop hbig]
              generalize v.mems[i] = x at *
              obtain ⟨vs, hvs, hcse⟩ := hcs1
              obtain ⟨NA, nc, NM, nd, hvse, _, _, _, _⟩ := hvs.open_
              subst hvse
              simp only [List.cons_append, List.nil_append] at hcse
              subst hcse
              have HR1 := Lib.hid hr1
              have HF2 := Lib.hid hfin
              clear hr hr1 hcs hvs hjz hfx hres hfin
              go_wp2_with (with_reducible refine gate ?_; refine wp_load_mem rfl _ rfl b (off + i * 9) rfl _ rfl HR1.out ?_)
              go_ret
              exact ⟨ret_int (by rw [HF2.out]), HB.out.trans ((Below.refl _ _).alloc (by omega) _)⟩
            · have hbig' : ¬ (9000 : Int) < c := by omega
              rw [jwtM_step hlt hbig] at hres
              generalize v.mems[i] = x at *
              obtain ⟨vs, hvs, hcse⟩ := hcs1
              obtain ⟨NA, nc, NM, nd, hvse, _, _, _, _⟩ := hvs.open_
              subst hvse
              simp only [List.cons_append, List.nil_append] at hcse
              subst hcse
              have c2 := c9_le x.key.length
              have hcall := fun W => fun (hW : Below wr.heap.size wr W) => HIH.out x.val _ (c + c9 x.key.length) W (by have := HS.out; omega) hfx (by omega) ⟨_, rfl, ValP.keep (fun k hk => hW.block k hk) (fun k hk => Nat.lt_of_lt_of_le hk hW.size) _ _ hvs⟩
              have hr2 : (wr.alloc (.cells #[.string (S x.key), .int .i64 x.val.kind, .bool x.val.b, .int .i64 x.val.n, .string (S x.val.s), .slice NA x.val.items.length nc, .slice NM x.val.mems.length nd, .int .i64 x.val.pos, .int .i64 x.pos] 45)).rangeAt wr.heap.size (0 + 1) [.int .i64 x.val.kind, .bool x.val.b, .int .i64 x.val.n, .string (S x.val.s), .slice NA x.val.items.length nc, .slice NM x.val.mems.length nd, .int .i64 x.val.pos] :=
                mem_cells_val (range_of_heap (heap_alloc_new wr _))
              have hdx := jwt_le x.val (c + c9 x.key.length) (by omega)
              generalize jwt x.val (c + c9 x.key.length) = dx at *
              have ec : ((c + c9 x.key.length : Nat) : Int) = (c : Int) + (c9 x.key.length : Nat) := by omega
              rw [ec] at hcall
              have HC := Lib.hid hcall
              have HR1 := Lib.hid hr1
              have HR2 := Lib.hid hr2
              have HRR := Lib.hid hres
              clear hr hr1 hr2 hcs hvs hcall hjz hfx hres ec
              go_wp2_with (first
                | (with_reducible refine gate ?_; refine wp_load_mem rfl _ rfl b (off + i * 9) rfl _ rfl HR1.out ?_)
                | (with_reducible refine gate ?_; refine wp_load_val rfl _ rfl wr.heap.size (0 + 1) rfl _ rfl HR2.out ?_)
                | (go_at_call 19; refine (HC.out _ ((Below.refl _ _).alloc (Nat.le_refl _) _)).mono ?_; rintro e w3 ⟨rfl, hb3⟩))
              have hb4 : Below wr.heap.size wr w3 := ((Below.refl _ _).alloc (Nat.le_refl _) _).trans (hb3.mono (by simp))
              have HB4 := Lib.hid hb4
              clear hb3 hb4
              go_roundw
              case rel => exact ⟨i + 1, dx, by omega, by go_num, rfl, hdx, HRR.out, HB.out.trans (HB4.out.mono HB.out.size), (HB4.out.block _ hsz).trans HX.out⟩
              case measure => simp [intOf]; omega
          · obtain rfl : i = v.mems.length := by omega
            rw [List.drop_length, jwtM] at hres
            subst hres
            go_wp2_with fail
            go_ret
            exact ⟨rfl, HB.out⟩

def bigJ (v : JV) : Int := if 5000 < jwt v 0 then 1 else 0
theorem bigJ_cases (v : JV) : bigJ v = 1 ∨ (bigJ v = 0 ∧ jful v ≤ 5000) := by
  unfold bigJ
  split
  · exact .inl rfl
  · exact .inr ⟨rfl, by have := jful_le v 0 (by omega); omega⟩
set_option maxHeartbeats 1000000 in
theorem tooLarge12_any (v : JV) (u : Value) (w : World) (hf : JFit v) (hv : ValV w (· < w.heap.size) v u) :
    Calls Tryd.prog 6 #[u] w fun e w' => e = .returned (.int .i64 (bigJ v)) ∧ Below w.heap.size w w' := by
  have hv' := fun W => fun (hW : Below w.heap.size w W) => weight12_any _ v u 0 W (Nat.le_refl _) hf (by omega) (hv.keep (fun k hk => hW.block k hk) (fun k hk => Nat.lt_of_lt_of_le hk hW.size))
  obtain ⟨IA, ic, MA, mc, rfl, hi, hm, hic, hmc⟩ := hv.open_
  have HV := Lib.hid hv'
  clear hv' hv hi hm hf
  unfold bigJ
  generalize jwt v 0 = g at *
  by_cases h : 5000 < g
  · have h' : (5000 : Int) < g := by omega
    rw [if_pos h]
    clear h
    go_enter Tryd.func6, Tryd.ntmps6
    go_wp2_with (go_at_call 19; refine (HV.out _ ((Below.refl _ _).alloc (Nat.le_refl _) _)).mono ?_; rintro e w' ⟨rfl, hb⟩)
    go_ret
    exact ⟨rfl, ((Below.refl _ _).alloc (Nat.le_refl _) _).trans (hb.mono (by simp))⟩
  · have h' : (g : Int) ≤ 5000 := by omega
    rw [if_neg h]
    clear h
    go_enter Tryd.func6, Tryd.ntmps6
    go_wp2_with (go_at_call 19; refine (HV.out _ ((Below.refl _ _).alloc (Nat.le_refl _) _)).mono ?_; rintro e w' ⟨rfl, hb⟩)
    go_ret
    exact ⟨rfl, ((Below.refl _ _).alloc (Nat.le_refl _) _).trans (hb.mono (by simp))⟩
theorem bigJ_ful {v : JV} (h : ¬ (0 : Int) < bigJ v) : jful v ≤ 5000 := by
  unfold bigJ at h
  split at h
  · simp at h
  · have := jful_le v 0 (by omega); omega
end Go.Proofs.YthlppbpccldikaaDoor
