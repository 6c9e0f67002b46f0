/-
  Walks of chapters 11 and 12, the reference: Depth, Check.
-/
import Derived.Test.YtadkgjbidhfefaaDoorRefJ1
set_option linter.unusedVariables false
namespace Go.Proofs.YtadkgjbidhfefaaDoor
open Go.RowKit

mutual
theorem jdep_le : ∀ v : JV, jdep v ≤ jful v
  | .mk k b n s is ms p => by
    rw [jdep, jful]
    have h1 := jdepL_le is
    have h2 := jdepM_le ms
    split <;> split <;> omega
theorem jdepL_le : ∀ l : List JV, jdepL l ≤ jfulL l
  | [] => by rw [jdepL]; omega
  | v :: l => by rw [jdepL, jfulL]; have := jdep_le v; have := jdepL_le l; omega
theorem jdepM_le : ∀ l : List JM, jdepM l ≤ jfulM l
  | [] => by rw [jdepM]; omega
  | .mk k v p :: l => by rw [jdepM, jfulM]; have := jdep_le v; have := jdepM_le l; omega
end
theorem jdepL_step {l : List JV} {i a : Nat} (h : i < l.length) : max a (jdepL (l.drop i)) = max (max a (jdep l[i])) (jdepL (l.drop (i + 1))) := by
  rw [List.drop_eq_getElem_cons h, jdepL]; omega
theorem jdepM_step {l : List JM} {i a : Nat} (h : i < l.length) : max a (jdepM (l.drop i)) = max (max a (jdep l[i].val)) (jdepM (l.drop (i + 1))) := by
  rw [List.drop_eq_getElem_cons h]
  cases hx : l[i] with
  | mk k v p => rw [jdepM]; simp only [JM.val]; omega
theorem mem_cells_val {w : World} {b o : Nat} {m : JM} {NA NM : Option Addr} {nc nd : Nat} (h : w.rangeAt b o [.string (S m.key), .int .i64 m.val.kind, .bool m.val.b, .int .i64 m.val.n, .string (S m.val.s), .slice NA m.val.items.length nc, .slice NM m.val.mems.length nd, .int .i64 m.val.pos, .int .i64 m.pos]) :
    w.rangeAt b (o + 1) [.int .i64 m.val.kind, .bool m.val.b, .int .i64 m.val.n, .string (S m.val.s), .slice NA m.val.items.length nc, .slice NM m.val.mems.length nd, .int .i64 m.val.pos] := fun j u hj => by
  have := h (j + 1) u (by
    rw [List.getElem?_cons_succ]
    have hj7 : j < 7 := (List.getElem?_eq_some_iff.1 hj).1
    match j, hj7, hj with
    | 0, _, hj => exact hj
    | 1, _, hj => exact hj
    | 2, _, hj => exact hj
    | 3, _, hj => exact hj
    | 4, _, hj => exact hj
    | 5, _, hj => exact hj
    | 6, _, hj => exact hj)
  rw [show o + 1 + j = o + (j + 1) by omega]
  exact this

set_option maxHeartbeats 4000000 in
set_option maxRecDepth 100000 in
theorem refDepth11_any (s : Nat) : ∀ (v : JV) (u : Value) (w : World), jsz v ≤ s → jful v ≤ 1000000 → ValV w (· < w.heap.size) v u →
    Calls Tryd.prog 58 #[u] w fun e w' => e = .returned (.int .i64 (jdep v : Nat)) ∧ Below w.heap.size w w' := by
  induction s with
  | zero => intro v u w h; have := jsz_pos v; omega
  | succ s ih =>
    intro v u w hs hf hv
    have hfm := jful_form v
    obtain ⟨IA, ic, MA, mc, rfl, hi, hm, hic, hmc⟩ := hv.open_
    have hil := jfulL_len v.items
    have hml := jfulM_len v.mems
    have hdl := jdepL_le v.items
    have hdm := jdepM_le v.mems
    have hX0 := heap_alloc_new w (valBox v IA ic MA mc)
    obtain ⟨D1, hD1⟩ : ∃ D1, (if v.kind = 4 then jdepL v.items else 0) = D1 := ⟨_, rfl⟩
    obtain ⟨D, hD⟩ : ∃ D, max D1 (if v.kind = 5 then jdepM v.mems else 0) = D := ⟨_, rfl⟩
    have hdep : jdep v = D + 1 := by rw [jdep_form, hD1, hD]
    rw [hdep]
    have hd1 : D1 ≤ 1000000 := by rw [← hD1]; split <;> omega
    have hd2 : D ≤ 1000000 := by rw [← hD]; split <;> omega
    have hil2 : v.items.length ≤ 1000000 := by omega
    have hml2 : v.mems.length ≤ 1000000 := by omega
    have HI := Lib.hid hi
    have HM := Lib.hid hm
    have HIH := Lib.hid ih
    have HS := Lib.hid hs
    have HF := Lib.hid hf
    have HFM := Lib.hid hfm
    have HD1 := Lib.hid hD1
    have HD := Lib.hid hD
    have HX0 := Lib.hid hX0
    clear hi hm ih hs hf hfm hv hD1 hD hdep hdl hdm hX0 hil hml
    go_enter Tryd.func58, Tryd.ntmps58
    go_wp2_with fail
    go_loopw [3, 4] (fun s3 i4 wr => ∃ (i a : Nat), i ≤ v.items.length ∧ i4 = .int .i64 i ∧ s3 = .int .i64 a ∧ a ≤ 1000000 ∧ max a (if v.kind = 4 then jdepL (v.items.drop i) else 0) = D1 ∧ Below w.heap.size w wr ∧ wr.heap[w.heap.size]? = some (valBox v IA ic MA mc)) (fun _ i4 _ => v.items.length - (intOf i4).toNat)
    case atStart => exact ⟨0, 0, Nat.zero_le _, rfl, rfl, by omega, by have := HD1.out; simpa using this, (Below.refl _ _).alloc (Nat.le_refl _) _, HX0.out⟩
    case round =>
      obtain ⟨i, a, hi, rfl, rfl, ha, hres, hb, hX⟩ := hrel
      have HB := Lib.hid hb
      have HX := Lib.hid hX
      have hsz := heap_lt hX
      obtain ⟨k0, k1, k2, k3, k4, k5, k6⟩ := jbox_cells hX
      clear hb hX
      by_cases hgo : i < v.items.length ∧ v.kind = 4
      · obtain ⟨hlt, h4⟩ := hgo
        have t4 : (v.kind == 4) = true := by rw [h4]; rfl
        have hlt' : (i : Int) < v.items.length := by omega
        rw [if_pos h4, jdepL_step hlt] at hres
        have hjz := jsz_item (List.getElem_mem hlt)
        have hjf := jfulL_mem (List.getElem_mem hlt)
        obtain ⟨b, off, cs, rfl, hbl, hr, hcs⟩ := HI.out.at_ hlt
        have hr1 := rangeAt_keep hr (HB.out.block b hbl)
        have hcs1 := ValP.keep (fun k hk => HB.out.block k hk) (fun k hk => Nat.lt_of_lt_of_le hk HB.out.size) _ _ hcs
        generalize v.items[i] = x at *
        obtain ⟨NA, nc, NM, nd, rfl, _, _, _, _⟩ := hcs.open_
        have hcall := HIH.out x _ wr (by have := HS.out; omega) (by have := HF.out; have := HFM.out; omega) ⟨_, rfl, hcs1⟩
        have hdx := jdep_le x
        have hdx2 : jdep x ≤ 1000000 := by have := HF.out; have := HFM.out; omega
        generalize jdep x = dx at *
        have hres2 : max (max a dx) (if v.kind = 4 then jdepL (v.items.drop (i + 1)) else 0) = D1 := by rw [if_pos h4]; exact hres
        have HC := Lib.hid hcall
        have HR1 := Lib.hid hr1
        have HRR := Lib.hid hres2
        clear hr hr1 hcs hcs1 hcall hjz hjf hres hres2 hdx h4
        go_wp2_with (first
          | (with_reducible refine gate ?_; refine wp_load_val rfl _ rfl b (off + i * 7) rfl _ rfl HR1.out ?_)
          | (go_at_call 58; refine HC.out.mono ?_; rintro e w3 ⟨rfl, hb3⟩))
        go_roundw
        case rel => exact ⟨i + 1, max a dx, by omega, by go_num, val_int (by omega), by omega, HRR.out, HB.out.trans (hb3.mono HB.out.size), (hb3.block _ hsz).trans HX.out⟩
        case measure => simp [intOf]; omega
      · have hex : a = D1 := by
          rw [← hres]
          by_cases h4 : v.kind = 4
          · have hlen : i = v.items.length := by
              rcases Nat.lt_or_ge i v.items.length with h | h
              · exact absurd ⟨h, h4⟩ hgo
              · omega
            rw [if_pos h4, hlen, List.drop_length, jdepL]; omega
          · rw [if_neg h4]; omega
        subst hex
        have hway : (¬ (i : Int) < v.items.length) ∨ ((i : Int) < v.items.length ∧ (v.kind == 4) = false) := by
          by_cases h : i < v.items.length
          · exact .inr ⟨by omega, by rw [beq_eq_false_iff_ne]; exact fun e => hgo ⟨h, e⟩⟩
          · exact .inl (by omega)
        clear hgo hres HD1
        rcases hway with q | ⟨q, t4⟩
        all_goals
          go_wp2_with fail
          clear k0 k1 k2 k3 k4 k5 k6 q
          go_loopw [3, 5] (fun s3 i5 wr => ∃ (i c : Nat), i ≤ v.mems.length ∧ i5 = .int .i64 i ∧ s3 = .int .i64 c ∧ c ≤ 1000000 ∧ max c (if v.kind = 5 then jdepM (v.mems.drop i) else 0) = D ∧ Below w.heap.size w wr ∧ wr.heap[w.heap.size]? = some (valBox v IA ic MA mc)) (fun _ i5 _ => v.mems.length - (intOf i5).toNat)
          case atStart => exact ⟨0, a, Nat.zero_le _, rfl, rfl, hd1, by have := HD.out; simpa using this, HB.out, HX.out⟩
          case round =>
            obtain ⟨i, c, hi, rfl, rfl, hc, hres, hb, hX⟩ := hrel
            have HB := Lib.hid hb
            have HX := Lib.hid hX
            have hsz := heap_lt hX
            obtain ⟨k0, k1, k2, k3, k4, k5, k6⟩ := jbox_cells hX
            clear hb hX
            by_cases hgo : i < v.mems.length ∧ v.kind = 5
            · obtain ⟨hlt, h5⟩ := hgo
              have t5 : (v.kind == 5) = true := by rw [h5]; rfl
              have hlt' : (i : Int) < v.mems.length := by omega
              rw [if_pos h5, jdepM_step hlt] at hres
              have hjz := jsz_mem (List.getElem_mem hlt)
              have hjf := jfulM_mem (List.getElem_mem hlt)
              obtain ⟨b, off, cs, rfl, hbl, hr, hcs⟩ := HM.out.at_ hlt
              have hr1 := rangeAt_keep hr (HB.out.block b hbl)
              have hcs1 := MemP.keep (fun k hk => HB.out.block k hk) (fun k hk => Nat.lt_of_lt_of_le hk HB.out.size) hcs
              generalize v.mems[i] = x at *
              obtain ⟨vs, hvs, hcse⟩ := hcs1
              obtain ⟨NA, nc, NM, nd, hvse, _, _, _, _⟩ := hvs.open_
              subst hvse
              simp only [List.cons_append, List.nil_append] at hcse
              subst hcse
              have hr2 := mem_cells_val hr1
              have hcall := HIH.out x.val _ wr (by have := HS.out; omega) (by have := HF.out; have := HFM.out; omega) ⟨_, rfl, hvs⟩
              have hdx := jdep_le x.val
              have hdx2 : jdep x.val ≤ 1000000 := by have := HF.out; have := HFM.out; omega
              generalize jdep x.val = dx at *
              have hres2 : max (max c dx) (if v.kind = 5 then jdepM (v.mems.drop (i + 1)) else 0) = D := by rw [if_pos h5]; exact hres
              have HC := Lib.hid hcall
              have HR1 := Lib.hid hr2
              have HRR := Lib.hid hres2
              clear hr hr1 hr2 hcs hvs hcall hjz hjf hres hres2 hdx h5
              go_wp2_with (first
                | (with_reducible refine gate ?_; refine wp_load_val rfl _ rfl b (off + i * 9 + 1) rfl _ rfl HR1.out ?_)
                | (go_at_call 58; refine HC.out.mono ?_; rintro e w3 ⟨rfl, hb3⟩))
              go_roundw
              case rel => exact ⟨i + 1, max c dx, by omega, by go_num, val_int (by omega), by omega, HRR.out, HB.out.trans (hb3.mono HB.out.size), (hb3.block _ hsz).trans HX.out⟩
              case measure => simp [intOf]; omega
            · have hex : c = D := by
                rw [← hres]
                by_cases h5 : v.kind = 5
                · have hlen : i = v.mems.length := by
                    rcases Nat.lt_or_ge i v.mems.length with h | h
                    · exact absurd ⟨h, h5⟩ hgo
                    · omega
                  rw [if_pos h5, hlen, List.drop_length, jdepM]; omega
                · rw [if_neg h5]; omega
              subst hex
              have hway : (¬ (i : Int) < v.mems.length) ∨ ((i : Int) < v.mems.length ∧ (v.kind == 5) = false) := by
                by_cases h : i < v.mems.length
                · exact .inr ⟨by omega, by rw [beq_eq_false_iff_ne]; exact fun e => hgo ⟨h, e⟩⟩
                · exact .inl (by omega)
              clear hgo hres HD
              rcases hway with q | ⟨q, t5⟩
              all_goals
                go_wp2_with fail
                go_ret
                exact ⟨ret_int (by omega), HB.out⟩
end Go.Proofs.YtadkgjbidhfefaaDoor
