/-
  Several texts in one file, in build order:
  - Walks of chapters 11 and 12, the reference: Depth, Check.
  - Plain laws of chapter 11: a JSON text within another one. No program.
  - Plain laws of chapter 11: white space around a text and between the brackets around it. No program.
-/
import Derived.Test.YthlppbpccldikaaDoorH13
import Derived.Test.YthlppbpccldikaaDoorH5
import Derived.Test.YthlppbpccldikaaDoorH3
set_option linter.unusedVariables false
namespace Go.Proofs.YthlppbpccldikaaDoor
open Go.RowKit

mutual
theorem jdep_le : ∀ v : JV, jdep v ≤ jful v
  | .mk k b n s is ms p => by
    rw [jdep, jful]
    have h1 := jdepL_le is
    have h2 := jdepM_le ms
    split <;> split <;> omega
theorem jdepL_le : ∀ l : List JV, jdepL l ≤ jfulL l
  | [] => by rw [jdepL]; omega
  | v :: l => by rw [jdepL, jfulL]; have := jdep_le v; have := jdepL_le l; omega
theorem jdepM_le : ∀ l : List JM, jdepM l ≤ jfulM l
  | [] => by rw [jdepM]; omega
  | .mk k v p :: l => by rw [jdepM, jfulM]; have := jdep_le v; have := jdepM_le l; omega
end
theorem jdepL_step {l : List JV} {i a : Nat} (h : i < l.length) : max a (jdepL (l.drop i)) = max (max a (jdep l[i])) (jdepL (l.drop (i + 1))) := by
  rw [List.drop_eq_getElem_cons h, jdepL]; omega
theorem jdepM_step {l : List JM} {i a : Nat} (h : i < l.length) : max a (jdepM (l.drop i)) = max (max a (jdep l[i].val)) (jdepM (l.drop (i + 1))) := by
  rw [List.drop_eq_getElem_cons h]
  cases hx : l[i] with
  | mk k v p => rw [jdepM]; simp only [JM.val]; omega
theorem mem_cells_val {w : World} {b o : Nat} {m : JM} {NA NM : Option Addr} {nc nd : Nat} (h : w.rangeAt b o [.string (S m.key), .int .i64 m.val.kind, .bool m.val.b, .int .i64 m.val.n, .string (S m.val.s), .slice NA m.val.items.length nc, .slice NM m.val.mems.length nd, .int .i64 m.val.pos, .int .i64 m.pos]) :
    w.rangeAt b (o + 1) [.int .i64 m.val.kind, .bool m.val.b, .int .i64 m.val.n, .string (S m.val.s), .slice NA m.val.items.length nc, .slice NM m.val.mems.length nd, .int .i64 m.val.pos] := fun j u hj => by
  have := h (j + 1) u (by
    rw [List.getElem?_cons_succ]
    have hj7 : j < 7 := (List.getElem?_eq_some_iff.1 hj).1
    match j, hj7, hj with
    | 0, _, hj => exact hj
    | 1, _, hj => exact hj
    | 2, _, hj => exact hj
    | 3, _, hj => exact hj
    | 4, _, hj => exact hj
    | 5, _, hj => exact hj
    | 6, _, hj => exact hj)
  rw [show o + 1 + j = o + (j + 1) by omega]
  exact this

set_option maxHeartbeats 4000000 in
set_option maxRecDepth 100000 in
theorem refDepth11_any (s : Nat) : ∀ (v : JV) (u : Value) (w : World), jsz v ≤ s → jful v ≤ 1000000 → ValV w (· < w.heap.size) v u →
    Calls Tryd.prog 13 #[u] w fun e w' => e = .returned (.int .i64 (jdep v : Nat)) ∧ Below w.heap.size w w' := by
  induction s with
  | zero => intro v u w h; have := jsz_pos v; omega
  | succ s ih =>
    intro v u w hs hf hv
    have hfm := jful_form v
    obtain ⟨IA, ic, MA, mc, rfl, hi, hm, hic, hmc⟩ := hv.open_
    have hil := jfulL_len v.items
    have hml := jfulM_len v.mems
    have hdl := jdepL_le v.items
    have hdm := jdepM_le v.mems
    have hX0 := heap_alloc_new w (valBox v IA ic MA mc)
    obtain ⟨D1, hD1⟩ : ∃ D1, (if v.kind = 4 then jdepL v.items else 0) = D1 := ⟨_, rfl⟩
    obtain ⟨D, hD⟩ : ∃ D, max D1 (if v.kind = 5 then jdepM v.mems else 0) = D := ⟨_, rfl⟩
    have hdep : jdep v = D + 1 := by rw [jdep_form, hD1, hD]
    rw [hdep]
    have hd1 : D1 ≤ 1000000 := by rw [← hD1]; split <;> omega
    have hd2 : D ≤ 1000000 := by rw [← hD]; split <;> omega
    have hil2 : v.items.length ≤ 1000000 := by omega
    have hml2 : v.mems.length ≤ 1000000 := by omega
    have HI := Lib.hid hi
    have HM := Lib.hid hm
    have HIH := Lib.hid ih
    have HS := Lib.hid hs
    have HF := Lib.hid hf
    have HFM := Lib.hid hfm
    have HD1 := Lib.hid hD1
    have HD := Lib.hid hD
    have HX0 := Lib.hid hX0
    clear hi hm ih hs hf hfm hv hD1 hD hdep hdl hdm hX0 hil hml
    go_enter Tryd.func13, Tryd.ntmps13
    go_wp2_with fail
    go_loopw [3, 4] (fun s3 i4 wr => ∃ (i a : Nat), i ≤ v.items.length ∧ i4 = .int .i64 i ∧ s3 = .int .i64 a ∧ a ≤ 1000000 ∧ max a (if v.kind = 4 then jdepL (v.items.drop i) else 0) = D1 ∧ Below w.heap.size w wr ∧ wr.heap[w.heap.size]? = some (valBox v IA ic MA mc)) (fun _ i4 _ => v.items.length - (intOf i4).toNat)
    case atStart => exact ⟨0, 0, Nat.zero_le _, rfl, rfl, by omega, by have := HD1.out; simpa using this, (Below.refl _ _).alloc (Nat.le_refl _) _, HX0.out⟩
    case round =>
      obtain ⟨i, a, hi, rfl, rfl, ha, hres, hb, hX⟩ := hrel
      have HB := Lib.hid hb
      have HX := Lib.hid hX
      have hsz := heap_lt hX
      obtain ⟨k0, k1, k2, k3, k4, k5, k6⟩ := jbox_cells hX
      clear hb hX
      by_cases hgo : i < v.items.length ∧ v.kind = 4
      · obtain ⟨hlt, h4⟩ := hgo
        have t4 : (v.kind == 4) = true := by rw [h4]; rfl
        have hlt' : (i : Int) < v.items.length := by omega
        rw [if_pos h4, jdepL_step hlt] at hres
        have hjz := jsz_item (List.getElem_mem hlt)
        have hjf := jfulL_mem (List.getElem_mem hlt)
        obtain ⟨b, off, cs, rfl, hbl, hr, hcs⟩ := HI.out.at_ hlt
        have hr1 := rangeAt_keep hr (HB.out.block b hbl)
        have hcs1 := ValP.keep (fun k hk => HB.out.block k hk) (fun k hk => Nat.lt_of_lt_of_le hk HB.out.size) _ _ hcs
        generalize v.items[i] = x at *
        obtain ⟨NA, nc, NM, nd, rfl, _, _, _, _⟩ := hcs.open_
        have hcall := HIH.out x _ wr (by have := HS.out; omega) (by have := HF.out; have := HFM.out; omega) ⟨_, rfl, hcs1⟩
        have hdx := jdep_le x
        have hdx2 : jdep x ≤ 1000000 := by have := HF.out; have := HFM.out; omega
        generalize jdep x = dx at *
        have hres2 : max (max a dx) (if v.kind = 4 then jdepL (v.items.drop (i + 1)) else 0) = D1 := by rw [if_pos h4]; exact hres
        have HC := Lib.hid hcall
        have HR1 := Lib.hid hr1
        have HRR := Lib.hid hres2
        clear hr hr1 hcs hcs1 hcall hjz hjf hres hres2 hdx h4
        go_wp2_with (first
          | (with_reducible refine gate ?_; refine wp_load_val rfl _ rfl b (off + i * 7) rfl _ rfl HR1.out ?_)
          | (go_at_call 13; refine HC.out.mono ?_; rintro e w3 ⟨rfl, hb3⟩))
        go_roundw
        case rel => exact ⟨i + 1, max a dx, by omega, by go_num, val_int (by omega), by omega, HRR.out, HB.out.trans (hb3.mono HB.out.size), (hb3.block _ hsz).trans HX.out⟩
        case measure => simp [intOf]; omega
      · have hex : a = D1 := by
          rw [← hres]
          by_cases h4 : v.kind = 4
          · have hlen : i = v.items.length := by
              rcases Nat.lt_or_ge i v.items.length with h | h
              · exact absurd ⟨h, h4⟩ hgo
              · omega
            rw [if_pos h4, hlen, List.drop_length, jdepL]; omega
          · rw [if_neg h4]; omega
        subst hex
        have hway : (¬ (i : Int) < v.items.length) ∨ ((i : Int) < v.items.length ∧ (v.kind == 4) = false) := by
          by_cases h : i < v.items.length
          · exact .inr ⟨by omega, by rw [beq_eq_false_iff_ne]; exact fun e => hgo ⟨h, e⟩⟩
          · exact .inl (by omega)
        clear hgo hres HD1
        rcases hway with q | ⟨q, t4⟩
        all_goals
          go_wp2_with fail
          clear k0 k1 k2 k3 k4 k5 k6 q
          go_loopw [3, 5] (fun s3 i5 wr => ∃ (i c : Nat), i ≤ v.mems.length ∧ i5 = .int .i64 i ∧ s3 = .int .i64 c ∧ c ≤ 1000000 ∧ max c (if v.kind = 5 then jdepM (v.mems.drop i) else 0) = D ∧ Below w.heap.size w wr ∧ wr.heap[w.heap.size]? = some (valBox v IA ic MA mc)) (fun _ i5 _ => v.mems.length - (intOf i5).toNat)
          case atStart => exact ⟨0, a, Nat.zero_le _, rfl, rfl, hd1, by have := HD.out; simpa using this, HB.out, HX.out⟩
          case round =>
            obtain ⟨i, c, hi, rfl, rfl, hc, hres, hb, hX⟩ := hrel
            have HB := Lib.hid hb
            have HX := Lib.hid hX
            have hsz := heap_lt hX
            obtain ⟨k0, k1, k2, k3, k4, k5, k6⟩ := jbox_cells hX
            clear hb hX
            by_cases hgo : i < v.mems.length ∧ v.kind = 5
            · obtain ⟨hlt, h5⟩ := hgo
              have t5 : (v.kind == 5) = true := by rw [h5]; rfl
              have hlt' : (i : Int) < v.mems.length := by omega
              rw [if_pos h5, jdepM_step hlt] at hres
              have hjz := jsz_mem (List.getElem_mem hlt)
              have hjf := jfulM_mem (List.getElem_mem hlt)
              obtain ⟨b, off, cs, rfl, hbl, hr, hcs⟩ := HM.out.at_ hlt
              have hr1 := rangeAt_keep hr (HB.out.block b hbl)
              have hcs1 := MemP.keep (fun k hk => HB.out.block k hk) (fun k hk => Nat.lt_of_lt_of_le hk HB.out.size) hcs
              generalize v.mems[i] = x at *
              obtain ⟨vs, hvs, hcse⟩ := hcs1
              obtain ⟨NA, nc, NM, nd, hvse, _, _, _, _⟩ := hvs.open_
              subst hvse
              simp only [List.cons_append, List.nil_append] at hcse
              subst hcse
              have hr2 := mem_cells_val hr1
              have hcall := HIH.out x.val _ wr (by have := HS.out; omega) (by have := HF.out; have := HFM.out; omega) ⟨_, rfl, hvs⟩
              have hdx := jdep_le x.val
              have hdx2 : jdep x.val ≤ 1000000 := by have := HF.out; have := HFM.out; omega
              generalize jdep x.val = dx at *
              have hres2 : max (max c dx) (if v.kind = 5 then jdepM (v.mems.drop (i + 1)) else 0) = D := by rw [if_pos h5]; exact hres
              have HC := Lib.hid hcall
              have HR1 := Lib.hid hr2
              have HRR := Lib.hid hres2
              clear hr hr1 hr2 hcs hvs hcall hjz hjf hres hres2 hdx h5
              go_wp2_with (first
                | (with_reducible refine gate ?_; refine wp_load_val rfl _ rfl b (off + i * 9 + 1) rfl _ rfl HR1.out ?_)
                | (go_at_call 13; refine HC.out.mono ?_; rintro e w3 ⟨rfl, hb3⟩))
              go_roundw
              case rel => exact ⟨i + 1, max c dx, by omega, by go_num, val_int (by omega), by omega, HRR.out, HB.out.trans (hb3.mono HB.out.size), (hb3.block _ hsz).trans HX.out⟩
              case measure => simp [intOf]; omega
            · have hex : c = D := by
                rw [← hres]
                by_cases h5 : v.kind = 5
                · have hlen : i = v.mems.length := by
                    rcases Nat.lt_or_ge i v.mems.length with h | h
                    · exact absurd ⟨h, h5⟩ hgo
                    · omega
                  rw [if_pos h5, hlen, List.drop_length, jdepM]; omega
                · rw [if_neg h5]; omega
              subst hex
              have hway : (¬ (i : Int) < v.mems.length) ∨ ((i : Int) < v.mems.length ∧ (v.kind == 5) = false) := by
                by_cases h : i < v.mems.length
                · exact .inr ⟨by omega, by rw [beq_eq_false_iff_ne]; exact fun e => hgo ⟨h, e⟩⟩
                · exact .inl (by omega)
              clear hgo hres HD
              rcases hway with q | ⟨q, t5⟩
              all_goals
                go_wp2_with fail
                go_ret
                exact ⟨ret_int (by omega), HB.out⟩
end Go.Proofs.YthlppbpccldikaaDoor
set_option linter.unusedVariables false
namespace Go.Proofs.YthlppbpccldikaaDoor

/-! Strings ahead of and behind other bytes. -/
theorem hex4_app {l : Bytes} {r : Nat} (y : Bytes) (h : hex4 l = some r) : hex4 (l ++ y) = some r := by
  have hl := (hex4_le h).2
  unfold hex4 at h ⊢
  rw [getD_app y (by omega), getD_app y (by omega), getD_app y (by omega), getD_app y (by omega)]
  split at h
  · rename_i hh
    rw [if_pos ⟨by simp; omega, hh.2⟩]; exact h
  · cases h
theorem unitJ_app {l : Bytes} {r : Nat} (y : Bytes) (h : unitJ l = some r) : unitJ (l ++ y) = some r := by
  have hl := (unitJ_le h).2
  unfold unitJ at h ⊢
  rw [getD_app y (by omega), getD_app y (by omega), drop_app (by omega)]
  split at h
  · rename_i hh
    rw [if_pos ⟨by simp; omega, hh.2⟩]; exact hex4_app y h
  · cases h
theorem seqJ_app {l : Bytes} {r : Nat × Nat} (y : Bytes) (hl : 2 ≤ l.length) (h : seqJ l = some r) : seqJ (l ++ y) = some r := by
  unfold seqJ at h ⊢
  rw [getD_app y (by omega)]
  by_cases h1 : l.getD 1 0 = 34 ∨ l.getD 1 0 = 92 ∨ l.getD 1 0 = 47
  · rw [if_pos h1] at h ⊢; exact h
  rw [if_neg h1] at h ⊢
  by_cases h2 : l.getD 1 0 = 98
  · rw [if_pos h2] at h ⊢; exact h
  rw [if_neg h2] at h ⊢
  by_cases h3 : l.getD 1 0 = 102
  · rw [if_pos h3] at h ⊢; exact h
  rw [if_neg h3] at h ⊢
  by_cases h4 : l.getD 1 0 = 110
  · rw [if_pos h4] at h ⊢; exact h
  rw [if_neg h4] at h ⊢
  by_cases h5 : l.getD 1 0 = 114
  · rw [if_pos h5] at h ⊢; exact h
  rw [if_neg h5] at h ⊢
  by_cases h6 : l.getD 1 0 = 116
  · rw [if_pos h6] at h ⊢; exact h
  rw [if_neg h6] at h ⊢
  cases hu : unitJ l with
  | none => rw [hu] at h; cases h
  | some u =>
    rw [hu] at h
    rw [unitJ_app y hu]
    have hlu := (unitJ_le hu).2
    simp only at h ⊢
    split
    · rename_i hh; rw [if_pos hh] at h; cases h
    · rename_i hh
      rw [if_neg hh] at h
      split
      · rename_i h7; rw [if_pos h7] at h; exact h
      · rename_i h7
        rw [if_neg h7] at h
        cases hv : unitJ (l.drop 6) with
        | none => rw [hv] at h; cases h
        | some v =>
          rw [hv] at h
          rw [drop_app (by omega), unitJ_app y hv]
          exact h
theorem jstrS_app (a : Nat) (y : Bytes) : ∀ (m k : Nat) (l : Bytes) (n : Nat) (r : Bytes × Nat), l.length ≤ m → jstrS a k l n = .ok r → jstrS a k (l ++ y) n = .ok r
  | m, _, [], n, r, hm, h => by rw [jstrS] at h; cases h
  | 0, _, c :: t, n, r, hm, h => by simp at hm
  | m + 1, k + 1, c :: t, n, r, hm, h => by
    rw [jstrS] at h
    rw [List.cons_append, jstrS]
    exact jstrS_app a y m k t (n + 1) r (by simpa using hm) h
  | m + 1, 0, c :: t, n, r, hm, h => by
    rw [jstrS] at h
    by_cases hd : (dec (c :: t)).2 = 0
    · rw [if_pos hd] at h; cases h
    rw [if_neg hd] at h
    have hdd := dec_app hd y
    rw [List.cons_append] at hdd ⊢
    rw [jstrS, hdd, if_neg hd]
    by_cases h1 : (dec (c :: t)).1 < 32
    · rw [if_pos h1] at h; cases h
    rw [if_neg h1] at h ⊢
    by_cases h2 : (dec (c :: t)).1 = 34
    · rw [if_pos h2] at h ⊢; exact h
    rw [if_neg h2] at h ⊢
    by_cases h3 : (dec (c :: t)).1 = 92
    · rw [if_pos h3] at h ⊢
      by_cases h4 : t = []
      · rw [if_pos h4] at h; cases h
      rw [if_neg h4] at h
      rw [if_neg (by simp [h4])]
      cases hs : seqJ (c :: t) with
      | none => rw [hs] at h; cases h
      | some q =>
        obtain ⟨x, w⟩ := q
        have hp := List.length_pos_iff.2 h4
        have hsa := seqJ_app y (by simp only [List.length_cons]; omega) hs
        rw [List.cons_append] at hsa
        rw [hs] at h
        rw [hsa]
        simp only at h ⊢
        cases hr : jstrS a (w - 1) t (n + 1) with
        | error e => rw [hr] at h; cases h
        | ok p =>
          rw [jstrS_app a y m _ t (n + 1) p (by simpa using hm) hr]
          rw [hr] at h
          exact h
    · rw [if_neg h3] at h ⊢
      cases hr : jstrS a ((dec (c :: t)).2 - 1) t (n + 1) with
      | error e => rw [hr] at h; cases h
      | ok p =>
        rw [jstrS_app a y m _ t (n + 1) p (by simpa using hm) hr]
        rw [hr] at h
        exact h
theorem jstrS_sh (d a : Nat) : ∀ (m k : Nat) (l : Bytes) (n : Nat) (s : Bytes) (e : Nat), l.length ≤ m → jstrS a k l n = .ok (s, e) → jstrS (d + a) k l (d + n) = .ok (s, d + e)
  | m, _, [], n, s, e, hm, h => by rw [jstrS] at h; cases h
  | 0, _, c :: t, n, s, e, hm, h => by simp at hm
  | m + 1, k + 1, c :: t, n, s, e, hm, h => by
    rw [jstrS] at h ⊢
    rw [Nat.add_assoc]
    exact jstrS_sh d a m k t (n + 1) s e (by simpa using hm) h
  | m + 1, 0, c :: t, n, s, e, hm, h => by
    rw [jstrS] at h ⊢
    rw [Nat.add_assoc]
    split
    · rename_i hh; rw [if_pos hh] at h; cases h
    · rename_i hh
      rw [if_neg hh] at h
      split
      · rename_i h1; rw [if_pos h1] at h; cases h
      · rename_i h1
        rw [if_neg h1] at h
        split
        · rename_i h2
          rw [if_pos h2] at h
          cases h; rfl
        · rename_i h2
          rw [if_neg h2] at h
          split
          · rename_i h3
            rw [if_pos h3] at h
            split
            · rename_i h4; rw [if_pos h4] at h; cases h
            · rename_i h4
              rw [if_neg h4] at h
              cases hs : seqJ (c :: t) with
              | none => rw [hs] at h; cases h
              | some q =>
                obtain ⟨x, w⟩ := q
                rw [hs] at h
                simp only at h ⊢
                cases hr : jstrS a (w - 1) t (n + 1) with
                | error e => rw [hr] at h; cases h
                | ok p =>
                  rw [jstrS_sh d a m _ t (n + 1) p.1 p.2 (by simpa using hm) hr]
                  rw [hr] at h
                  cases h; rfl
          · rename_i h3
            rw [if_neg h3] at h
            cases hr : jstrS a ((dec (c :: t)).2 - 1) t (n + 1) with
            | error e => rw [hr] at h; cases h
            | ok p =>
              rw [jstrS_sh d a m _ t (n + 1) p.1 p.2 (by simpa using hm) hr]
              rw [hr] at h
              cases h; rfl
theorem getD_ctx {p l y : Bytes} {a : Nat} (h : a < l.length) : (p ++ (l ++ y)).getD (p.length + a) 0 = l.getD a 0 := by rw [getD_sh, getD_app y h]
theorem spEnd_ctx {p l y : Bytes} {a : Nat} (h : spEnd l a < l.length) : spEnd (p ++ (l ++ y)) (p.length + a) = p.length + spEnd l a := by rw [spEnd_sh, spEnd_app y h]
theorem hasAt_ctx {p l y s : Bytes} {a : Nat} (h : a + s.length ≤ l.length) : hasAt (p ++ (l ++ y)) (p.length + a) s = hasAt l a s := by rw [hasAt_sh, hasAt_app y h]
theorem jstrAt_ctx {p l y : Bytes} {a : Nat} {s : Bytes} {e : Nat} (h : jstrAt l a = .ok (s, e)) : jstrAt (p ++ (l ++ y)) (p.length + a) = .ok (s, p.length + e) := by
  unfold jstrAt at h ⊢
  split at h
  · cases h
  · rename_i hh
    have hlt : a < l.length := by omega
    rw [getD_ctx hlt, if_neg (fun h1 => h1.elim (fun h2 => by simp only [List.length_append] at h2; omega) (fun h2 => hh (.inr h2))), Nat.add_assoc, drop_sh, drop_app (by omega)]
    exact jstrS_sh p.length a _ 0 _ (a + 1) s e (Nat.le_refl _) (jstrS_app a y _ 0 (l.drop (a + 1)) (a + 1) _ (Nat.le_refl _) h)

/-! Values with places that are greater. -/
mutual
def shJ (d : Nat) : JV → JV
  | .mk k b n s is ms p => .mk k b n s (shJL d is) (shJM d ms) (p + d)
def shJL (d : Nat) : List JV → List JV
  | [] => []
  | v :: l => shJ d v :: shJL d l
def shJM (d : Nat) : List JM → List JM
  | [] => []
  | .mk k v p :: l => .mk k (shJ d v) (p + d) :: shJM d l
end
theorem shJL_nil (d : Nat) : shJL d [] = [] := by rw [shJL]
theorem shJM_nil (d : Nat) : shJM d [] = [] := by rw [shJM]
theorem shJL_app (d : Nat) : ∀ a b : List JV, shJL d (a ++ b) = shJL d a ++ shJL d b
  | [], b => by rw [shJL_nil]; rfl
  | v :: a, b => by rw [List.cons_append, shJL, shJL, shJL_app d a b]; rfl
theorem shJM_app (d : Nat) : ∀ a b : List JM, shJM d (a ++ b) = shJM d a ++ shJM d b
  | [], b => by rw [shJM_nil]; rfl
  | .mk k v p :: a, b => by rw [List.cons_append, shJM, shJM, shJM_app d a b]; rfl
theorem shJL_one (d : Nat) (v : JV) : shJL d [v] = [shJ d v] := by rw [shJL, shJL_nil]
theorem shJM_one (d : Nat) (k : Bytes) (v : JV) (p : Int) : shJM d [.mk k v p] = [.mk k (shJ d v) (p + d)] := by rw [shJM, shJM_nil]
theorem shJM_any (d : Nat) (k : Bytes) : ∀ ms : List JM, (shJM d ms).any (fun m => m.key == k) = ms.any (fun m => m.key == k)
  | [] => by rw [shJM_nil]
  | .mk k' v p :: l => by rw [shJM, List.any_cons, List.any_cons, shJM_any d k l]; rfl
theorem shJL_len (d : Nat) : ∀ l : List JV, (shJL d l).length = l.length
  | [] => by rw [shJL_nil]
  | v :: l => by rw [shJL, List.length_cons, List.length_cons, shJL_len d l]
theorem shJM_len (d : Nat) : ∀ l : List JM, (shJM d l).length = l.length
  | [] => by rw [shJM_nil]
  | .mk k v p :: l => by rw [shJM, List.length_cons, List.length_cons, shJM_len d l]
mutual
theorem jeq_sh (d : Nat) : ∀ v : JV, jeq false v (shJ d v) = true
  | .mk k b n s is ms p => by
    rw [shJ, jeq]
    simp only [JV.items, JV.mems]
    rw [jeqL_sh d is, jeqM_sh d ms]
    simp [jhEq, JV.kind, JV.b, JV.n, JV.s, JV.items, JV.mems, shJL_len, shJM_len]
theorem jeqL_sh (d : Nat) : ∀ l : List JV, jeqL false l (shJL d l) = true
  | [] => by rw [jeqL]
  | v :: l => by rw [shJL, jeqL, jeq_sh d v, jeqL_sh d l]; rfl
theorem jeqM_sh (d : Nat) : ∀ l : List JM, jeqM false l (shJM d l) = true
  | [] => by rw [jeqM]
  | .mk k v p :: l => by rw [shJM, jeqM]; simp only [JM.key, JM.val]; rw [jeq_sh d v, jeqM_sh d l]; simp
end
theorem jdepL_mem : ∀ {l : List JV} {v : JV}, v ∈ l → jdep v ≤ jdepL l
  | x :: l, v, h => by
    rw [jdepL]
    rcases List.mem_cons.1 h with rfl | h
    · omega
    · have := jdepL_mem h; omega
theorem jdepM_mem : ∀ {l : List JM} {k : Bytes} {v : JV} {p : Int}, JM.mk k v p ∈ l → jdep v ≤ jdepM l
  | .mk k' x p' :: l, k, v, p, h => by
    rw [jdepM]
    rcases List.mem_cons.1 h with h | h
    · cases h; omega
    · have := jdepM_mem h; omega
theorem pvI_pre {l : Bytes} : ∀ {f d n : Nat} {its js : List JV} {e : Nat}, pvI l f d n its = .ok (js, e) → ∃ r, js = its ++ r
  | 0, _, _, _, _, _, h => by rw [pvI] at h; cases h
  | f + 1, d, n, its, js, e, h => by
    rw [pvI] at h
    cases hv : pvV l f (d + 1) n with
    | error q => rw [hv] at h; cases h
    | ok p =>
      obtain ⟨v, e1⟩ := p
      rw [hv] at h
      simp only at h
      split at h
      · cases h; exact ⟨[v], rfl⟩
      · split at h
        · obtain ⟨r, hr⟩ := pvI_pre h
          exact ⟨v :: r, by rw [hr]; simp⟩
        · cases h
theorem pvM_pre {l : Bytes} : ∀ {f d n : Nat} {ms ns : List JM} {e : Nat}, pvM l f d n ms = .ok (ns, e) → ∃ r, ns = ms ++ r
  | 0, _, _, _, _, _, h => by rw [pvM] at h; cases h
  | f + 1, d, n, ms, ns, e, h => by
    rw [pvM] at h
    cases hk : keyAt l (spEnd l n) ms with
    | error q => rw [hk] at h; cases h
    | ok p =>
      obtain ⟨k, a⟩ := p
      rw [hk] at h
      simp only at h
      cases hv : pvV l f (d + 1) a with
      | error q => rw [hv] at h; cases h
      | ok p =>
        obtain ⟨v, e1⟩ := p
        rw [hv] at h
        simp only at h
        split at h
        · cases h; exact ⟨[_], rfl⟩
        · split at h
          · obtain ⟨r, hr⟩ := pvM_pre h
            exact ⟨_ :: r, by rw [hr]; simp; rfl⟩
          · cases h
theorem keyAt_ctx {p l y : Bytes} {a : Nat} {ms : List JM} {k : Bytes} {e : Nat} (h : keyAt l a ms = .ok (k, e)) : keyAt (p ++ (l ++ y)) (p.length + a) (shJM p.length ms) = .ok (k, p.length + e) := by
  unfold keyAt at h ⊢
  split at h
  · cases h
  · rename_i hh
    have hlt : a < l.length := by omega
    rw [getD_ctx hlt, if_neg (fun h1 => h1.elim (fun h2 => by simp only [List.length_append] at h2; omega) (fun h2 => hh (.inr h2)))]
    cases hs : jstrAt l a with
    | error q => rw [hs] at h; cases h
    | ok q =>
      obtain ⟨k', e'⟩ := q
      rw [hs] at h
      rw [jstrAt_ctx hs]
      simp only at h ⊢
      rw [shJM_any]
      split at h
      · cases h
      · rename_i hd
        rw [if_neg hd]
        split at h
        · rename_i hc
          cases h
          have h3 := hasAt_in hc
          rw [spEnd_ctx h3, hasAt_ctx (s := [58]) (by simp; omega), if_pos hc]
          rfl
        · cases h
/-- What may follow a value. -/
def stopN (y : Bytes) : Prop := y = [] ∨ ∃ c r, y = c :: r ∧ isNumB c = false
theorem run_stopN {x y : Bytes} (h : run isNumB x < x.length ∨ stopN y) : run isNumB (x ++ y) = run isNumB x := by
  have hle := run_le isNumB x
  by_cases h1 : run isNumB x < x.length
  · exact run_app y h1
  · have hy : stopN y := h.resolve_left h1
    have he : run isNumB x = x.length := by omega
    clear h h1
    induction x with
    | nil =>
      rcases hy with rfl | ⟨c, r, rfl, hc⟩
      · rfl
      · show run isNumB (c :: r) = 0
        simp [run, hc]
    | cons c x ih =>
      rw [run] at he
      split at he
      · rename_i hc
        rw [List.cons_append, run, if_pos hc, run, if_pos hc, ih (run_le _ _) (by simpa using he)]
      · simp at he
mutual
theorem pvV_ctx {p l y : Bytes} {k : Nat} : ∀ {f d n : Nat} {v : JV} {e : Nat}, n ≤ l.length → pvV l f d n = .ok (v, e) → d + k + jdep v ≤ 101 → (e = l.length → stopN y) → pvV (p ++ (l ++ y)) f (d + k) (p.length + n) = .ok (shJ p.length v, p.length + e)
  | 0, _, _, _, _, _, h, _, _ => by rw [pvV] at h; cases h
  | f + 1, d, n, v, e, hn, h, hdp, hy => by
    rw [pvV] at h ⊢
    have g1 := spEnd_ge l n
    by_cases h0 : l.length ≤ spEnd l n
    · rw [if_pos h0] at h; cases h
    rw [if_neg h0] at h
    have hlt : spEnd l n < l.length := by omega
    rw [spEnd_ctx hlt, getD_ctx hlt, if_neg (by simp only [List.length_append]; omega)]
    have wd : ∀ s k' b', s ≠ [] → wordJ l (spEnd l n) s (.mk k' b' 0 [] [] [] (spEnd l n)) = .ok (v, e) → wordJ (p ++ (l ++ y)) (p.length + spEnd l n) s (.mk k' b' 0 [] [] [] ((p.length + spEnd l n : Nat) : Int)) = .ok (shJ p.length v, p.length + e) := by
      intro s k' b' hs hw
      unfold wordJ at hw ⊢
      split at hw
      · rename_i hh
        cases hw
        rcases hasAt_le hh with h2 | h2
        · rw [hasAt_ctx (by omega), if_pos hh, shJ, shJL_nil, shJM_nil, Nat.add_assoc]
          congr 3
          omega
        · exact absurd h2 hs
      · cases hw
    by_cases h1 : l.getD (spEnd l n) 0 = 110
    · rw [if_pos h1] at h ⊢; exact wd _ _ _ (by decide) h
    rw [if_neg h1] at h ⊢
    by_cases h2 : l.getD (spEnd l n) 0 = 116
    · rw [if_pos h2] at h ⊢; exact wd _ _ _ (by decide) h
    rw [if_neg h2] at h ⊢
    by_cases h3 : l.getD (spEnd l n) 0 = 102
    · rw [if_pos h3] at h ⊢; exact wd _ _ _ (by decide) h
    rw [if_neg h3] at h ⊢
    by_cases h4 : l.getD (spEnd l n) 0 = 34
    · rw [if_pos h4] at h ⊢
      unfold strJ at h ⊢
      cases hs : jstrAt l (spEnd l n) with
      | error q => rw [hs] at h; cases h
      | ok q =>
        rw [jstrAt_ctx (s := q.1) (e := q.2) hs]
        rw [hs] at h
        cases h
        rw [shJ, shJL_nil, shJM_nil]
        simp only [Except.map]
        congr 3
        omega
    rw [if_neg h4] at h ⊢
    by_cases h5 : l.getD (spEnd l n) 0 = 91
    · rw [if_pos h5] at h ⊢
      have g2 := spEnd_ge l (spEnd l n + 1)
      have g3 := spEnd_le (l := l) (n := spEnd l n + 1) (by omega)
      split at h
      · cases h
      · rename_i hd
        split at h
        · rename_i hc
          cases h
          have h9 := hasAt_in hc
          rw [jdep] at hdp
          rw [if_neg (by omega), Nat.add_assoc, spEnd_ctx h9, hasAt_ctx (s := [93]) (by simp; omega), if_pos hc, shJ, shJL_nil, shJM_nil, Nat.add_assoc]
          congr 3
          omega
        · rename_i hc
          cases hi : pvI l f d (spEnd l (spEnd l n + 1)) [] with
          | error q => rw [hi] at h; cases h
          | ok q =>
            obtain ⟨its, e'⟩ := q
            rw [hi] at h
            cases h
            have h9 := pvI_ok g3 hi
            rw [jdep] at hdp
            have hdl : d + k + 1 + jdepL its ≤ 101 := by
              rw [if_pos rfl] at hdp; omega
            have hctx := pvI_ctx (p := p) (y := y) (k := k) g3 hi (by omega)
            rw [shJL_nil] at hctx
            rw [if_neg (by omega), Nat.add_assoc, spEnd_ctx (by omega), hasAt_ctx (s := [93]) (by simp; omega), if_neg hc, hctx, shJ, shJM_nil]
            simp only
            congr 3
            omega
    rw [if_neg h5] at h ⊢
    by_cases h6 : l.getD (spEnd l n) 0 = 123
    · rw [if_pos h6] at h ⊢
      have g2 := spEnd_ge l (spEnd l n + 1)
      have g3 := spEnd_le (l := l) (n := spEnd l n + 1) (by omega)
      split at h
      · cases h
      · rename_i hd
        split at h
        · rename_i hc
          cases h
          have h9 := hasAt_in hc
          rw [jdep] at hdp
          rw [if_neg (by omega), Nat.add_assoc, spEnd_ctx h9, hasAt_ctx (s := [125]) (by simp; omega), if_pos hc, shJ, shJL_nil, shJM_nil, Nat.add_assoc]
          congr 3
          omega
        · rename_i hc
          cases hi : pvM l f d (spEnd l (spEnd l n + 1)) [] with
          | error q => rw [hi] at h; cases h
          | ok q =>
            obtain ⟨ms, e'⟩ := q
            rw [hi] at h
            cases h
            have h9 := pvM_ok g3 hi
            rw [jdep] at hdp
            have hdl : d + k + 1 + jdepM ms ≤ 101 := by
              rw [if_pos rfl] at hdp; omega
            have hctx := pvM_ctx (p := p) (y := y) (k := k) g3 hi (by omega)
            rw [shJM_nil] at hctx
            rw [if_neg (by omega), Nat.add_assoc, spEnd_ctx (by omega), hasAt_ctx (s := [125]) (by simp; omega), if_neg hc, hctx, shJ, shJL_nil]
            simp only
            congr 3
            omega
    rw [if_neg h6] at h ⊢
    split at h
    · rename_i h7
      rw [if_pos h7]
      unfold numAt at h ⊢
      rw [drop_sh, drop_app (by omega)]
      have hst : run isNumB (l.drop (spEnd l n)) < (l.drop (spEnd l n)).length ∨ stopN y := by
        by_cases hr : run isNumB (l.drop (spEnd l n)) < (l.drop (spEnd l n)).length
        · exact .inl hr
        · right
          apply hy
          cases hq : numJ ((l.drop (spEnd l n)).take (run isNumB (l.drop (spEnd l n)))) with
          | none => rw [hq] at h; cases h
          | some x =>
            rw [hq] at h
            cases h
            have := run_le isNumB (l.drop (spEnd l n))
            rw [List.length_drop] at this hr
            unfold numEnd; omega
      rw [run_stopN hst, List.take_append_of_le_length (run_le _ _)]
      cases hq : numJ ((l.drop (spEnd l n)).take (run isNumB (l.drop (spEnd l n)))) with
      | none => rw [hq] at h; cases h
      | some x =>
        rw [hq] at h
        cases h
        simp only
        have e1 : numEnd (p ++ (l ++ y)) (p.length + spEnd l n) = p.length + numEnd l (spEnd l n) := by
          unfold numEnd
          rw [drop_sh, drop_app (by omega), run_stopN hst, Nat.add_assoc]
        rw [e1, shJ, shJL_nil, shJM_nil]
        congr 3
        omega
    · cases h
theorem pvI_ctx {p l y : Bytes} {k : Nat} : ∀ {f d n : Nat} {its js : List JV} {e : Nat}, n ≤ l.length → pvI l f d n its = .ok (js, e) → d + k + 1 + jdepL js ≤ 101 → pvI (p ++ (l ++ y)) f (d + k) (p.length + n) (shJL p.length its) = .ok (shJL p.length js, p.length + e)
  | 0, _, _, _, _, _, _, h, _ => by rw [pvI] at h; cases h
  | f + 1, d, n, its, js, e, hn, h, hdp => by
    rw [pvI] at h ⊢
    cases hv : pvV l f (d + 1) n with
    | error q => rw [hv] at h; cases h
    | ok q =>
      obtain ⟨v, e1⟩ := q
      rw [hv] at h
      have h1 := pvV_ok hn hv
      have h2 := spEnd_ge l e1
      simp only at h
      have hin : spEnd l e1 < l.length := by
        split at h
        · rename_i hc; exact hasAt_in hc
        · split at h
          · rename_i hc; exact hasAt_in hc
          · cases h
      have hmem : jdep v ≤ jdepL js := by
        split at h
        · cases h; exact jdepL_mem (by simp)
        · split at h
          · obtain ⟨r, hr⟩ := pvI_pre h
            rw [hr]; exact jdepL_mem (by simp)
          · cases h
      have hctx := pvV_ctx (p := p) (y := y) (k := k) hn hv (by omega) (fun e2 => absurd e2 (by omega))
      rw [show d + k + 1 = d + 1 + k by omega, hctx]
      simp only
      rw [spEnd_ctx hin, hasAt_ctx (s := [93]) (by simp; omega), hasAt_ctx (s := [44]) (by simp; omega)]
      split at h
      · rename_i hc
        cases h
        rw [if_pos hc, shJL_app, shJL_one, Nat.add_assoc]
      · rename_i hc
        rw [if_neg hc]
        split at h
        · rename_i hc2
          rw [if_pos hc2]
          have := pvI_ctx (p := p) (y := y) (k := k) (show spEnd l e1 + 1 ≤ l.length by omega) h hdp
          rw [shJL_app, shJL_one] at this
          rw [Nat.add_assoc]
          exact this
        · cases h
theorem pvM_ctx {p l y : Bytes} {k : Nat} : ∀ {f d n : Nat} {ms ns : List JM} {e : Nat}, n ≤ l.length → pvM l f d n ms = .ok (ns, e) → d + k + 1 + jdepM ns ≤ 101 → pvM (p ++ (l ++ y)) f (d + k) (p.length + n) (shJM p.length ms) = .ok (shJM p.length ns, p.length + e)
  | 0, _, _, _, _, _, _, h, _ => by rw [pvM] at h; cases h
  | f + 1, d, n, ms, ns, e, hn, h, hdp => by
    rw [pvM] at h ⊢
    have g1 := spEnd_ge l n
    cases hk : keyAt l (spEnd l n) ms with
    | error q => rw [hk] at h; cases h
    | ok q =>
      obtain ⟨kk, a⟩ := q
      rw [hk] at h
      have h0 := keyAt_ok hk
      rw [spEnd_ctx (by omega), keyAt_ctx hk]
      simp only at h ⊢
      cases hv : pvV l f (d + 1) a with
      | error q => rw [hv] at h; cases h
      | ok q =>
        obtain ⟨v, e1⟩ := q
        rw [hv] at h
        have h1 := pvV_ok h0.2.1 hv
        have h2 := spEnd_ge l e1
        simp only at h
        have hin : spEnd l e1 < l.length := by
          split at h
          · rename_i hc; exact hasAt_in hc
          · split at h
            · rename_i hc; exact hasAt_in hc
            · cases h
        have hmem : jdep v ≤ jdepM ns := by
          split at h
          · cases h; exact jdepM_mem (k := kk) (p := (spEnd l n : Nat)) (by simp)
          · split at h
            · obtain ⟨r, hr⟩ := pvM_pre h
              rw [hr]; exact jdepM_mem (k := kk) (p := (spEnd l n : Nat)) (by simp)
            · cases h
        have hctx := pvV_ctx (p := p) (y := y) (k := k) h0.2.1 hv (by omega) (fun e2 => absurd e2 (by omega))
        rw [show d + k + 1 = d + 1 + k by omega, hctx]
        simp only
        have ep : ((p.length + spEnd l n : Nat) : Int) = ((spEnd l n : Nat) : Int) + (p.length : Int) := by omega
        rw [spEnd_ctx hin, hasAt_ctx (s := [125]) (by simp; omega), hasAt_ctx (s := [44]) (by simp; omega), ep]
        split at h
        · rename_i hc
          cases h
          rw [if_pos hc, shJM_app, shJM_one, Nat.add_assoc]
        · rename_i hc
          rw [if_neg hc]
          split at h
          · rename_i hc2
            rw [if_pos hc2]
            have := pvM_ctx (p := p) (y := y) (k := k) (show spEnd l e1 + 1 ≤ l.length by omega) h hdp
            rw [shJM_app, shJM_one] at this
            rw [Nat.add_assoc]
            exact this
          · cases h
end
end Go.Proofs.YthlppbpccldikaaDoor
set_option linter.unusedVariables false
namespace Go.Proofs.YthlppbpccldikaaDoor

def allSp (x : Bytes) : Prop := ∀ c ∈ x, isSp c = true
theorem run_sp : ∀ (x z : Bytes), allSp x → run isSp (x ++ z) = x.length + run isSp z
  | [], z, _ => by simp
  | c :: x, z, h => by
    rw [List.cons_append, run, if_pos (h c (by simp)), run_sp x z (fun b hb => h b (by simp [hb])), List.length_cons]; omega
theorem spEnd_skip {l x z : Bytes} {a : Nat} (h : l.drop a = x ++ z) (hx : allSp x) : spEnd l a = spEnd l (a + x.length) := by
  unfold spEnd
  rw [drop_add h, h, run_sp x z hx]; omega
theorem spEnd_to {l x r : Bytes} {c : UInt8} {a : Nat} (h : l.drop a = x ++ c :: r) (hx : allSp x) (hc : isSp c = false) : spEnd l a = a + x.length := by
  rw [spEnd_skip h hx]
  exact spEnd_at (drop_add h) hc
theorem pvV_at {l : Bytes} {f d n m : Nat} (h : spEnd l n = spEnd l m) : pvV l (f + 1) d n = pvV l (f + 1) d m := by rw [pvV, pvV, h]
theorem run_all : ∀ {x : Bytes}, run isSp x = x.length → allSp x
  | [], _ => fun c hc => by cases hc
  | c :: x, h => by
    rw [run] at h
    split at h
    · rename_i hc
      intro b hb
      rcases List.mem_cons.1 hb with rfl | hb
      · exact hc
      · exact run_all (by simpa using h) b hb
    · simp at h
theorem run_again {p : UInt8 → Bool} : ∀ x : Bytes, run p (x.drop (run p x)) = 0
  | [] => rfl
  | c :: x => by
    by_cases h : p c = true
    · rw [run, if_pos h, List.drop_succ_cons]; exact run_again x
    · have e : run p (c :: x) = 0 := by rw [run, if_neg h]
      rw [e, List.drop_zero, e]
theorem spEnd_idem (l : Bytes) (n : Nat) : spEnd l (spEnd l n) = spEnd l n := by
  have h : spEnd l n = n + run isSp (l.drop n) := rfl
  rw [h]
  unfold spEnd
  rw [← List.drop_drop, run_again]; rfl
/-- What a value begins with. -/
theorem pvV_head {l : Bytes} {f d n : Nat} {r : JV × Nat} (h : pvV l f d n = .ok r) : spEnd l n < l.length ∧ l.getD (spEnd l n) 0 ≠ 93 ∧ l.getD (spEnd l n) 0 ≠ 125 := by
  cases f with
  | zero => rw [pvV] at h; cases h
  | succ f =>
    rw [pvV] at h
    by_cases h0 : l.length ≤ spEnd l n
    · rw [if_pos h0] at h; cases h
    refine ⟨by omega, fun e => ?_, fun e => ?_⟩
    · rw [if_neg h0, e, if_neg (by decide), if_neg (by decide), if_neg (by decide), if_neg (by decide), if_neg (by decide), if_neg (by decide), if_neg (by decide)] at h
      cases h
    · rw [if_neg h0, e, if_neg (by decide), if_neg (by decide), if_neg (by decide), if_neg (by decide), if_neg (by decide), if_neg (by decide), if_neg (by decide)] at h
      cases h
/-- What is known of an accepted text that no mark opens. -/
structure TextJ (s : Bytes) (v : JV) : Prop where
  val : ∃ e, (∀ F, 2 * s.length + 1 ≤ F → pvV s F 1 0 = .ok (v, e)) ∧ e ≤ s.length ∧ allSp (s.drop e)
theorem textJ_of {s : Bytes} {v : JV} (h : parseJ s = .ok v) (h0 : startJ s = 0) : TextJ s v := by
  unfold parseJ at h
  rw [h0] at h
  cases hv : pvV s (2 * s.length + 2) 1 0 with
  | error q => rw [hv] at h; cases h
  | ok p =>
    obtain ⟨v', e⟩ := p
    rw [hv] at h
    simp only at h
    split at h
    · cases h
    · rename_i he
      cases h
      have h1 := pvV_ok (Nat.zero_le _) hv
      refine ⟨e, fun F hF => ?_, h1.2, ?_⟩
      · rw [pvV_fuel (f := F) (g := 2 * s.length + 2) (Nat.zero_le _) (by omega) (by omega)]; exact hv
      · apply run_all
        have := run_le isSp (s.drop e)
        rw [List.length_drop] at this ⊢
        unfold spEnd at he
        omega
theorem sp_stop {sp y : Bytes} (hs : allSp sp) (hy : stopN y) : stopN (sp ++ y) := by
  cases sp with
  | nil => exact hy
  | cons c sp =>
    refine .inr ⟨c, sp ++ y, rfl, ?_⟩
    have := hs c (by simp)
    unfold isSp at this
    simp at this
    have key : ∀ n : Nat, (n = 32 ∨ n = 9 ∨ n = 10 ∨ n = 13) → isNumB (UInt8.ofNat n) = false := by
      rintro n (rfl | rfl | rfl | rfl) <;> decide
    have h2 := key c.toNat this
    rwa [UInt8.ofNat_toNat] at h2
/-- The value of a text within another one, and where the white space behind it ends. -/
theorem text_in {s : Bytes} {v : JV} (h : TextJ s v) {T p y : Bytes} (hT : T = p ++ (s ++ y)) {k : Nat} (hd : 1 + k + jdep v ≤ 101) (hy : stopN y) {F n : Nat} (hF : 2 * s.length + 2 ≤ F) (hn : spEnd T n = spEnd T p.length) :
    ∃ e, pvV T F (1 + k) n = .ok (shJ p.length v, p.length + e) ∧ e ≤ s.length ∧ spEnd T (p.length + e) = spEnd T (p.length + s.length) := by
  obtain ⟨e, h1, h2, h3⟩ := h.val
  subst hT
  have h4 := pvV_ctx (p := p) (y := y) (k := k) (Nat.zero_le _) (h1 F (by omega)) hd (fun _ => hy)
  rw [Nat.add_zero] at h4
  obtain ⟨g, rfl⟩ : ∃ g, F = g + 1 := ⟨F - 1, by omega⟩
  refine ⟨e, ?_, h2, ?_⟩
  · rw [pvV_at hn]; exact h4
  · have hdr : (p ++ (s ++ y)).drop (p.length + e) = s.drop e ++ y := by rw [drop_sh, drop_app h2]
    rw [spEnd_skip hdr h3, List.length_drop]
    congr 1
    omega
theorem startJ_no {l : Bytes} (h : l.head? ≠ some 239) : startJ l = 0 := by
  unfold startJ
  rw [if_neg]
  intro hh
  unfold hasAt at hh
  cases l with
  | nil => simp [sBomJ] at hh
  | cons c l =>
    simp [sBomJ] at hh
    exact h (by simp [← hh.1])
theorem isSp_ne {c : UInt8} (h : isSp c = true) : c ≠ 239 := by rintro rfl; revert h; decide
/-- White space around an accepted text. -/
theorem parse_around {s sp : Bytes} {v : JV} (h : parseJ s = .ok v) (hs : s.head? ≠ some 239) (hsp : allSp sp) (hd : jdep v + 2 ≤ 100) : parseJ (sp ++ (s ++ sp)) = .ok (shJ sp.length v) := by
  have ht := textJ_of h (startJ_no hs)
  have hst : startJ (sp ++ (s ++ sp)) = 0 := by
    refine startJ_no ?_
    cases sp with
    | nil => simpa using hs
    | cons c sp =>
      intro e
      simp at e
      exact isSp_ne (hsp c (by simp)) e
  have hn : spEnd (sp ++ (s ++ sp)) 0 = spEnd (sp ++ (s ++ sp)) sp.length := by
    have := spEnd_skip (l := sp ++ (s ++ sp)) (a := 0) (x := sp) (z := s ++ sp) rfl hsp
    rw [Nat.zero_add] at this
    exact this
  have hstop : stopN sp := by
    have := sp_stop (y := []) hsp (.inl rfl)
    rwa [List.append_nil] at this
  obtain ⟨e, h1, h2, h3⟩ := text_in ht (T := sp ++ (s ++ sp)) (p := sp) (y := sp) (k := 0) rfl (by omega) hstop (F := 2 * (sp ++ (s ++ sp)).length + 2) (n := 0) (by simp; omega) hn
  unfold parseJ
  rw [hst, h1]
  simp only
  have h4 : spEnd (sp ++ (s ++ sp)) (sp.length + s.length) = (sp ++ (s ++ sp)).length := by
    have hdr : (sp ++ (s ++ sp)).drop (sp.length + s.length) = sp ++ [] := by rw [drop_sh, List.drop_left, List.append_nil]
    rw [spEnd_skip hdr hsp]
    unfold spEnd
    rw [List.drop_of_length_le (by simp; omega)]
    simp [run]; omega
  rw [h3, h4, if_neg (by omega)]

/-! Between brackets. -/
def tailK (s sp : Bytes) : Bytes := 58 :: (s ++ 125 :: (sp ++ [93]))
def docK (s sp : Bytes) : Bytes := 91 :: (sp ++ (s ++ (sp ++ 44 :: (sp ++ 123 :: (sp ++ 34 :: 107 :: 34 :: (sp ++ tailK s sp))))))
theorem stop44 {sp r : Bytes} (h : allSp sp) : stopN (sp ++ 44 :: r) := sp_stop h (.inr ⟨44, r, rfl, by decide⟩)
theorem key_k {l r : Bytes} {a : Nat} (h : l.drop a = 34 :: 107 :: 34 :: r) : jstrAt l a = .ok ([107], a + 3) := by
  have hl : a < l.length := by have := drop_len h (by simp); simp at this; omega
  have h2 : ∀ n, jstrS a 0 (34 :: r) n = .ok ([], n + 1) := fun n => by
    rw [jstrS, dec_low (by decide), if_neg (by simp), if_neg (by decide), if_pos (by decide)]
  have h1 : ∀ n, jstrS a 0 (107 :: 34 :: r) n = .ok ([107], n + 2) := fun n => by
    rw [jstrS, dec_low (by decide), if_neg (by simp), if_neg (by decide), if_neg (by decide), if_neg (by decide), show ((UInt8.toNat 107, 1) : Nat × Nat).2 - 1 = 0 from rfl, h2]
    rfl
  unfold jstrAt
  rw [getD_drop h, if_neg (fun h3 => h3.elim (fun h4 => by omega) (fun h4 => h4 rfl)), drop_one h, h1]
theorem parse_between {s sp : Bytes} {v : JV} (h : parseJ s = .ok v) (hs : s.head? ≠ some 239) (hsp : allSp sp) (hd : jdep v + 2 ≤ 100) :
    ∃ (p1 p2 : Nat) (q r : Int), parseJ (docK s sp) = .ok (.mk 4 false 0 [] [shJ p1 v, .mk 5 false 0 [] [] [.mk [107] (shJ p2 v) q] r] [] 0) := by
  have ht := textJ_of h (startJ_no hs)
  obtain ⟨T, hT⟩ : ∃ T, docK s sp = T := ⟨_, rfl⟩
  rw [hT]
  -- the places of the parts
  have d0 : T.drop 0 = 91 :: (sp ++ (s ++ (sp ++ 44 :: (sp ++ 123 :: (sp ++ 34 :: 107 :: 34 :: (sp ++ tailK s sp)))))) := by rw [← hT]; rfl
  have d1 := drop_one d0
  have d2 := drop_add d1
  have d3 := drop_add d2
  have d4 := drop_add d3
  have d5 := drop_one d4
  have d6 := drop_add d5
  have d7 := drop_one d6
  have d8 := drop_add d7
  obtain ⟨p8, hp8⟩ : ∃ p8, 0 + 1 + sp.length + s.length + sp.length + 1 + sp.length + 1 + sp.length = p8 := ⟨_, rfl⟩
  rw [hp8] at d8
  have d9 : T.drop (p8 + 3) = sp ++ tailK s sp := drop_add (x := [34, 107, 34]) d8
  have d10 : T.drop (p8 + 3 + sp.length) = 58 :: (s ++ 125 :: (sp ++ [93])) := drop_add d9
  have d11 := drop_one d10
  have d12 := drop_add d11
  have d13 := drop_one d12
  have d14 := drop_add d13
  have hlen := drop_len d14 (by simp)
  simp only [List.length_singleton] at hlen
  have hst : startJ T = 0 := startJ_no (by rw [← hT]; simp [docK])
  have hl0 : 0 < T.length := by omega
  -- the first occurrence
  have hT1 : T = (91 :: sp) ++ (s ++ (sp ++ 44 :: (sp ++ 123 :: (sp ++ 34 :: 107 :: 34 :: (sp ++ tailK s sp))))) := by rw [← hT]; simp [docK]
  have n1 : spEnd T 1 = spEnd T (91 :: sp).length := by
    have := spEnd_skip d1 hsp
    rw [Nat.zero_add] at this
    rw [this, List.length_cons, Nat.add_comm]
  obtain ⟨e1, v1, le1, q1⟩ := text_in ht hT1 (k := 1) (by omega) (stop44 hsp) (F := 2 * T.length - 1) (n := spEnd T 1) (by omega) (by rw [spEnd_idem, n1])
  have hv1 := pvV_head v1
  rw [spEnd_idem] at hv1
  -- behind it: the comma
  have c1 : spEnd T ((91 :: sp).length + s.length) = 0 + 1 + sp.length + s.length + sp.length := by
    rw [show (91 :: sp).length + s.length = 0 + 1 + sp.length + s.length by simp; omega]
    exact spEnd_to d3 hsp (by decide)
  -- the second occurrence
  obtain ⟨p2, hp2⟩ : ∃ p2 : Bytes, T = p2 ++ (s ++ (125 :: (sp ++ [93]))) ∧ p2.length = p8 + 3 + sp.length + 1 := by
    refine ⟨T.take (p8 + 3 + sp.length + 1), ?_, ?_⟩
    · rw [← d11, List.take_append_drop]
    · rw [List.length_take]; omega
  obtain ⟨hT2, hl2⟩ := hp2
  obtain ⟨e2, v2, le2, q2⟩ := text_in ht hT2 (k := 2) (by omega) (.inr ⟨125, _, rfl, by decide⟩) (F := 2 * T.length - 4) (n := p8 + 3 + sp.length + 1) (by omega) (by rw [hl2])
  have c2 : spEnd T (p2.length + s.length) = p8 + 3 + sp.length + 1 + s.length := by
    rw [hl2]
    exact spEnd_at d12 (by decide)
  -- the object
  have o1 : spEnd T (0 + 1 + sp.length + s.length + sp.length + 1) = 0 + 1 + sp.length + s.length + sp.length + 1 + sp.length := spEnd_to d5 hsp (by decide)
  have o2 : spEnd T (0 + 1 + sp.length + s.length + sp.length + 1 + sp.length + 1) = p8 := by rw [← hp8]; exact spEnd_to d7 hsp (by decide)
  have o3 : spEnd T p8 = p8 := spEnd_at d8 (by decide)
  have o4 : spEnd T (p8 + 3) = p8 + 3 + sp.length := spEnd_to d9 hsp (by decide)
  have o5 : spEnd T (p8 + 3 + sp.length + 1 + s.length + 1) = p8 + 3 + sp.length + 1 + s.length + 1 + sp.length := spEnd_to d13 hsp (by decide)
  have key : keyAt T p8 [] = .ok ([107], p8 + 3 + sp.length + 1) := by
    unfold keyAt
    rw [getD_drop d8, if_neg (fun h3 => h3.elim (fun h4 => by omega) (fun h4 => h4 rfl)), key_k d8]
    simp only [List.any_nil, Bool.false_eq_true, if_false]
    rw [o4, if_pos (by rw [hasAt_drop d10]; rfl)]
  have mem : pvM T (2 * T.length - 3) 2 p8 [] = .ok ([.mk [107] (shJ p2.length v) (p8 : Nat)], p8 + 3 + sp.length + 1 + s.length + 1) := by
    rw [show 2 * T.length - 3 = 2 * T.length - 4 + 1 by omega, pvM, o3, key]
    simp only
    rw [v2]
    simp only
    rw [q2, c2, if_pos (by rw [hasAt_drop d12]; rfl)]
    rfl
  have obj : pvV T (2 * T.length - 2) 2 (0 + 1 + sp.length + s.length + sp.length + 1) = .ok (.mk 5 false 0 [] [] [.mk [107] (shJ p2.length v) (p8 : Nat)] (0 + 1 + sp.length + s.length + sp.length + 1 + sp.length : Nat), p8 + 3 + sp.length + 1 + s.length + 1) := by
    rw [show 2 * T.length - 2 = 2 * T.length - 3 + 1 by omega, pvV, o1, getD_drop d6, if_neg (by omega), if_neg (by decide), if_neg (by decide), if_neg (by decide), if_neg (by decide), if_neg (by decide), if_pos rfl, if_neg (by omega), o2, if_neg (by rw [hasAt_drop d8]; simp), mem]
  have its : pvI T (2 * T.length) 1 (spEnd T 1) [] = .ok ([shJ (91 :: sp).length v, .mk 5 false 0 [] [] [.mk [107] (shJ p2.length v) (p8 : Nat)] (0 + 1 + sp.length + s.length + sp.length + 1 + sp.length : Nat)], T.length) := by
    rw [show 2 * T.length = 2 * T.length - 1 + 1 by omega, pvI, v1]
    simp only
    rw [q1, c1, if_neg (by rw [hasAt_drop d4]; simp), if_pos (by rw [hasAt_drop d4]; rfl), show 2 * T.length - 1 = 2 * T.length - 2 + 1 by omega, pvI, obj]
    simp only
    rw [o5, if_pos (by rw [hasAt_drop d14]; rfl)]
    simp only [List.nil_append, List.singleton_append]
    rw [hlen]
  refine ⟨(91 :: sp).length, p2.length, (p8 : Nat), (0 + 1 + sp.length + s.length + sp.length + 1 + sp.length : Nat), ?_⟩
  unfold parseJ
  rw [hst, show 2 * T.length + 2 = 2 * T.length + 1 + 1 from rfl, pvV, spEnd_at d0 (by decide), getD_drop d0, if_neg (by omega), if_neg (by decide), if_neg (by decide), if_neg (by decide), if_neg (by decide), if_pos rfl, if_neg (by omega), Nat.zero_add, if_neg (by
    intro hc
    have h1 := hasAt_in hc
    have h2 := (has_one.1 hc)
    obtain ⟨g1, g2⟩ := h2
    apply hv1.2.1
    rw [List.getD_eq_getElem?_getD, List.getElem?_eq_getElem g1, Option.getD_some]
    exact g2), show 2 * T.length + 1 = 2 * T.length + 1 from rfl, pvI_fuel (f := 2 * T.length + 1) (g := 2 * T.length) (by omega) (by have := spEnd_ge T 1; omega) (by have := spEnd_ge T 1; omega), its]
  simp only
  have he : spEnd T T.length = T.length := by
    unfold spEnd
    rw [List.drop_of_length_le (Nat.le_refl _)]; rfl
  rw [he, if_neg (by omega)]
  rfl
end Go.Proofs.YthlppbpccldikaaDoor
