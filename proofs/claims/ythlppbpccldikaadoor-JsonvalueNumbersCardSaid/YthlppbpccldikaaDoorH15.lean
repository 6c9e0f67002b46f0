/-
  Several texts in one file, in build order:
  - Plain law of chapter 12: the canonical text of a valid value is read as that value. No program.
  - Plain laws of chapters 11 and 12: a value without offsets; what another place does not change. No program.
  - Walks of chapter 11, the program: Get.
  - Walks of chapter 11, the program: Strip. Made by gen_jstrip11.py.
-/
import Derived.Test.YthlppbpccldikaaDoorH14
import Derived.Test.YthlppbpccldikaaDoorH12
import Derived.Test.YthlppbpccldikaaDoorH11
import Derived.Test.YthlppbpccldikaaDoorH6
import Derived.Test.YthlppbpccldikaaDoorH3
import Derived.Deep.AppendLies
set_option linter.unusedVariables false
set_option linter.unusedSimpArgs false
namespace Go.Proofs.YthlppbpccldikaaDoor

/-! Strings. -/
theorem hex_ctl : ∀ n < 32, hexd (hxJ (UInt8.ofNat n / 16)) < 16 ∧ hexd (hxJ (UInt8.ofNat n % 16)) < 16 ∧ hexd (hxJ (UInt8.ofNat n / 16)) * 16 + hexd (hxJ (UInt8.ofNat n % 16)) = n := by decide
theorem enc_byte1 {c : UInt8} (h : c.toNat < 128) : enc c.toNat = [c] := by
  unfold enc okRune
  rw [if_neg (by omega), if_pos h, UInt8.ofNat_toNat]
/-- An escaped byte is read back. -/
theorem jstrS_esc {a n : Nat} {c : UInt8} (hc : c.toNat < 128) (z : Bytes) : jstrS a 0 (escJ c ++ z) n = (jstrS a 0 z (n + (escJ c).length)).map fun p => (c :: p.1, p.2) := by
  have bs : ∀ (x : Bytes) (r m : Nat), m = x.length → seqJ (92 :: (x ++ z)) = some (r, m + 1) → x ≠ [] → enc r = [c] → jstrS a 0 (92 :: (x ++ z)) n = (jstrS a 0 z (n + (m + 1))).map fun p => (c :: p.1, p.2) := by
    intro x r m hm hs hx he
    rw [jstrS, dec_low (by decide), if_neg (by simp), if_neg (by decide), if_neg (by decide), if_pos (by decide), if_neg (by simp [hx]), hs]
    simp only [Nat.add_sub_cancel]
    rw [jstrS_skip a m _ _ (by simp; omega), hm, List.drop_left, he, show n + 1 + x.length = n + (x.length + 1) by omega]
    rfl
  unfold escJ
  by_cases h1 : c = 34
  · subst h1
    rw [if_pos rfl]
    exact bs [34] 34 1 rfl (by unfold seqJ; rfl) (by simp) (by decide)
  rw [if_neg h1]
  by_cases h2 : c = 92
  · subst h2
    rw [if_pos rfl]
    exact bs [92] 92 1 rfl (by unfold seqJ; rfl) (by simp) (by decide)
  rw [if_neg h2]
  by_cases h3 : c = 8
  · subst h3
    rw [if_pos rfl]
    exact bs [98] 8 1 rfl (by unfold seqJ; rfl) (by simp) (by decide)
  rw [if_neg h3]
  by_cases h4 : c = 9
  · subst h4
    rw [if_pos rfl]
    exact bs [116] 9 1 rfl (by unfold seqJ; rfl) (by simp) (by decide)
  rw [if_neg h4]
  by_cases h5 : c = 10
  · subst h5
    rw [if_pos rfl]
    exact bs [110] 10 1 rfl (by unfold seqJ; rfl) (by simp) (by decide)
  rw [if_neg h5]
  by_cases h6 : c = 12
  · subst h6
    rw [if_pos rfl]
    exact bs [102] 12 1 rfl (by unfold seqJ; rfl) (by simp) (by decide)
  rw [if_neg h6]
  by_cases h7 : c = 13
  · subst h7
    rw [if_pos rfl]
    exact bs [114] 13 1 rfl (by unfold seqJ; rfl) (by simp) (by decide)
  rw [if_neg h7]
  by_cases h8 : c < 32
  · rw [if_pos h8]
    have h32 : c.toNat < 32 := h8
    obtain ⟨x1, x2, x3⟩ := hex_ctl c.toNat h32
    rw [UInt8.ofNat_toNat] at x1 x2 x3
    have hs : seqJ (92 :: ([117, 48, 48, hxJ (c / 16), hxJ (c % 16)] ++ z)) = some (c.toNat, 6) := by
      have hu : unitJ (92 :: ([117, 48, 48, hxJ (c / 16), hxJ (c % 16)] ++ z)) = some c.toNat := by
        unfold unitJ
        rw [if_pos ⟨by simp, rfl, rfl⟩]
        show hex4 (48 :: 48 :: hxJ (c / 16) :: hxJ (c % 16) :: z) = some c.toNat
        have e0 : hexd 48 = 0 := by decide
        unfold hex4
        rw [if_pos ⟨by simp, (show hexd 48 < 16 by decide), (show hexd 48 < 16 by decide), x1, x2⟩]
        show some (((hexd 48 * 16 + hexd 48) * 16 + hexd (hxJ (c / 16))) * 16 + hexd (hxJ (c % 16))) = _
        rw [e0]
        congr 1
        omega
      unfold seqJ
      rw [hu]
      show (if (117 : UInt8) = 34 ∨ (117 : UInt8) = 92 ∨ (117 : UInt8) = 47 then _ else if (117 : UInt8) = 98 then _ else if (117 : UInt8) = 102 then _ else if (117 : UInt8) = 110 then _ else if (117 : UInt8) = 114 then _ else if (117 : UInt8) = 116 then _ else _) = _
      rw [if_neg (by decide), if_neg (by decide), if_neg (by decide), if_neg (by decide), if_neg (by decide), if_neg (by decide)]
      simp only
      rw [if_neg (by omega), if_pos (by omega)]
    exact bs [117, 48, 48, hxJ (c / 16), hxJ (c % 16)] c.toNat 5 rfl hs (by simp) (enc_byte1 hc)
  · rw [if_neg h8, List.singleton_append, jstrS, dec_low hc, if_neg (by simp), if_neg (by
      have : ¬ c.toNat < 32 := h8
      exact this), if_neg (by
      intro e
      apply h1
      rw [← UInt8.ofNat_toNat (x := c)]
      simp only at e
      rw [e]; rfl), if_neg (by
      intro e
      apply h2
      rw [← UInt8.ofNat_toNat (x := c)]
      simp only at e
      rw [e]; rfl)]
    simp only [Nat.sub_self]
    rw [enc_byte1 hc]
    rfl
theorem esc_high {c : UInt8} (h : 128 ≤ c.toNat) : escJ c = [c] := by
  unfold escJ
  have ne : ∀ k : UInt8, k.toNat < 128 → c ≠ k := fun k hk e => by rw [e] at h; omega
  have h8 : ¬ c < 32 := fun h2 => by
    have : c.toNat < 32 := h2
    omega
  rw [if_neg (ne 34 (by decide)), if_neg (ne 92 (by decide)), if_neg (ne 8 (by decide)), if_neg (ne 9 (by decide)), if_neg (ne 10 (by decide)), if_neg (ne 12 (by decide)), if_neg (ne 13 (by decide)), if_neg h8]
theorem enc_bytes {r : Nat} (h : okRune r) (h128 : 128 ≤ r) : ∀ x ∈ enc r, 128 ≤ x.toNat := by
  unfold enc
  rw [if_neg (by simpa using h), if_neg (by omega)]
  unfold okRune at h
  intro x hx
  by_cases h2 : r < 2048
  · rw [if_pos h2] at hx
    simp only [List.mem_cons, List.not_mem_nil, or_false] at hx
    rcases hx with rfl | rfl <;> rw [u8_of (by omega)] <;> omega
  · rw [if_neg h2] at hx
    by_cases h3 : r < 65536
    · rw [if_pos h3] at hx
      simp only [List.mem_cons, List.not_mem_nil, or_false] at hx
      rcases hx with rfl | rfl | rfl <;> rw [u8_of (by omega)] <;> omega
    · rw [if_neg h3] at hx
      simp only [List.mem_cons, List.not_mem_nil, or_false] at hx
      rcases hx with rfl | rfl | rfl | rfl <;> rw [u8_of (by omega)] <;> omega
theorem esc_highs : ∀ x : Bytes, (∀ c ∈ x, 128 ≤ c.toNat) → x.flatMap escJ = x
  | [], _ => rfl
  | c :: x, h => by rw [List.flatMap_cons, esc_high (h c (by simp)), esc_highs x (fun b hb => h b (by simp [hb]))]; rfl
/-- A quoted string is read back. -/
theorem jstrS_body (a : Nat) (r : Bytes) : ∀ (k m : Nat) (s : Bytes) (n : Nat), s.length ≤ k → s.length ≤ m → Lib.validGoD m s = true → jstrS a 0 (s.flatMap escJ ++ 34 :: r) n = .ok (s, n + (s.flatMap escJ).length + 1)
  | _, _, [], n, _, _, _ => by
    rw [List.flatMap_nil, List.nil_append, jstrS, dec_low (by decide), if_neg (by simp), if_neg (by decide), if_pos (by decide)]
    rfl
  | 0, _, c :: t, n, hk, _, _ => by simp at hk
  | k + 1, m, c :: t, n, hk, hm, hv => by
    have hm1 : 1 ≤ m := by simp at hm; omega
    have hd : (dec (c :: t)).2 ≠ 0 := by
      intro h
      rw [vgo_bad (by simp) hm1 h] at hv
      cases hv
    rw [vgo_next (by simp) hm1 hd] at hv
    have he := dec_enc _ hd
    have hle := (dec_le (c :: t)).1
    have hl := enc_len _ he.1
    have e : c :: t = enc (dec (c :: t)).1 ++ (c :: t).drop (dec (c :: t)).2 := by rw [he.2, List.take_append_drop]
    have el : (enc (dec (c :: t)).1).length = (dec (c :: t)).2 := by rw [he.2, List.length_take]; omega
    generalize hs' : (c :: t).drop (dec (c :: t)).2 = s' at *
    generalize (dec (c :: t)).1 = q at *
    have hls : s'.length + (enc q).length = (c :: t).length := by
      have := congrArg List.length e
      rw [List.length_append] at this
      omega
    have ih := fun n' => jstrS_body a r k (m - 1) s' n' (by omega) (by omega) hv
    rw [e, List.flatMap_append, List.append_assoc]
    by_cases h128 : q < 128
    · have hq : enc q = [UInt8.ofNat q] := by
        unfold enc
        rw [if_neg (by simpa using he.1), if_pos h128]
      have hu : (UInt8.ofNat q).toNat = q := u8_of (by omega)
      rw [hq]
      simp only [List.flatMap_cons, List.flatMap_nil, List.append_nil]
      rw [jstrS_esc (by omega), ih]
      simp only [Except.map, List.length_append]
      congr 2
      omega
    · have hb := enc_bytes he.1 (by omega)
      rw [esc_highs _ hb]
      have hde := enc_dec he.1 (s'.flatMap escJ ++ 34 :: r)
      obtain ⟨b, x, hbx⟩ : ∃ b x, enc q = b :: x := by
        cases hh : enc q with
        | nil => rw [hh] at hl; simp at hl
        | cons b x => exact ⟨b, x, rfl⟩
      rw [hbx] at hde ⊢
      rw [List.cons_append] at hde ⊢
      rw [jstrS, hde, if_neg (by simp), if_neg (by simp only; omega), if_neg (by simp only; omega), if_neg (by simp only; omega)]
      simp only [List.length_cons, Nat.add_sub_cancel]
      rw [jstrS_skip a x.length _ _ (by simp), List.drop_left, ih, hbx]
      simp only [Except.map, List.length_append, List.length_cons]
      congr 2
      omega
theorem jstrAt_jq {l r s : Bytes} {a : Nat} (hs : utf8J s = true) (h : l.drop a = jq s ++ r) : jstrAt l a = .ok (s, a + (jq s).length) := by
  have h' : l.drop a = 34 :: (s.flatMap escJ ++ 34 :: r) := by rw [h, jq]; simp
  have hl : a < l.length := by have := drop_len h' (by simp); simp at this; omega
  unfold jstrAt
  rw [getD_drop h', if_neg (fun h3 => h3.elim (fun h4 => by omega) (fun h4 => h4 rfl)), drop_one h', jstrS_body a r _ _ s _ (Nat.le_refl _) (Nat.le_refl _) hs]
  congr 2
  rw [jq]
  simp; omega

/-! Numbers. -/
theorem decD_small {u : Nat} (h : u ≤ 9223372036854775808) : (Lib.decDigits u).length ≤ 19 := by
  rw [Lib.decDigits_length]
  exact nDig_le 18 u (by have : (10 : Nat) ^ (18 + 1) = 10000000000000000000 := by decide
                         omega)
theorem decD_zero (u : Nat) : ¬ (1 < (Lib.decDigits u).length ∧ (Lib.decDigits u).head? = some 48) := by
  induction u using Nat.strongRecOn with
  | ind u ih =>
    rw [Lib.decDigits]
    split
    · rintro ⟨h, _⟩; simp at h
    · rename_i h
      rintro ⟨_, h2⟩
      obtain ⟨a, x, hax⟩ : ∃ a x, Lib.decDigits (u / 10) = a :: x := by
        cases hh : Lib.decDigits (u / 10) with
        | nil => exact absurd hh (decD_ne _)
        | cons a x => exact ⟨a, x, rfl⟩
      rw [hax, List.cons_append, List.head?_cons] at h2
      by_cases h10 : u / 10 < 10
      · rw [Lib.decDigits, dif_pos h10] at hax
        cases hax
        simp only [Option.some.injEq] at h2
        have := congrArg UInt8.toNat h2
        rw [u8_of (by omega)] at this
        have e : (48 : UInt8).toNat = 48 := rfl
        omega
      · refine ih (u / 10) (by omega) ⟨?_, by rw [hax]; exact h2⟩
        rw [Lib.decDigits, dif_neg h10]
        have := List.length_pos_iff.2 (decD_ne (u / 10 / 10))
        simp; omega
theorem numJ_itoa {n : Int} (h0 : -9223372036854775808 ≤ n) (h1 : n ≤ 9223372036854775807) : numJ (Lib.itoa n) = some n := by
  unfold Lib.itoa
  by_cases hn : n < 0
  · rw [if_pos hn]
    unfold numJ
    rw [if_pos (show (45 :: Lib.decDigits n.natAbs : Bytes).head? = some 45 from rfl)]
    simp only [List.drop_succ_cons, List.drop_zero]
    rw [if_pos ⟨decD_ne _, decD_small (by omega), by rw [List.all_eq_true]; exact (decD_dg _).1, decD_zero _, by rw [(decD_dg _).2]; omega⟩, (decD_dg _).2]
    congr 1
    omega
  · rw [if_neg hn]
    have hh : ¬ (Lib.decDigits n.toNat).head? = some 45 := by
      intro e
      cases hd : Lib.decDigits n.toNat with
      | nil => exact absurd hd (decD_ne _)
      | cons c l =>
        rw [hd] at e
        simp at e
        have := (decD_dg n.toNat).1 c (by rw [hd]; simp)
        rw [e] at this
        revert this; decide
    unfold numJ
    rw [if_neg hh, if_pos ⟨decD_ne _, decD_small (by omega), by rw [List.all_eq_true]; exact (decD_dg _).1, decD_zero _, by rw [(decD_dg _).2]; omega⟩, (decD_dg _).2]
    congr 1
    omega
theorem run_num : ∀ x : Bytes, (∀ c ∈ x, isNumB c = true) → run isNumB x = x.length
  | [], _ => rfl
  | c :: x, h => by rw [run, if_pos (h c (by simp)), run_num x (fun b hb => h b (by simp [hb]))]; rfl
theorem itoa_num (n : Int) : ∀ c ∈ Lib.itoa n, isNumB c = true := by
  have hd : ∀ u, ∀ c ∈ Lib.decDigits u, isNumB c = true := fun u c hc => by
    have := (decD_dg u).1 c hc
    unfold isNumB
    rw [this]; rfl
  unfold Lib.itoa
  intro c hc
  split at hc
  · rcases List.mem_cons.1 hc with rfl | hc
    · decide
    · exact hd _ c hc
  · exact hd _ c hc

/-! Values. -/
mutual
def posJ : Nat → JV → JV
  | p, .mk k b n s is ms _ => .mk k b n s (posJL (p + 1) is) (posJM (p + 1) ms) p
def posJL : Nat → List JV → List JV
  | _, [] => []
  | p, v :: l => posJ p v :: posJL (p + (jtx v).length + 1) l
def posJM : Nat → List JM → List JM
  | _, [] => []
  | p, .mk k v _ :: l => .mk k (posJ (p + (jq k).length + 1) v) p :: posJM (p + (jq k).length + 1 + (jtx v).length + 1) l
end
theorem posJL_nil (p : Nat) : posJL p [] = [] := by rw [posJL]
theorem posJM_nil (p : Nat) : posJM p [] = [] := by rw [posJM]
mutual
theorem jeq_pos : ∀ (v : JV) (p : Nat), jeq false v (posJ p v) = true
  | .mk k b n s is ms q, p => by
    rw [posJ, jeq]
    simp only [JV.items, JV.mems]
    rw [(jeqL_pos is (p + 1)).1, (jeqM_pos ms (p + 1)).1]
    simp [jhEq, JV.kind, JV.b, JV.n, JV.s, JV.items, JV.mems, (jeqL_pos is (p + 1)).2, (jeqM_pos ms (p + 1)).2]
theorem jeqL_pos : ∀ (l : List JV) (p : Nat), jeqL false l (posJL p l) = true ∧ (posJL p l).length = l.length
  | [], p => ⟨by rw [jeqL], by rw [posJL_nil]⟩
  | v :: l, p => by
    have ih := jeqL_pos l (p + (jtx v).length + 1)
    rw [posJL, jeqL, jeq_pos v p, ih.1, List.length_cons, List.length_cons, ih.2]
    exact ⟨rfl, rfl⟩
theorem jeqM_pos : ∀ (l : List JM) (p : Nat), jeqM false l (posJM p l) = true ∧ (posJM p l).length = l.length
  | [], p => ⟨by rw [jeqM], by rw [posJM_nil]⟩
  | .mk k v q :: l, p => by
    have ih := jeqM_pos l (p + (jq k).length + 1 + (jtx v).length + 1)
    rw [posJM, jeqM]
    simp only [JM.key, JM.val]
    rw [jeq_pos v, ih.1, List.length_cons, List.length_cons, ih.2]
    exact ⟨by simp, rfl⟩
end
theorem posJM_keys : ∀ (l : List JM) (p : Nat), (posJM p l).map JM.key = l.map JM.key
  | [], p => by rw [posJM_nil]
  | .mk k v q :: l, p => by rw [posJM, List.map_cons, List.map_cons, posJM_keys l]; rfl
theorem cls_sp {c : UInt8} (h : isSp c = true) : clsJ c = 2 := by
  unfold isSp at h
  simp at h
  have key : ∀ n : Nat, (n = 32 ∨ n = 9 ∨ n = 10 ∨ n = 13) → clsJ (UInt8.ofNat n) = 2 := by rintro n (rfl | rfl | rfl | rfl) <;> decide
  have := key c.toNat h
  rwa [UInt8.ofNat_toNat] at this
/-- The first byte of a canonical text. -/
theorem jtx_first {v : JV} (h0 : 0 ≤ v.kind) (h5 : v.kind ≤ 5) : ∃ c l, jtx v = c :: l ∧ isSp c = false ∧ c ≠ 93 ∧ c ≠ 125 ∧ clsJ c = v.kind := by
  obtain ⟨c, l, h1, h2, h3, _, h4⟩ := jtx_head v h0 h5
  refine ⟨c, l, h1, ?_, h3, h4, h2⟩
  cases hs : isSp c with
  | false => rfl
  | true =>
    exfalso
    have := cls_sp hs
    rw [h2] at this
    rw [jtx_form, if_neg (by omega), if_pos this] at h1
    obtain ⟨c', l', h5, h6⟩ := itoa_head v.n
    rw [h5] at h1
    cases h1
    rcases h6 with h6 | h6
    · rw [h6] at hs; revert hs; decide
    · unfold isDg at h6
      unfold isSp at hs
      simp at h6 hs
      have h7 : 48 ≤ c.toNat := h6.1
      omega
theorem spEnd_jtx {l r : Bytes} {v : JV} {n : Nat} (h0 : 0 ≤ v.kind) (h5 : v.kind ≤ 5) (h : l.drop n = jtx v ++ r) : spEnd l n = n := by
  obtain ⟨c, t, h1, h2, _⟩ := jtx_first h0 h5
  rw [h1, List.cons_append] at h
  exact spEnd_at h h2
mutual
theorem pvV_jtx {l : Bytes} : ∀ (v : JV) (f d n : Nat) (r : Bytes), jrv v = true → JFit v → l.drop n = jtx v ++ r → stopN r → d + jdep v ≤ 101 → 2 * (l.length - n) + 1 ≤ f → pvV l f d n = .ok (posJ n v, n + (jtx v).length)
  | .mk k b m s is ms q, 0, d, n, r, _, _, _, _, _, hf => by omega
  | .mk k b m s is ms q, f + 1, d, n, r, hv, hfit, hd, hr, hdp, hf => by
    obtain ⟨hh, hL, hM⟩ := jrv_ok hv
    have hform := jhOk_form hh
    obtain ⟨⟨_, _, hn0, hn1⟩, hfi, hfm⟩ := hfit.form
    simp only [JV.kind, JV.b, JV.n, JV.s, JV.items, JV.mems] at hform hL hM hn0 hn1 hfi hfm
    obtain ⟨hk0, hk5, hb, hm, hs, hi, hms, hu⟩ := hform
    have hsp := spEnd_jtx (l := l) (r := r) (v := .mk k b m s is ms q) hk0 hk5 hd
    obtain ⟨c, t, hc1, hc2, hc3, hc4, hc5⟩ := jtx_first (v := .mk k b m s is ms q) hk0 hk5
    have hd' : l.drop n = c :: (t ++ r) := by rw [hd, hc1]; rfl
    have hlen := drop_len hd' (by simp)
    simp only [List.length_cons] at hlen
    have hx := jtx_form (.mk k b m s is ms q)
    simp only [JV.kind, JV.b, JV.n, JV.s, JV.items, JV.mems] at hx hc5
    rw [pvV, hsp, getD_drop hd', if_neg (by omega)]
    have hcase : k = 0 ∨ k = 1 ∨ k = 2 ∨ k = 3 ∨ k = 4 ∨ k = 5 := by omega
    rcases hcase with rfl | rfl | rfl | rfl | rfl | rfl
    · simp at hb hm hs hi hms
      subst hb hm hs hi hms
      have e : jtx (.mk 0 false 0 [] [] [] q) = sNull := by rw [hx]; rfl
      rw [e] at hd hc1 ⊢
      cases hc1
      rw [if_pos rfl]
      unfold wordJ
      rw [if_pos (by rw [hasAt_drop hd]; rfl), posJ, posJL_nil, posJM_nil]
    · simp at hm hs hi hms
      subst hm hs hi hms
      cases b with
      | true =>
        have e : jtx (.mk 1 true 0 [] [] [] q) = sTrue := by rw [hx]; rfl
        rw [e] at hd hc1 ⊢
        cases hc1
        rw [if_neg (by decide), if_pos rfl]
        unfold wordJ
        rw [if_pos (by rw [hasAt_drop hd]; rfl), posJ, posJL_nil, posJM_nil]
      | false =>
        have e : jtx (.mk 1 false 0 [] [] [] q) = sFalse := by rw [hx]; rfl
        rw [e] at hd hc1 ⊢
        cases hc1
        rw [if_neg (by decide), if_neg (by decide), if_pos rfl]
        unfold wordJ
        rw [if_pos (by rw [hasAt_drop hd]; rfl), posJ, posJL_nil, posJM_nil]
    · simp at hb hs hi hms
      subst hb hs hi hms
      have e : jtx (.mk 2 false m [] [] [] q) = Lib.itoa m := by rw [hx]; rfl
      rw [e] at hd hc1 ⊢
      obtain ⟨c', l', h5, h6⟩ := itoa_head m
      rw [h5] at hc1
      cases hc1
      have hne : c ≠ 110 ∧ c ≠ 116 ∧ c ≠ 102 ∧ c ≠ 34 ∧ c ≠ 91 ∧ c ≠ 123 := by
        rcases h6 with rfl | h6
        · decide
        · refine ⟨?_, ?_, ?_, ?_, ?_, ?_⟩ <;> (rintro rfl; revert h6; decide)
      rw [if_neg hne.1, if_neg hne.2.1, if_neg hne.2.2.1, if_neg hne.2.2.2.1, if_neg hne.2.2.2.2.1, if_neg hne.2.2.2.2.2, if_pos h6]
      unfold numAt numEnd
      have hrun : run isNumB (Lib.itoa m ++ r) = (Lib.itoa m).length := by rw [run_stopN (.inr hr), run_num _ (itoa_num m)]
      rw [hd, hrun, List.take_left, numJ_itoa hn0 hn1, posJ, posJL_nil, posJM_nil]
    · simp at hb hm hi hms
      subst hb hm hi hms
      have e : jtx (.mk 3 false 0 s [] [] q) = jq s := by rw [hx]; rfl
      rw [e] at hd hc1 ⊢
      rw [jq] at hc1
      cases hc1
      rw [if_neg (by decide), if_neg (by decide), if_neg (by decide), if_pos rfl]
      unfold strJ
      rw [jstrAt_jq hu hd, posJ, posJL_nil, posJM_nil]
      rfl
    · simp at hb hm hs hms
      subst hb hm hs hms
      have e : jtx (.mk 4 false 0 [] is [] q) = 91 :: (jtxL true is ++ [93]) := by rw [hx]; rfl
      rw [e] at hd hc1 ⊢
      cases hc1
      rw [jdep] at hdp
      rw [if_neg (by decide), if_neg (by decide), if_neg (by decide), if_neg (by decide), if_pos rfl, if_neg (by omega), posJ, posJM_nil]
      have hd1 : l.drop (n + 1) = jtxL true is ++ 93 :: r := by
        have := drop_one (l := l) (n := n) (c := 91) (y := jtxL true is ++ [93] ++ r) (by rw [hd]; rfl)
        rw [this]; simp
      cases is with
      | nil =>
        rw [jtxL, List.nil_append] at hd1
        rw [spEnd_at hd1 (by decide), if_pos (by rw [hasAt_drop hd1]; rfl), posJL_nil, jtxL]
        rfl
      | cons v is =>
        rw [jrvL, Bool.and_eq_true] at hL
        have hv1 := (jrv_ok hL.1).1
        have hf1 := jhOk_form hv1
        have hd2 : l.drop (n + 1) = jtx v ++ (jtxL false is ++ 93 :: r) := by rw [hd1, jtxL]; simp
        have hsp2 := spEnd_jtx hf1.1 hf1.2.1 hd2
        obtain ⟨c2, t2, g1, g2, g3, g4, g5⟩ := jtx_first hf1.1 hf1.2.1
        have hd3 : l.drop (n + 1) = c2 :: (t2 ++ (jtxL false is ++ 93 :: r)) := by rw [hd2, g1]; rfl
        rw [if_pos rfl, if_neg (show ¬ (4 : Int) = 5 by decide), jdepL] at hdp
        have hI := pvI_jtx v is f d (n + 1) [] r hL.1 hL.2 (hfi v (by simp)) (fun x hx => hfi x (by simp [hx])) hd2 (by omega) (by omega) (by omega)
        rw [hsp2, if_neg (by rw [hasAt_drop hd3]; simp [Ne.symm g3]), hI]
        simp only [List.nil_append]
        rw [jtxL]
        simp only [if_true, List.nil_append, List.length_cons, List.length_append, List.length_nil]
        congr 2
        omega
    · simp at hb hm hs hi
      subst hb hm hs hi
      have e : jtx (.mk 5 false 0 [] [] ms q) = 123 :: (jtxM true ms ++ [125]) := by rw [hx]; rfl
      rw [e] at hd hc1 ⊢
      cases hc1
      rw [jdep] at hdp
      rw [if_neg (by decide), if_neg (by decide), if_neg (by decide), if_neg (by decide), if_neg (by decide), if_pos rfl, if_neg (by omega), posJ, posJL_nil]
      have hd1 : l.drop (n + 1) = jtxM true ms ++ 125 :: r := by
        have := drop_one (l := l) (n := n) (c := 123) (y := jtxM true ms ++ [125] ++ r) (by rw [hd]; rfl)
        rw [this]; simp
      cases ms with
      | nil =>
        rw [jtxM, List.nil_append] at hd1
        rw [spEnd_at hd1 (by decide), if_pos (by rw [hasAt_drop hd1]; rfl), posJM_nil, jtxM]
        rfl
      | cons mm ms =>
        obtain ⟨key, v, pp⟩ := mm
        have hd2 : l.drop (n + 1) = jq key ++ (58 :: (jtx v ++ (jtxM false ms ++ 125 :: r))) := by rw [hd1, jtxM]; simp
        have hd3 : l.drop (n + 1) = 34 :: (key.flatMap escJ ++ 34 :: (58 :: (jtx v ++ (jtxM false ms ++ 125 :: r)))) := by rw [hd2, jq]; simp
        rw [if_neg (show ¬ (5 : Int) = 4 by decide), if_pos rfl, jdepM] at hdp
        have hI := pvM_jtx key v pp ms f d (n + 1) [] [] r hM (by simp) (hfm (.mk key v pp) (by simp)) (fun x hx => hfm x (by simp [hx])) hd2 (by omega) (by omega) (by omega)
        rw [spEnd_at hd3 (by decide), if_neg (by rw [hasAt_drop hd3]; simp), hI]
        simp only [List.nil_append]
        rw [jtxM]
        simp only [if_true, List.nil_append, List.length_cons, List.length_append, List.length_nil]
        congr 2
        omega
termination_by _ f => f
decreasing_by all_goals omega
theorem pvI_jtx {l : Bytes} : ∀ (v : JV) (is : List JV) (f d n : Nat) (js : List JV) (r : Bytes), jrv v = true → jrvL is = true → JFit v → (∀ x ∈ is, JFit x) → l.drop n = jtx v ++ (jtxL false is ++ 93 :: r) → d + 1 + jdep v ≤ 101 → d + 1 + jdepL is ≤ 101 → 2 * (l.length - n) + 2 ≤ f →
    pvI l f d n js = .ok (js ++ posJL n (v :: is), n + (jtx v).length + (jtxL false is).length + 1)
  | v, is, 0, d, n, js, r, _, _, _, _, _, _, _, hf => by omega
  | v, is, f + 1, d, n, js, r, hv, hL, hfv, hfi, hd, hdp, hdl, hf => by
    have hd2 := drop_add hd
    have hst : stopN (jtxL false is ++ 93 :: r) := by
      cases is with
      | nil => rw [jtxL]; exact .inr ⟨93, r, rfl, by decide⟩
      | cons x is => rw [jtxL]; exact .inr ⟨44, _, rfl, by decide⟩
    have hV := pvV_jtx v f (d + 1) n _ hv hfv hd hst hdp (by omega)
    rw [pvI, hV]
    simp only
    cases is with
    | nil =>
      rw [jtxL, List.nil_append] at hd2
      rw [spEnd_at hd2 (by decide), if_pos (by rw [hasAt_drop hd2]; rfl), posJL, posJL_nil, jtxL]
      rfl
    | cons x is =>
      have hd3 : l.drop (n + (jtx v).length) = 44 :: (jtx x ++ (jtxL false is ++ 93 :: r)) := by rw [hd2, jtxL]; simp
      have hd4 := drop_one hd3
      have hl4 := drop_len hd3 (by simp)
      simp only [List.length_cons] at hl4
      rw [jrvL, Bool.and_eq_true] at hL
      rw [jdepL] at hdl
      rw [spEnd_at hd3 (by decide), if_neg (by rw [hasAt_drop hd3]; simp), if_pos (by rw [hasAt_drop hd3]; rfl), pvI_jtx x is f d _ (js ++ [posJ n v]) r hL.1 hL.2 (hfi x (by simp)) (fun z hz => hfi z (by simp [hz])) hd4 (by omega) (by omega) (by omega)]
      rw [posJL, jtxL]
      simp only [List.append_assoc, List.singleton_append, Bool.false_eq_true, if_false, List.length_append, List.length_cons, List.length_nil, List.nil_append, List.cons_append]
      congr 2
      omega
termination_by _ _ f => f
decreasing_by all_goals omega
theorem pvM_jtx {l : Bytes} : ∀ (key : Bytes) (v : JV) (pp : Int) (ms : List JM) (f d n : Nat) (ns : List JM) (seen : List Bytes) (r : Bytes), jrvM seen (.mk key v pp :: ms) = true → ns.map JM.key = seen → JFit v → (∀ x ∈ ms, JFit x.val) → l.drop n = jq key ++ (58 :: (jtx v ++ (jtxM false ms ++ 125 :: r))) → d + 1 + jdep v ≤ 101 → d + 1 + jdepM ms ≤ 101 → 2 * (l.length - n) + 2 ≤ f →
    pvM l f d n ns = .ok (ns ++ posJM n (.mk key v pp :: ms), n + (jq key).length + 1 + (jtx v).length + (jtxM false ms).length + 1)
  | key, v, pp, ms, 0, d, n, ns, seen, r, _, _, _, _, _, _, _, hf => by omega
  | key, v, pp, ms, f + 1, d, n, ns, seen, r, hM, hns, hfv, hfm, hd, hdp, hdl, hf => by
    rw [jrvM] at hM
    simp only [Bool.and_eq_true, Bool.not_eq_true'] at hM
    obtain ⟨⟨⟨hv, hu⟩, hseen⟩, hM2⟩ := hM
    have hd0 : l.drop n = 34 :: (key.flatMap escJ ++ 34 :: (58 :: (jtx v ++ (jtxM false ms ++ 125 :: r)))) := by rw [hd, jq]; simp
    have hd1 := drop_add hd
    have hd2 := drop_one hd1
    have hd3 := drop_add hd2
    have hl := drop_len hd0 (by simp)
    simp only [List.length_cons] at hl
    have hl1 := drop_len hd1 (by simp)
    simp only [List.length_cons] at hl1
    have hany : ns.any (fun m => m.key == key) = false := by
      rw [Bool.eq_false_iff]
      intro hh
      rw [List.any_eq_true] at hh
      obtain ⟨x, hx, he⟩ := hh
      have : key ∈ seen := by
        rw [← hns, List.mem_map]
        exact ⟨x, hx, eq_of_beq he⟩
      rw [List.contains_eq_mem, decide_eq_false_iff_not] at hseen
      exact hseen this
    have hkey : keyAt l n ns = .ok (key, n + (jq key).length + 1) := by
      unfold keyAt
      rw [getD_drop hd0, if_neg (fun h3 => h3.elim (fun h4 => by omega) (fun h4 => h4 rfl)), jstrAt_jq hu hd]
      simp only
      rw [hany, if_neg (by decide), spEnd_at hd1 (by decide), if_pos (by rw [hasAt_drop hd1]; rfl)]
    have hst : stopN (jtxM false ms ++ 125 :: r) := by
      cases ms with
      | nil => rw [jtxM]; exact .inr ⟨125, r, rfl, by decide⟩
      | cons x ms => obtain ⟨a, b, c⟩ := x; rw [jtxM]; exact .inr ⟨44, _, rfl, by decide⟩
    have hV := pvV_jtx v f (d + 1) (n + (jq key).length + 1) _ hv hfv hd2 hst hdp (by omega)
    rw [pvM, spEnd_at hd0 (by decide), hkey]
    simp only
    rw [hV]
    simp only
    cases ms with
    | nil =>
      rw [jtxM, List.nil_append] at hd3
      rw [spEnd_at hd3 (by decide), if_pos (by rw [hasAt_drop hd3]; rfl), posJM, posJM_nil, jtxM]
      rfl
    | cons x ms =>
      obtain ⟨key2, v2, pp2⟩ := x
      have hd4 : l.drop (n + (jq key).length + 1 + (jtx v).length) = 44 :: (jq key2 ++ (58 :: (jtx v2 ++ (jtxM false ms ++ 125 :: r)))) := by rw [hd3, jtxM]; simp
      have hd5 := drop_one hd4
      have hl4 := drop_len hd4 (by simp)
      simp only [List.length_cons] at hl4
      rw [jdepM] at hdl
      rw [spEnd_at hd4 (by decide), if_neg (by rw [hasAt_drop hd4]; simp), if_pos (by rw [hasAt_drop hd4]; rfl), pvM_jtx key2 v2 pp2 ms f d _ (ns ++ [JM.mk key (posJ (n + (jq key).length + 1) v) ((n : Nat) : Int)]) (seen ++ [key]) r hM2 (by rw [List.map_append, hns]; rfl) (hfm (.mk key2 v2 pp2) (by simp)) (fun z hz => hfm z (by simp [hz])) hd5 (by omega) (by omega) (by omega)]
      rw [posJM, jtxM]
      simp only [List.append_assoc, List.singleton_append, Bool.false_eq_true, if_false, List.length_append, List.length_cons, List.length_nil, List.nil_append, List.cons_append]
      congr 2
      omega
termination_by _ _ _ _ f => f
decreasing_by all_goals omega
end
/-- The canonical text of a valid value is read as that value. -/
theorem parse_jtx {v : JV} (hv : jvd v 1 = true) (hf : JFit v) : parseJ (jtx v) = .ok (posJ 0 v) ∧ jeq false v (posJ 0 v) = true := by
  refine ⟨?_, jeq_pos v 0⟩
  rw [jvd_eq, Bool.and_eq_true, decide_eq_true_eq] at hv
  have hk := jhOk_form (jrv_ok hv.1).1
  obtain ⟨c, t, h1, h2, _⟩ := jtx_first hk.1 hk.2.1
  have hst : startJ (jtx v) = 0 := by
    refine startJ_no ?_
    intro e
    rw [h1] at e
    simp at e
    obtain ⟨c', l', g1, g2, _⟩ := jtx_head v hk.1 hk.2.1
    rw [h1] at g1
    cases g1
    rw [e] at g2
    have h239 : clsJ 239 = 2 := by decide
    rw [h239] at g2
    rw [jtx_form, if_neg (by omega), if_pos g2.symm] at h1
    obtain ⟨c2, l2, h5, h6⟩ := itoa_head v.n
    rw [h5] at h1
    cases h1
    rcases h6 with h6 | h6
    · rw [h6] at e; revert e; decide
    · rw [e] at h6; revert h6; decide
  have hp := pvV_jtx (l := jtx v) v (2 * (jtx v).length + 2) 1 0 [] hv.1 hf (by simp) (.inl rfl) (by omega) (by omega)
  unfold parseJ
  rw [hst, hp]
  simp only
  rw [if_neg (by
    rw [Nat.zero_add]
    have := spEnd_ge (jtx v) (jtx v).length
    omega)]
end Go.Proofs.YthlppbpccldikaaDoor
set_option linter.unusedVariables false
namespace Go.Proofs.YthlppbpccldikaaDoor

mutual
/-- What Strip returns. -/
def stripJ : JV → JV
  | .mk k b n s is ms _ => .mk k b n s (stripJL is) (stripJM ms) 0
def stripJL : List JV → List JV
  | [] => []
  | v :: l => stripJ v :: stripJL l
def stripJM : List JM → List JM
  | [] => []
  | .mk k v _ :: l => .mk k (stripJ v) 0 :: stripJM l
end
mutual
/-- All offsets are 0. -/
def zeroJ : JV → Bool
  | .mk _ _ _ _ is ms p => (p == 0) && (zeroJL is && zeroJM ms)
def zeroJL : List JV → Bool
  | [] => true
  | v :: l => zeroJ v && zeroJL l
def zeroJM : List JM → Bool
  | [] => true
  | .mk _ v p :: l => (p == 0) && zeroJ v && zeroJM l
end
theorem stripJL_nil : stripJL [] = [] := by rw [stripJL]
theorem stripJM_nil : stripJM [] = [] := by rw [stripJM]
theorem stripJ_form (v : JV) : stripJ v = .mk v.kind v.b v.n v.s (stripJL v.items) (stripJM v.mems) 0 := by cases v; rw [stripJ]; rfl
theorem stripJL_map : ∀ l : List JV, stripJL l = l.map stripJ
  | [] => by rw [stripJL]; rfl
  | v :: l => by rw [stripJL, stripJL_map l]; rfl
theorem stripJM_map : ∀ l : List JM, stripJM l = l.map fun m => .mk m.key (stripJ m.val) 0
  | [] => by rw [stripJM]; rfl
  | .mk k v p :: l => by rw [stripJM, stripJM_map l]; rfl
theorem zeroJ_form (v : JV) : zeroJ v = ((v.pos == 0) && (zeroJL v.items && zeroJM v.mems)) := by cases v; rw [zeroJ]; rfl
mutual
theorem jeq_strip : ∀ v : JV, jeq false v (stripJ v) = true
  | .mk k b n s is ms q => by
    rw [stripJ, jeq]
    simp only [JV.items, JV.mems]
    rw [(jeqL_strip is).1, (jeqM_strip ms).1]
    simp [jhEq, JV.kind, JV.b, JV.n, JV.s, JV.items, JV.mems, (jeqL_strip is).2, (jeqM_strip ms).2]
theorem jeqL_strip : ∀ l : List JV, jeqL false l (stripJL l) = true ∧ (stripJL l).length = l.length
  | [] => ⟨by rw [jeqL], by rw [stripJL_nil]⟩
  | v :: l => by
    have ih := jeqL_strip l
    rw [stripJL, jeqL, jeq_strip v, ih.1, List.length_cons, List.length_cons, ih.2]
    exact ⟨rfl, rfl⟩
theorem jeqM_strip : ∀ l : List JM, jeqM false l (stripJM l) = true ∧ (stripJM l).length = l.length
  | [] => ⟨by rw [jeqM], by rw [stripJM_nil]⟩
  | .mk k v q :: l => by
    have ih := jeqM_strip l
    rw [stripJM, jeqM]
    simp only [JM.key, JM.val]
    rw [jeq_strip v, ih.1, List.length_cons, List.length_cons, ih.2]
    exact ⟨by simp, rfl⟩
end
mutual
theorem zero_strip : ∀ v : JV, zeroJ (stripJ v) = true
  | .mk k b n s is ms q => by rw [stripJ, zeroJ, zeroL_strip is, zeroM_strip ms]; rfl
theorem zeroL_strip : ∀ l : List JV, zeroJL (stripJL l) = true
  | [] => by rw [stripJL, zeroJL]
  | v :: l => by rw [stripJL, zeroJL, zero_strip v, zeroL_strip l]; rfl
theorem zeroM_strip : ∀ l : List JM, zeroJM (stripJM l) = true
  | [] => by rw [stripJM, zeroJM]
  | .mk k v q :: l => by rw [stripJM, zeroJM, zero_strip v, zeroM_strip l]; rfl
end
mutual
theorem jeq_refl (o : Bool) : ∀ v : JV, jeq o v v = true
  | .mk k b n s is ms q => by
    rw [jeq]
    simp only [JV.items, JV.mems]
    rw [jeqL_refl o is, jeqM_refl o ms]
    simp [jhEq]
theorem jeqL_refl (o : Bool) : ∀ l : List JV, jeqL o l l = true
  | [] => by rw [jeqL]
  | v :: l => by rw [jeqL, jeq_refl o v, jeqL_refl o l]; rfl
theorem jeqM_refl (o : Bool) : ∀ l : List JM, jeqM o l l = true
  | [] => by rw [jeqM]
  | .mk k v q :: l => by rw [jeqM]; simp [JM.key, JM.val, JM.pos, jeq_refl o v, jeqM_refl o l]
end
/-- What Get returns. -/
def getJ (v : JV) (key : Bytes) : Option JV := if v.kind = 5 then (v.mems.find? fun m => m.key == key).map JM.val else none

/-! Another place. -/
mutual
theorem jtx_pos : ∀ (v : JV) (p : Nat), jtx (posJ p v) = jtx v
  | .mk k b n s is ms q, p => by
    rw [posJ, jtx_form, jtx_form]
    simp only [JV.kind, JV.b, JV.n, JV.s, JV.items, JV.mems]
    rw [jtxL_pos is (p + 1) true, jtxM_pos ms (p + 1) true]
    rfl
theorem jtxL_pos : ∀ (l : List JV) (p : Nat) (o : Bool), jtxL o (posJL p l) = jtxL o l
  | [], p, o => by rw [posJL_nil]
  | v :: l, p, o => by rw [posJL, jtxL, jtxL, jtx_pos v, jtxL_pos l]
theorem jtxM_pos : ∀ (l : List JM) (p : Nat) (o : Bool), jtxM o (posJM p l) = jtxM o l
  | [], p, o => by rw [posJM_nil]
  | .mk k v q :: l, p, o => by rw [posJM, jtxM, jtxM, jtx_pos v, jtxM_pos l]
end
mutual
theorem jvd_pos : ∀ (v : JV) (p d : Nat), jvd (posJ p v) d = jvd v d
  | .mk k b n s is ms q, p, d => by
    have h1 : (posJL (p + 1) is).isEmpty = is.isEmpty := by cases is <;> rw [posJL] <;> rfl
    have h2 : (posJM (p + 1) ms).isEmpty = ms.isEmpty := by
      cases ms with
      | nil => rw [posJM]
      | cons m ms => cases m; rw [posJM]; rfl
    rw [posJ, jvd, jvd, jvdL_pos is (p + 1) (d + 1), jvdM_pos [] ms (p + 1) (d + 1)]
    simp only [jhOk, JV.kind, JV.b, JV.n, JV.s, JV.items, JV.mems, h1, h2]
    rfl
theorem jvdL_pos : ∀ (l : List JV) (p d : Nat), jvdL (posJL p l) d = jvdL l d
  | [], p, d => by rw [posJL_nil]
  | v :: l, p, d => by rw [posJL, jvdL, jvdL, jvd_pos v, jvdL_pos l]
theorem jvdM_pos : ∀ (seen : List Bytes) (l : List JM) (p d : Nat), jvdM seen (posJM p l) d = jvdM seen l d
  | seen, [], p, d => by rw [posJM_nil]
  | seen, .mk k v q :: l, p, d => by rw [posJM, jvdM, jvdM, jvd_pos v, jvdM_pos _ l]
end
mutual
theorem fit_pos : ∀ (v : JV) (p : Nat), JFit v → JFit (posJ p v)
  | .mk k b n s is ms q, p, h => by
    rw [JFit] at h
    rw [posJ, JFit, (fitL_pos is (p + 1) h.2.1).2, (fitM_pos ms (p + 1) h.2.2).2]
    exact ⟨h.1, (fitL_pos is (p + 1) h.2.1).1, (fitM_pos ms (p + 1) h.2.2).1⟩
theorem fitL_pos : ∀ (l : List JV) (p : Nat), JFitL l → JFitL (posJL p l) ∧ (posJL p l).length = l.length
  | [], p, h => by rw [posJL_nil]; exact ⟨h, rfl⟩
  | v :: l, p, h => by
    rw [JFitL] at h
    have ih := fitL_pos l (p + (jtx v).length + 1) h.2
    rw [posJL, JFitL, List.length_cons, List.length_cons, ih.2]
    exact ⟨⟨fit_pos v p h.1, ih.1⟩, rfl⟩
theorem fitM_pos : ∀ (l : List JM) (p : Nat), JFitM l → JFitM (posJM p l) ∧ (posJM p l).length = l.length
  | [], p, h => by rw [posJM_nil]; exact ⟨h, rfl⟩
  | .mk k v q :: l, p, h => by
    rw [JFitM] at h
    have ih := fitM_pos l (p + (jq k).length + 1 + (jtx v).length + 1) h.2
    rw [posJM, JFitM, List.length_cons, List.length_cons, ih.2]
    exact ⟨⟨fit_pos v _ h.1, ih.1⟩, rfl⟩
end
mutual
theorem jful_posJ : ∀ (v : JV) (p : Nat), jful (posJ p v) = jful v
  | .mk k b n s is ms q, p => by rw [posJ, jful, jful, jfulL_posJ is, jfulM_posJ ms]
theorem jfulL_posJ : ∀ (l : List JV) (p : Nat), jfulL (posJL p l) = jfulL l
  | [], p => by rw [posJL_nil]
  | v :: l, p => by rw [posJL, jfulL, jfulL, jful_posJ v, jfulL_posJ l]
theorem jfulM_posJ : ∀ (l : List JM) (p : Nat), jfulM (posJM p l) = jfulM l
  | [], p => by rw [posJM_nil]
  | .mk k v q :: l, p => by rw [posJM, jfulM, jfulM, jful_posJ v, jfulM_posJ l]
end
end Go.Proofs.YthlppbpccldikaaDoor
set_option linter.unusedVariables false
set_option linter.unusedSimpArgs false
namespace Go.Proofs.YthlppbpccldikaaDoor
open Go.RowKit

theorem res_whole2J {P : Program} {fn : Func} {p q : Tmp} {ty : TypeId} (h : fn.results = #[.cell p ty, .tmp q]) (tmps : Array Value) (w : World) (g : Nat) (ht : tmps.getD p undef = .pointer (some ⟨g, 0, none⟩)) (t : TypeId) (cells : Array Value) (hg : w.heap[g]? = some (.cells cells t (0, 0)))
    {d : TypeDesc} (hu : P.underlying ty = some d) (hd : d.isRow = true) (hi : (P.info? ty).map (·.size) = some cells.size) (x : Value) (hx : tmps.getD q undef = x) : (results fn tmps).run P w = .ok (.tuple #[.agg cells, x]) w := by
  have hc : w.rangeAt g 0 cells.toList := fun j v hv => by rw [Nat.zero_add, Lib.cell_of_heap hg]; simpa using hv
  have hl := run_loadVar_mid (P := P) w g 0 ty cells.toList d hc hu hd (by simpa using hi)
  rw [Array.toArray_toList] at hl
  subst hx
  have ht' : tmps[p]?.getD undef = .pointer (some ⟨g, 0, none⟩) := by simpa using ht
  simp only [results, h]
  simp [ht', asAddr, hl]
/-- What Get returns. -/
def GetR (w : World) (r : Option JV) (e : Ending) : Prop :=
  match r with
  | none => e = .returned (.tuple #[zValV, .bool false])
  | some x => ∃ y, e = .returned (.tuple #[y, .bool true]) ∧ ValV w (· < w.heap.size) x y
set_option maxHeartbeats 4000000 in
set_option maxRecDepth 100000 in
theorem get11_any (v : JV) (key : Bytes) (u : Value) (w : World) (hl : v.mems.length ≤ 1000000000) (hv : ValV w (· < w.heap.size) v u) :
    Calls Tryd.prog 8 #[u, .string (S key)] w fun e w' => GetR w (getJ v key) e ∧ Below w.heap.size w w' := by
  obtain ⟨IA, ic, MA, mc, rfl, hi, hm, hic, hmc⟩ := hv.open_
  obtain ⟨W0, hW0⟩ : ∃ W0, (w.alloc (valBox v IA ic MA mc)).alloc (.cells (valCells 0 false 0) 25) = W0 := ⟨_, rfl⟩
  have hb0 : Below w.heap.size w W0 := by rw [← hW0]; exact ((Below.refl _ _).alloc (Nat.le_refl _) _).alloc (by simp) _
  have hg0 : W0.heap[w.heap.size]? = some (valBox v IA ic MA mc) := by rw [← hW0]; exact alloc_old (heap_alloc_new _ _)
  have hr0 : W0.heap[w.heap.size + 1]? = some (.cells (valCells 0 false 0) 25 (0, 0)) := by rw [← hW0]; exact alloc_at (by simp)
  obtain ⟨k0, k1, k2, k3, k4, k5, k6⟩ := jbox_cells hg0
  obtain ⟨R, hR⟩ : ∃ R, getJ v key = R := ⟨_, rfl⟩
  rw [hR]
  unfold getJ at hR
  have HM := Lib.hid hm
  have HB0 := Lib.hid hb0
  have HR0 := Lib.hid hr0
  have HW0 := Lib.hid hW0
  clear hi hm hv hb0 hg0 hr0
  by_cases h5 : v.kind = 5
  · have t5 : (v.kind == 5) = true := by rw [h5]; rfl
    have u5 : (v.kind != 5) = false := by rw [bne, t5]; rfl
    rw [if_pos h5] at hR
    have HR := Lib.hid hR
    clear hR h5
    go_enter Tryd.func8, Tryd.ntmps8
    go_wp2_with fail
    clear k0 k1 k2 k3 k4 k5 k6
    go_loopw [15] (fun i15 wr => ∃ i : Nat, i ≤ v.mems.length ∧ i15 = .int .i64 i ∧ ((v.mems.drop i).find? fun m => m.key == key).map JM.val = R ∧ Below w.heap.size w wr ∧ wr.heap[w.heap.size + 1]? = some (.cells (valCells 0 false 0) 25 (0, 0))) (fun i15 _ => v.mems.length - (intOf i15).toNat)
    case atStart => exact ⟨0, Nat.zero_le _, rfl, HR.out, by have h := HB0.out; rw [← HW0.out] at h; exact h, by have h := HR0.out; rw [← HW0.out] at h; exact h⟩
    case round =>
      obtain ⟨i, hi, rfl, hres, hb, hr⟩ := hrel
      have HB := Lib.hid hb
      have HRW := Lib.hid hr
      have hrl := heap_lt hr
      clear hb hr
      by_cases hlt : i < v.mems.length
      · have hlt' : (i : Int) < v.mems.length := by omega
        obtain ⟨b, off, cs, rfl, hbl, hr, hcs⟩ := HM.out.at_ hlt
        have hr1 := rangeAt_keep hr (HB.out.block b hbl)
        have hcs1 := MemP.keep (fun k hk => HB.out.block k hk) (fun k hk => hk) hcs
        rw [List.drop_eq_getElem_cons hlt, List.find?_cons] at hres
        generalize v.mems[i] = x at *
        obtain ⟨vs, hvs, hcse⟩ := hcs1
        obtain ⟨NA, nc, NM, nd, hvse, _, _, _, _⟩ := hvs.open_
        subst hvse
        simp only [List.cons_append, List.nil_append] at hcse
        subst hcse
        have hb5 := (Below.refl wr.heap.size wr).alloc (Nat.le_refl _) (memBox x NA nc NM nd)
        have hx5 := heap_alloc_new wr (memBox x NA nc NM nd)
        have hg5 := mem_cells_val (range_of_heap (cs := [.string (S x.key), .int .i64 x.val.kind, .bool x.val.b, .int .i64 x.val.n, .string (S x.val.s), .slice NA x.val.items.length nc, .slice NM x.val.mems.length nd, .int .i64 x.val.pos, .int .i64 x.pos]) hx5)
        have hr5 := (hb5.block _ hrl).trans HRW.out
        have z0 := (mbox_cells hx5).1
        have HR1 := Lib.hid hr1
        have HG5 := Lib.hid hg5
        have HR5 := Lib.hid hr5
        have HVS := Lib.hid hvs
        have HB5 := Lib.hid (HB.out.trans (hb5.mono HB.out.size))
        clear hr hr1 hcs hvs hg5 hr5 hx5 hb5
        cases hk : (x.key == key) with
        | true =>
          rw [hk] at hres
          have HRS : Hid (some x.val = R) := hres
          clear hres
          go_wp2_with (first
            | ((with_reducible refine gate ?_); first
                | (refine wp_load_mem rfl _ rfl b (off + i * 9) rfl _ rfl HR1.out ?_)
                | (refine wp_load_val rfl _ rfl wr.heap.size (0 + 1) rfl _ rfl HG5.out ?_)
                | (refine wp_store_valQ rfl _ _ rfl (w.heap.size + 1) _ _ _ _ _ _ _ _ _ _ _ _ rfl rfl HR5.out rfl ?_; intro w9 hx9 hu9)))
          (try simp only [Exit.inBlock, Exit.then])
          refine bodyPost_ret (v := .tuple #[.agg _, _]) (res_whole2J Tryd.results8 _ _ (w.heap.size + 1) rfl 25 _ hx9 Tryd.underlying25 rfl valSize _ rfl) rfl ⟨?_, ?_⟩
          · rw [← HRS.out]
            exact ⟨_, rfl, _, rfl, ValP.keep (fun k hk => (HB.out.block k hk).symm) (fun k hk => hk) _ _ HVS.out⟩
          · exact HB5.out.trans (hu9.below (by omega) HB5.out.size)
        | false =>
          rw [hk] at hres
          have HRS := Lib.hid hres
          clear hres
          go_wp2_with (first
            | ((with_reducible refine gate ?_); first
                | (refine wp_load_mem rfl _ rfl b (off + i * 9) rfl _ rfl HR1.out ?_)))
          go_roundw
          case rel => exact ⟨i + 1, by omega, by go_num, HRS.out, HB5.out, HR5.out⟩
          case measure => simp [intOf]; omega
      · obtain rfl : i = v.mems.length := by omega
        rw [List.drop_length] at hres
        have hres : none = R := hres
        have HRS := Lib.hid hres
        clear hres
        go_wp2_with (first
          | ((with_reducible refine gate ?_); refine wp_store_valQ rfl _ _ rfl (w.heap.size + 1) _ _ _ _ _ _ _ _ _ _ _ _ rfl rfl HRW.out rfl ?_; intro w9 hx9 hu9))
        refine bodyPost_ret (v := .tuple #[.agg _, _]) (res_whole2J Tryd.results8 _ _ (w.heap.size + 1) rfl 25 _ hx9 Tryd.underlying25 rfl valSize _ rfl) rfl ⟨?_, ?_⟩
        · rw [← HRS.out]; rfl
        · exact HB.out.trans (hu9.below (by omega) HB.out.size)
  · have t5 : (v.kind == 5) = false := by rw [beq_eq_false_iff_ne]; exact h5
    have u5 : (v.kind != 5) = true := by rw [bne, t5]; rfl
    rw [if_neg h5] at hR
    subst hR
    clear h5
    go_enter Tryd.func8, Tryd.ntmps8
    go_wp2_with fail
    refine bodyPost_ret (v := .tuple #[.agg _, _]) (res_whole2J Tryd.results8 _ _ (w.heap.size + 1) rfl 25 (valCells 0 false 0) (alloc_at (by simp)) Tryd.underlying25 rfl valSize _ rfl) rfl ⟨rfl, ?_⟩
    exact (((Below.refl _ _).alloc (Nat.le_refl _) _).alloc (by simp) _)
end Go.Proofs.YthlppbpccldikaaDoor
set_option linter.unusedVariables false
set_option linter.unusedSimpArgs false
namespace Go.Proofs.YthlppbpccldikaaDoor
open Go.RowKit

def stripM (m : JM) : JM := .mk m.key (stripJ m.val) 0
/-- A loop of Strip: W1 is where it began; the value under way lies in block g. -/
structure LpJ {α : Type} (E : Elt α) (cf : Value → Array Value) (g : Nat) (w W1 : World) (KA : Option Addr) (kc : Nat) (ks : List α) (wr : World) : Prop where
  nd : wr.heap[g]? = some (.cells (cf (.slice KA ks.length kc)) 25 (0, 0))
  below : Below w.heap.size w wr
  keep : ∀ b, b < W1.heap.size → b ≠ g → wr.heap[b]? = W1.heap[b]?
  row : ElRow E wr W1.heap.size (fun b => (W1.heap.size ≤ b ∧ b < wr.heap.size) ∧ (Value.slice KA ks.length kc).ownBlock ≠ some b) (.slice KA ks.length kc) ks
  size : W1.heap.size ≤ wr.heap.size
  gl : w.heap.size ≤ g ∧ g < W1.heap.size
section
variable {α : Type} {E : Elt α} {cf : Value → Array Value} {g : Nat} {w W1 : World} {KA : Option Addr} {kc : Nat} {ks : List α} {wr w' : World}
theorem LpJ.next (hE : E.Ok) (h : LpJ E cf g w W1 KA kc ks wr) (hb : Below wr.heap.size wr w') : LpJ E cf g w W1 KA kc ks w' :=
  ⟨(hb.block _ (heap_lt h.nd)).trans h.nd, h.below.trans (hb.mono h.below.size), fun b h1 h2 => (hb.block b (Nat.lt_of_lt_of_le h1 h.size)).trans (h.keep b h1 h2), (h.row.below hE hb (fun k hk => hk.1.2)).more hE (fun k hk => ⟨⟨hk.1.1, Nat.lt_of_lt_of_le hk.1.2 hb.size⟩, hk.2⟩), Nat.le_trans h.size hb.size, h.gl⟩
theorem LpJ.put (hE : E.Ok) {w6 w8 : World} {g8 c8 i : Nat} {k' : α} (h : LpJ E cf g w W1 KA kc ks w6) (hat : (Value.slice KA ks.length kc).ownBlock = some g8 ∨ w6.heap.size ≤ g8)
    (hgr : ∀ b, b < w6.heap.size → (Value.slice KA ks.length kc).ownBlock ≠ some b → w8.heap[b]? = w6.heap[b]?) (hcf : ∀ x y, (cf x).setIfInBounds i y = cf y)
    (hr : ElRow E w8 W1.heap.size (fun b => (W1.heap.size ≤ b ∧ b < w6.heap.size) ∧ (Value.slice KA ks.length kc).ownBlock ≠ some b) (.slice (some ⟨g8, 0, none⟩) (ks.length + 1) c8) (ks ++ [k'])) (hb : Below W1.heap.size w6 w8) :
    LpJ E cf g w W1 (some ⟨g8, 0, none⟩) c8 (ks ++ [k']) (w8.setCell ⟨g, i, none⟩ (.slice (some ⟨g8, 0, none⟩) (ks.length + 1) c8)) := by
  have hlen : (ks ++ [k']).length = ks.length + 1 := by simp
  have hsz : (w8.setCell ⟨g, i, none⟩ (.slice (some ⟨g8, 0, none⟩) (ks.length + 1) c8)).heap.size = w8.heap.size := by simp [World.setCell]
  have hset : ∀ b, b ≠ g → (w8.setCell ⟨g, i, none⟩ (.slice (some ⟨g8, 0, none⟩) (ks.length + 1) c8)).heap[b]? = w8.heap[b]? := fun b hb => Below.heap_setCell _ _ _ _ hb
  have hbs := hb.size
  have hs := h.size
  have hg := h.gl
  have hbw := h.below.size
  have hn8 : w8.heap[g]? = _ := (hb.block g hg.2).trans h.nd
  refine ⟨?_, ?_, fun b h1 h2 => (hset b h2).trans ((hb.block b h1).trans (h.keep b h1 h2)), ?_, by rw [hsz]; omega, hg⟩
  · rw [hlen]
    have := heap_set (i := i) hn8 (.slice (some ⟨g8, 0, none⟩) (ks.length + 1) c8)
    rw [hcf] at this
    exact this
  · exact (h.below.trans (hb.mono (by omega))).trans ((Upd.set_ g i w8 _).below hg.1 (by omega))
  · rw [hlen, hsz]
    have h8 := hr.lt g8 rfl
    have hne : ∀ b, (Value.slice (some ⟨g8, 0, none⟩) (ks.length + 1) c8).ownBlock = some b → b ≠ g := fun b hb' => by
      have e2 : g8 = b := by simpa [Value.ownBlock] using hb'
      omega
    refine (hr.heap hE (fun b hb' => hset b (hne b hb')) (fun b hb' => hset b (by have := hb'.1.1; omega))).more hE (fun b hb' => ?_)
    refine ⟨⟨hb'.1.1, by have := hb'.1.2; omega⟩, fun e => ?_⟩
    have e2 : g8 = b := by simpa [Value.ownBlock] using e
    rcases hat with h9 | h9
    · exact hb'.2 (by rw [h9, e2])
    · have := hb'.1.2; omega
end
abbrev zVZ : Array Value := #[.int .i64 0, .bool false, .int .i64 0, .string ⟨#[]⟩, .slice none 0 0, .slice none 0 0, .int .i64 0]
mutual
/-- No slice longer than a thousand million. -/
def JSlim : JV → Prop
  | .mk _ _ _ _ is ms _ => (is.length ≤ 1000000000 ∧ ms.length ≤ 1000000000) ∧ JSlimL is ∧ JSlimM ms
def JSlimL : List JV → Prop
  | [] => True
  | v :: l => JSlim v ∧ JSlimL l
def JSlimM : List JM → Prop
  | [] => True
  | .mk _ v _ :: l => JSlim v ∧ JSlimM l
end
theorem JSlimL.mem : ∀ {l : List JV}, JSlimL l → ∀ v ∈ l, JSlim v
  | x :: l, h, v, hv => by
    rw [JSlimL] at h
    rcases List.mem_cons.1 hv with rfl | hv
    · exact h.1
    · exact JSlimL.mem h.2 v hv
theorem JSlimM.mem : ∀ {l : List JM}, JSlimM l → ∀ m ∈ l, JSlim m.val
  | .mk k v p :: l, h, m, hm => by
    rw [JSlimM] at h
    rcases List.mem_cons.1 hm with rfl | hm
    · exact h.1
    · exact JSlimM.mem h.2 m hm
theorem JSlim.form {v : JV} (h : JSlim v) : v.items.length ≤ 1000000000 ∧ v.mems.length ≤ 1000000000 ∧ (∀ x ∈ v.items, JSlim x) ∧ ∀ m ∈ v.mems, JSlim m.val := by
  cases v with
  | mk a b c d is ms e => rw [JSlim] at h; exact ⟨h.1.1, h.1.2, h.2.1.mem, h.2.2.mem⟩
mutual
theorem jslim_of_ful : ∀ (v : JV), jful v ≤ 1000000000 → JSlim v
  | .mk k b n s is ms q, h => by
    rw [jful] at h
    have h1 := jfulL_len is
    have h2 := jfulM_len ms
    rw [JSlim]
    exact ⟨⟨by omega, by omega⟩, jslimL_of_ful is (by omega), jslimM_of_ful ms (by omega)⟩
theorem jslimL_of_ful : ∀ (l : List JV), jfulL l ≤ 1000000000 → JSlimL l
  | [], _ => by rw [JSlimL]; trivial
  | v :: l, h => by rw [jfulL] at h; rw [JSlimL]; exact ⟨jslim_of_ful v (by omega), jslimL_of_ful l (by omega)⟩
theorem jslimM_of_ful : ∀ (l : List JM), jfulM l ≤ 1000000000 → JSlimM l
  | [], _ => by rw [JSlimM]; trivial
  | .mk k v q :: l, h => by rw [jfulM] at h; rw [JSlimM]; exact ⟨jslim_of_ful v (by omega), jslimM_of_ful l (by omega)⟩
end
set_option maxHeartbeats 8000000 in
set_option maxRecDepth 100000 in
theorem strip11_any (g : Nat) : ∀ (v : JV) (u : Value) (w : World), jsz v ≤ g → JSlim v → ValV w (· < w.heap.size) v u →
    Calls Tryd.prog 10 #[u] w fun e w' => ∃ y, e = .returned y ∧ ValV w' (fun j => w.heap.size ≤ j ∧ j < w'.heap.size) (stripJ v) y ∧ Below w.heap.size w w' := by
  induction g with
  | zero => intro v u w h; have := jsz_pos v; omega
  | succ g ih =>
    intro v u w hg hfn hv
    obtain ⟨IA, ic, MA, mc, rfl, hi, hm, hic, hmc⟩ := hv.open_
    obtain ⟨hf1, hf2, hf4, hf5⟩ := hfn.form
    obtain ⟨W0, hW0⟩ : ∃ W0, ((w.alloc (valBox v IA ic MA mc)).alloc (.cells zVZ 25)).alloc (.cells #[.int .i64 v.kind, .bool v.b, .int .i64 v.n, .string (S v.s), .slice none 0 0, .slice none 0 0, .int .i64 0] 25) = W0 := ⟨_, rfl⟩
    have hb0 : Below w.heap.size w W0 := by rw [← hW0]; exact (((Below.refl _ _).alloc (Nat.le_refl _) _).alloc (by simp) _).alloc (by simp; omega) _
    have hz0 : W0.heap.size = w.heap.size + 3 := by rw [← hW0]; simp
    have hg0 : W0.heap[w.heap.size]? = some (valBox v IA ic MA mc) := by rw [← hW0]; exact alloc_old (alloc_old (heap_alloc_new _ _))
    have hg1 : W0.heap[w.heap.size + 1]? = some (.cells zVZ 25 (0, 0)) := by rw [← hW0]; exact alloc_old (alloc_at (by simp))
    have hg2 : W0.heap[w.heap.size + 1 + 1]? = some (.cells #[.int .i64 v.kind, .bool v.b, .int .i64 v.n, .string (S v.s), .slice none 0 0, .slice none 0 0, .int .i64 0] 25 (0, 0)) := by rw [← hW0]; exact alloc_at (by simp)
    obtain ⟨x0, x1, x2, x3, x4, x5, x6⟩ := jbox_cells hg0
    have k0 : LpJ valE (fun y => #[.int .i64 v.kind, .bool v.b, .int .i64 v.n, .string (S v.s), y, .slice none 0 0, .int .i64 0]) (w.heap.size + 1 + 1) w W0 none 0 [] W0 := ⟨hg2, hb0, fun _ _ _ => rfl, ElRow.nil _ _ _ _, Nat.le_refl _, ⟨by omega, by omega⟩⟩
    have K0 := Lib.hid k0
    have HI := Lib.hid hi
    have HM := Lib.hid hm
    have HIH := Lib.hid ih
    have HG := Lib.hid hg
    have HF4 := Lib.hid hf4
    have HF5 := Lib.hid hf5
    have HG0 := Lib.hid hg0
    have HG1 := Lib.hid hg1
    have HW0 := Lib.hid hW0
    have HLL : Hid (v.items.length ≤ 1000000000 ∧ v.mems.length ≤ 1000000000) := ⟨hf1, hf2⟩
    clear k0 hi hm ih hg hf4 hf5 hg0 hg1 hg2 hv hfn hb0 hW0 x0 x1 x2 x3 x4 x5 x6
    go_enter Tryd.func10, Tryd.ntmps10
    go_wp2_with fail
    go_loopw [20] (fun i20 wr => ∃ (i : Nat) (KA : Option Addr) (kc : Nat), i ≤ v.items.length ∧ i20 = .int .i64 i ∧ LpJ valE (fun y => #[.int .i64 v.kind, .bool v.b, .int .i64 v.n, .string (S v.s), y, .slice none 0 0, .int .i64 0]) (w.heap.size + 1 + 1) w W0 KA kc ((v.items.take i).map stripJ) wr) (fun i20 _ => v.items.length - (intOf i20).toNat)
    case atStart => rw [HW0.out]; exact ⟨0, none, 0, Nat.zero_le _, rfl, K0.out⟩
    case round =>
      obtain ⟨i, KA, kc, hi, rfl, hst⟩ := hrel
      have hsz1 := hst.size
      by_cases hlt : i < v.items.length
      · have hlt' : (i : Int) < v.items.length := by omega
        obtain ⟨b, off, cs, rfl, hbl, hr, hcs⟩ := HI.out.at_ hlt
        have hr1 := rangeAt_keep hr (hst.below.block b hbl)
        have hnk := jsz_item (List.getElem_mem hlt)
        have hsl := HF4.out _ (List.getElem_mem hlt)
        have hmap : (v.items.take (i + 1)).map stripJ = (v.items.take i).map stripJ ++ [stripJ v.items[i]] := by
          rw [List.take_succ_eq_append_getElem hlt, List.map_append]; rfl
        have hml : ((v.items.take i).map stripJ).length = i := by simp; omega
        have hcs2 := ValP.keep (fun k hk => hst.below.block k hk) (fun k hk => Nat.lt_of_lt_of_le hk hst.below.size) _ _ hcs
        generalize v.items[i] = x at *
        generalize (v.items.take i).map stripJ = ks at *
        subst hml
        obtain ⟨NA, nc, NM, nd, hcse⟩ := hcs2.cells
        subst hcse
        have hz4 : (wr.alloc (valBox x NA nc NM nd)).heap.size = wr.heap.size + 1 := by simp
        have X4 := heap_alloc_new wr (valBox x NA nc NM nd)
        have hL4 := hst.next valE_ok ((Below.refl _ wr).alloc (Nat.le_refl _) (valBox x NA nc NM nd))
        have y4 : (wr.alloc (valBox x NA nc NM nd)).drew.cell? ⟨w.heap.size + 1 + 1, 4, none⟩ = some (.slice KA ks.length kc) := by rw [Lib.cell_of_heap (show (wr.alloc (valBox x NA nc NM nd)).drew.heap[w.heap.size + 1 + 1]? = _ from hL4.nd)]; rfl
        have hcall := HIH.out x _ (wr.alloc (valBox x NA nc NM nd)).drew (by have := HG.out; omega) hsl ⟨_, rfl, ValP.keep (w := wr) (w' := (wr.alloc (valBox x NA nc NM nd)).drew) (fun b hb => by show (wr.alloc (valBox x NA nc NM nd)).heap[b]? = _; exact Below.heap_alloc _ _ _ hb) (fun b hb => by show b < (wr.alloc (valBox x NA nc NM nd)).heap.size; have : b < wr.heap.size := hb; omega) _ _ hcs2⟩
        have hsm : stripJ x = stripJ x := rfl
        rw [hsm] at hmap
        clear hsm
        generalize stripJ x = k2 at *
        have HC := Lib.hid hcall
        have L4 := Lib.hid hL4
        have HX4 := Lib.hid X4
        have HR1 := Lib.hid hr1
        have HMAP := Lib.hid hmap
        have hll : ks.length < 10000000000 := by have := HLL.out; omega
        have HLK := Lib.hid hll
        have hkt : ∀ j, (Value.slice KA ks.length kc).ownBlock = some j → j < wr.heap.size := fun j hj => (hst.row.lt j hj).2
        have HKT := Lib.hid hkt
        have hgl := hst.gl
        clear hcall hL4 X4 hr1 hmap hll hcs hcs2 hst hr hsl hnk hkt HIH HG HF4
        go_wp2_with (with_reducible refine gate ?_; refine wp_load_val rfl _ rfl b (off + ks.length * 7) rfl _ rfl HR1.out ?_)
        generalize wr.alloc (valBox x NA nc NM nd) = W4 at *
        obtain ⟨q0, q1, q2, q3, q4, q5, q6⟩ := jbox_cells (w := W4.drew) HX4.out
        go_region_law
          (first
            | ((refine els_append_step valE_ok rfl _ _ rfl w5 W0.heap.size _ (.slice KA ks.length kc) ks rfl L5.out.row k2 [.int .i64 k2.kind, .bool k2.b, .int .i64 k2.n, .string (S k2.s), .slice QA k2.items.length qc, .slice QM k2.mems.length qd, .int .i64 k2.pos] w5.heap.size rfl rfl HKN.out (fun _ h => h.2) (fun _ h => h.1.2) (by omega) HLK.out ?_; intro g8 c8 w8 hat8 hlt8 hrow8 hgr8 hb8; have hnd8 := (hb8.block (w.heap.size + 1 + 1) (by omega)).trans L5.out.nd; have f8 := Lib.frozen_of_heap hnd8 4; have z4 : w8.cell? ⟨w.heap.size + 1 + 1, 4, none⟩ = some (.slice KA ks.length kc) := (by rw [Lib.cell_of_heap hnd8]; rfl); have HPUT := Lib.hid (L5.out.put (i := 4) valE_ok hat8 (fun j h1 h2 => hgr8.grown.block j h1 (fun e => h2 e.symm)) (fun _ _ => rfl) hrow8 hb8); clear hat8 hlt8 hrow8 hgr8 hb8 hnd8))
            | (go_wp2_with ((go_at_call 10; refine (HC.out).mono ?_; rintro e w5 ⟨u, rfl, ⟨cs5, rfl, hn5⟩, hb5⟩; obtain ⟨QA, qc, QM, qd, hce5⟩ := hn5.cells; subst hce5; have hb5' : Below W4.heap.size W4 w5 := below_undrew hb5; have L5 := Lib.hid (L4.out.next valE_ok hb5'); have y5 : w5.cell? ⟨w.heap.size + 1 + 1, 4, none⟩ = some (.slice KA ks.length kc) := (by rw [Lib.cell_of_heap L5.out.nd]; rfl); have y6 : (w5.alloc (.cells [.int .i64 k2.kind, .bool k2.b, .int .i64 k2.n, .string (S k2.s), .slice QA k2.items.length qc, .slice QM k2.mems.length qd, .int .i64 k2.pos].toArray 25)).cell? ⟨w.heap.size + 1 + 1, 4, none⟩ = some (.slice KA ks.length kc) := (by rw [Lib.cell_of_heap (alloc_old L5.out.nd)]; rfl); have hz5 := hb5'.size; have HKN : Hid (valE.El w5 (fun b => (W0.heap.size ≤ b ∧ b < w5.heap.size) ∧ (Value.slice KA ks.length kc).ownBlock ≠ some b) k2 [.int .i64 k2.kind, .bool k2.b, .int .i64 k2.n, .string (S k2.s), .slice QA k2.items.length qc, .slice QM k2.mems.length qd, .int .i64 k2.pos]) := Lib.hid (ValP.keep (fun _ _ => rfl) (fun j hj => ⟨⟨by have h1 : W4.heap.size ≤ j := hj.1; omega, hj.2⟩, fun e => by have h1 : W4.heap.size ≤ j := hj.1; have := HKT.out j e; omega⟩) _ _ hn5); clear hn5 hb5 hb5'))))
        all_goals
          clear HX4 L4 HC HKN HR1 q0 q1 q2 q3 q4 q5 q6
          go_wp2_with fail
          go_roundw
          case rel => exact ⟨ks.length + 1, some ⟨g8, 0, none⟩, c8, by omega, by go_num, by rw [HMAP.out]; exact HPUT.out⟩
          case measure => simp [intOf]; omega
      · obtain rfl : i = v.items.length := by omega
        rw [List.take_length] at hst
        have hst : LpJ valE (fun y => #[.int .i64 v.kind, .bool v.b, .int .i64 v.n, .string (S v.s), y, .slice none 0 0, .int .i64 0]) (w.heap.size + 1 + 1) w W0 KA kc (v.items.map stripJ) wr := hst
        have hlt' : ¬ ((v.items.length : Int) < v.items.length) := by omega
        have hbx := (hst.keep w.heap.size (by omega) (by omega)).trans HG0.out
        have x5 := (jbox_cells hbx).2.2.2.2.2.1
        have hres1 := (hst.keep (w.heap.size + 1) (by omega) (by omega)).trans HG1.out
        obtain ⟨vs, hvs⟩ : ∃ vs, v.items.map stripJ = vs := ⟨_, rfl⟩
        rw [hvs] at hst
        obtain ⟨VA, rfl⟩ : ∃ VA, VA = KA := ⟨_, rfl⟩
        obtain ⟨vc, rfl⟩ : ∃ vc, vc = kc := ⟨_, rfl⟩
        obtain ⟨w1, rfl⟩ : ∃ w1, w1 = wr := ⟨_, rfl⟩
        have k1 : LpJ memE (fun y => #[.int .i64 v.kind, .bool v.b, .int .i64 v.n, .string (S v.s), .slice VA vs.length vc, y, .int .i64 0]) (w.heap.size + 1 + 1) w w1 none 0 [] w1 := ⟨hst.nd, hst.below, fun _ _ _ => rfl, ElRow.nil _ _ _ _, Nat.le_refl _, ⟨by omega, by omega⟩⟩
        have K1 := Lib.hid k1
        have HST := Lib.hid hst
        have HVS := Lib.hid hvs
        have HR1 := Lib.hid hres1
        have hzw := hst.below.size
        clear k1 hvs hres1 hbx hlt hi K0 HG0 HG1 HI HF4
        clear hst
        go_wp2_with fail
        clear x5
        go_loopw [35] (fun i20 wr => ∃ (i : Nat) (KA : Option Addr) (kc : Nat), i ≤ v.mems.length ∧ i20 = .int .i64 i ∧ LpJ memE (fun y => #[.int .i64 v.kind, .bool v.b, .int .i64 v.n, .string (S v.s), .slice VA vs.length vc, y, .int .i64 0]) (w.heap.size + 1 + 1) w w1 KA kc ((v.mems.take i).map stripM) wr) (fun i20 _ => v.mems.length - (intOf i20).toNat)
        case atStart => exact ⟨0, none, 0, Nat.zero_le _, rfl, K1.out⟩
        case round =>
          obtain ⟨i, KA, kc, hi, rfl, hst⟩ := hrel
          have hsz1 := hst.size
          by_cases hlt : i < v.mems.length
          · have hlt' : (i : Int) < v.mems.length := by omega
            obtain ⟨b, off, cs, rfl, hbl, hr, hcs⟩ := HM.out.at_ hlt
            have hr1 := rangeAt_keep hr (hst.below.block b hbl)
            have hnk := jsz_mem (List.getElem_mem hlt)
            have hsl := HF5.out _ (List.getElem_mem hlt)
            have hmap : (v.mems.take (i + 1)).map stripM = (v.mems.take i).map stripM ++ [stripM v.mems[i]] := by
              rw [List.take_succ_eq_append_getElem hlt, List.map_append]; rfl
            have hml : ((v.mems.take i).map stripM).length = i := by simp; omega
            have hcs2 := MemP.keep (fun k hk => hst.below.block k hk) (fun k hk => Nat.lt_of_lt_of_le hk hst.below.size) hcs
            generalize v.mems[i] = x at *
            generalize (v.mems.take i).map stripM = ks at *
            subst hml
            obtain ⟨vcs, hcs2, hcse⟩ := hcs2
            obtain ⟨NA, nc, NM, nd, hvse, _, _, _, _⟩ := hcs2.open_
            subst hvse
            simp only [List.cons_append, List.nil_append] at hcse
            subst hcse
            have hz4 : (wr.alloc (memBox x NA nc NM nd)).heap.size = wr.heap.size + 1 := by simp
            have X4 := heap_alloc_new wr (memBox x NA nc NM nd)
            have hL4 := hst.next memE_ok ((Below.refl _ wr).alloc (Nat.le_refl _) (memBox x NA nc NM nd))
            have y4 : (wr.alloc (memBox x NA nc NM nd)).drew.cell? ⟨w.heap.size + 1 + 1, 5, none⟩ = some (.slice KA ks.length kc) := by rw [Lib.cell_of_heap (show (wr.alloc (memBox x NA nc NM nd)).drew.heap[w.heap.size + 1 + 1]? = _ from hL4.nd)]; rfl
            have hcall := HIH.out x.val _ (wr.alloc (memBox x NA nc NM nd)).drew (by have := HG.out; omega) hsl ⟨_, rfl, ValP.keep (w := wr) (w' := (wr.alloc (memBox x NA nc NM nd)).drew) (fun b hb => by show (wr.alloc (memBox x NA nc NM nd)).heap[b]? = _; exact Below.heap_alloc _ _ _ hb) (fun b hb => by show b < (wr.alloc (memBox x NA nc NM nd)).heap.size; have : b < wr.heap.size := hb; omega) _ _ hcs2⟩
            have hsm : stripM x = .mk x.key (stripJ x.val) 0 := rfl
            rw [hsm] at hmap
            clear hsm
            generalize stripJ x.val = k2 at *
            have HC := Lib.hid hcall
            have L4 := Lib.hid hL4
            have HX4 := Lib.hid X4
            have HR1 := Lib.hid hr1
            have HMAP := Lib.hid hmap
            have hll : ks.length < 10000000000 := by have := HLL.out; omega
            have HLK := Lib.hid hll
            have hkt : ∀ j, (Value.slice KA ks.length kc).ownBlock = some j → j < wr.heap.size := fun j hj => (hst.row.lt j hj).2
            have HKT := Lib.hid hkt
            have hgl := hst.gl
            clear hcall hL4 X4 hr1 hmap hll hcs hcs2 hst hr hsl hnk hkt HIH HG HF5
            go_wp2_with (with_reducible refine gate ?_; refine wp_load_mem rfl _ rfl b (off + ks.length * 9) rfl _ rfl HR1.out ?_)
            generalize wr.alloc (memBox x NA nc NM nd) = W4 at *
            obtain ⟨q0, q1, q2, q3, q4, q5, q6, q7, q8⟩ := mbox_cells (w := W4.drew) HX4.out
            go_region_law
              (first
                | ((refine els_append_step memE_ok rfl _ _ rfl w5 w1.heap.size _ (.slice KA ks.length kc) ks rfl L5.out.row (.mk x.key k2 0) [.string (S x.key), .int .i64 k2.kind, .bool k2.b, .int .i64 k2.n, .string (S k2.s), .slice QA k2.items.length qc, .slice QM k2.mems.length qd, .int .i64 k2.pos, .int .i64 0] w5.heap.size rfl rfl HKN.out (fun _ h => h.2) (fun _ h => h.1.2) (by omega) HLK.out ?_; intro g8 c8 w8 hat8 hlt8 hrow8 hgr8 hb8; have hnd8 := (hb8.block (w.heap.size + 1 + 1) (by omega)).trans L5.out.nd; have f8 := Lib.frozen_of_heap hnd8 5; have z4 : w8.cell? ⟨w.heap.size + 1 + 1, 5, none⟩ = some (.slice KA ks.length kc) := (by rw [Lib.cell_of_heap hnd8]; rfl); have HPUT := Lib.hid (L5.out.put (i := 5) memE_ok hat8 (fun j h1 h2 => hgr8.grown.block j h1 (fun e => h2 e.symm)) (fun _ _ => rfl) hrow8 hb8); clear hat8 hlt8 hrow8 hgr8 hb8 hnd8))
                | (go_wp2_with ((go_at_call 10; refine (HC.out).mono ?_; rintro e w5 ⟨u, rfl, ⟨cs5, rfl, hn5⟩, hb5⟩; obtain ⟨QA, qc, QM, qd, hce5⟩ := hn5.cells; subst hce5; have hb5' : Below W4.heap.size W4 w5 := below_undrew hb5; have L5 := Lib.hid (L4.out.next memE_ok hb5'); have y5 : w5.cell? ⟨w.heap.size + 1 + 1, 5, none⟩ = some (.slice KA ks.length kc) := (by rw [Lib.cell_of_heap L5.out.nd]; rfl); have y6 : (w5.alloc (.cells [.string (S x.key), .int .i64 k2.kind, .bool k2.b, .int .i64 k2.n, .string (S k2.s), .slice QA k2.items.length qc, .slice QM k2.mems.length qd, .int .i64 k2.pos, .int .i64 0].toArray 45)).cell? ⟨w.heap.size + 1 + 1, 5, none⟩ = some (.slice KA ks.length kc) := (by rw [Lib.cell_of_heap (alloc_old L5.out.nd)]; rfl); have hz5 := hb5'.size; have m50 : w5.cell? ⟨wr.heap.size, 0, none⟩ = some (.string (S x.key)) := (mbox_cells ((hb5'.block wr.heap.size (by omega)).trans HX4.out)).1; have HKN : Hid (memE.El w5 (fun b => (w1.heap.size ≤ b ∧ b < w5.heap.size) ∧ (Value.slice KA ks.length kc).ownBlock ≠ some b) (.mk x.key k2 0) [.string (S x.key), .int .i64 k2.kind, .bool k2.b, .int .i64 k2.n, .string (S k2.s), .slice QA k2.items.length qc, .slice QM k2.mems.length qd, .int .i64 k2.pos, .int .i64 0]) := Lib.hid (⟨_, ValP.keep (fun _ _ => rfl) (fun j hj => ⟨⟨by have h1 : W4.heap.size ≤ j := hj.1; omega, hj.2⟩, fun e => by have h1 : W4.heap.size ≤ j := hj.1; have := HKT.out j e; omega⟩) _ _ hn5, rfl⟩); clear hn5 hb5 hb5'))))
            all_goals
              clear HX4 L4 HC HKN HR1 q0 q1 q2 q3 q4 q5 q6 q7 q8
              go_wp2_with fail
              go_roundw
              case rel => exact ⟨ks.length + 1, some ⟨g8, 0, none⟩, c8, by omega, by go_num, by rw [HMAP.out]; exact HPUT.out⟩
              case measure => simp [intOf]; omega
          · obtain rfl : i = v.mems.length := by omega
            rw [List.take_length] at hst
            have hst2 : LpJ memE (fun y => #[.int .i64 v.kind, .bool v.b, .int .i64 v.n, .string (S v.s), .slice VA vs.length vc, y, .int .i64 0]) (w.heap.size + 1 + 1) w w1 KA kc (v.mems.map stripM) wr := hst
            have hlt' : ¬ ((v.mems.length : Int) < v.mems.length) := by omega
            have hnd := hst2.nd
            have hres := (hst2.keep (w.heap.size + 1) (by omega) (by omega)).trans HR1.out
            have HS2 := Lib.hid hst2
            clear hst hst2 hlt hi
            go_wp2_with (first
              | ((with_reducible refine gate ?_); first
                  | (refine wp_load_val rfl _ rfl (w.heap.size + 1 + 1) 0 rfl _ rfl (range_of_heap hnd) ?_)
                  | (refine wp_store_valQ rfl _ _ rfl (w.heap.size + 1) _ _ _ _ _ _ _ _ _ _ _ _ rfl rfl hres rfl ?_; intro w9 hx9 hu9)))
            refine bodyPost_ret (v := .agg _) (res_whole Tryd.results10 _ _ (w.heap.size + 1) rfl 25 _ hx9 Tryd.underlying25 rfl valSize) rfl ⟨_, rfl, ⟨_, rfl, ?_⟩, HS2.out.below.trans (hu9.below (by omega) HS2.out.below.size)⟩
            have hz9 := hu9.size
            have h1 := HST.out.row
            have h2 := HS2.out.row
            have hzz := HS2.out.size
            have e1 : ElsP valE w9 (fun j => w.heap.size ≤ j ∧ j < w9.heap.size) (.slice VA vs.length vc) vs := (h1.heap valE_ok (w' := w9) (fun k hk => (hu9.block k (by have := h1.lt k hk; omega) (by have := h1.lt k hk; omega)).trans (HS2.out.keep k (h1.lt k hk).2 (by have := h1.lt k hk; omega))) (fun k hk => (hu9.block k (by have := hk.1.2; omega) (by have := hk.1.1; omega)).trans (HS2.out.keep k hk.1.2 (by have := hk.1.1; omega)))).elsP valE_ok (fun k hk => ⟨by have := hk.1.1; omega, by have := hk.1.2; omega⟩) (fun k hk => ⟨by have := h1.lt k hk; omega, by have := h1.lt k hk; omega⟩)
            have e2 : ElsP memE w9 (fun j => w.heap.size ≤ j ∧ j < w9.heap.size) (.slice KA (v.mems.map stripM).length kc) (v.mems.map stripM) := (h2.heap memE_ok (w' := w9) (fun k hk => hu9.block k (h2.lt k hk).2 (by have := h2.lt k hk; omega)) (fun k hk => hu9.block k hk.1.2 (by have := hk.1.1; omega))).elsP memE_ok (fun k hk => ⟨by have := hk.1.1; omega, by have := hk.1.2; omega⟩) (fun k hk => ⟨by have := h2.lt k hk; omega, by have := h2.lt k hk; omega⟩)
            have ef : stripJ v = .mk v.kind v.b v.n v.s vs (v.mems.map stripM) 0 := by rw [stripJ_form, stripJL_map, stripJM_map, HVS.out]; rfl
            rw [ef]
            exact ValP.of_open (n := .mk v.kind v.b v.n v.s vs (v.mems.map stripM) 0) e1 e2
end Go.Proofs.YthlppbpccldikaaDoor
