/-
  Plain laws of chapter 9: what the canonical form tells of a tree; validity, depth and the reference's check. No program.
-/
import Derived.Test.YthilaolkkamedaaDoorSpec10
import Derived.Test.YthilaolkkamedaaDoorSpec11
set_option linter.unusedVariables false
namespace Go.Proofs.YthilaolkkamedaaDoor

/-! Bytes of names. -/
/-- The bytes that end a name within a tag. -/
def sep (c : UInt8) : Bool := c.toNat == 32 || c.toNat == 34 || c.toNat == 47 || c.toNat == 60 || c.toNat == 61 || c.toNat == 62
theorem qch_sep {f : Bool} {r : Nat} (h : qch f r = true) (h128 : r < 128) : r ≠ 32 ∧ r ≠ 34 ∧ r ≠ 47 ∧ r ≠ 60 ∧ r ≠ 61 ∧ r ≠ 62 := by
  have key : ∀ r : Int, (r = 32 ∨ r = 34 ∨ r = 47 ∨ r = 60 ∨ r = 61 ∨ r = 62) → qch f r = false := by
    rintro r (rfl | rfl | rfl | rfl | rfl | rfl) <;> cases f <;> decide
  refine ⟨?_, ?_, ?_, ?_, ?_, ?_⟩ <;> (intro e; subst e; rw [key _ (by decide)] at h; cases h)
theorem enc_byte {r : Nat} (h : okRune r) : ∀ x ∈ enc r, x.toNat = r ∧ r < 128 ∨ 128 ≤ x.toNat := by
  unfold enc
  rw [if_neg (by simpa using h)]
  unfold okRune at h
  intro x hx
  by_cases h1 : r < 128
  · rw [if_pos h1] at hx
    simp only [List.mem_cons, List.not_mem_nil, or_false] at hx
    subst hx
    exact .inl ⟨u8_of (by omega), h1⟩
  · rw [if_neg h1] at hx
    right
    by_cases h2 : r < 2048
    · rw [if_pos h2] at hx
      simp only [List.mem_cons, List.not_mem_nil, or_false] at hx
      rcases hx with rfl | rfl <;> rw [u8_of (by omega)] <;> omega
    · rw [if_neg h2] at hx
      by_cases h3 : r < 65536
      · rw [if_pos h3] at hx
        simp only [List.mem_cons, List.not_mem_nil, or_false] at hx
        rcases hx with rfl | rfl | rfl <;> rw [u8_of (by omega)] <;> omega
      · rw [if_neg h3] at hx
        simp only [List.mem_cons, List.not_mem_nil, or_false] at hx
        rcases hx with rfl | rfl | rfl | rfl <;> rw [u8_of (by omega)] <;> omega
theorem name_bytes (m : Nat) : ∀ (l : Bytes) (f : Bool), l.length ≤ m → nmS 0 f l = l.length → ∀ x ∈ l, sep x = false := by
  induction m with
  | zero => intro l f h _ x hx; have : l = [] := List.eq_nil_of_length_eq_zero (by omega); subst this; simp at hx
  | succ m ih =>
    intro l f h hn x hx
    by_cases h0 : (dec l).2 = 0
    · rw [nm_stop (.inl h0)] at hn
      have : l = [] := List.eq_nil_of_length_eq_zero hn.symm
      subst this; simp at hx
    · cases hq : qch f (dec l).1
      · rw [nm_stop (.inr hq)] at hn
        have : l = [] := List.eq_nil_of_length_eq_zero hn.symm
        subst this; simp at hx
      · have hd := dec_enc l h0
        have hle := (dec_le l).1
        rw [nm_next h0 hq] at hn
        have hdl : (l.drop (dec l).2).length = l.length - (dec l).2 := by simp
        rw [← List.take_append_drop (dec l).2 l, List.mem_append] at hx
        rcases hx with hx | hx
        · rw [← hd.2] at hx
          rcases enc_byte hd.1 x hx with ⟨e, h1⟩ | h1
          · have := qch_sep hq h1
            unfold sep
            rw [e]
            simp [this]
          · unfold sep
            simp
            omega
        · exact ih (l.drop (dec l).2) false (by omega) (by omega) x hx
theorem qname_bytes {l : Bytes} (h : isQName l = true) : l ≠ [] ∧ ∀ x ∈ l, sep x = false := by
  rw [isQName_iff] at h
  exact ⟨h.1, name_bytes _ l true (Nat.le_refl _) h.2⟩

/-! Splitting at the first byte of some kind. -/
theorem split_at {p : UInt8 → Bool} : ∀ {a b : Bytes} {x y : UInt8} {s t : Bytes}, (∀ c ∈ a, p c = false) → (∀ c ∈ b, p c = false) → p x = true → p y = true → a ++ x :: s = b ++ y :: t → a = b ∧ x = y ∧ s = t
  | [], [], x, y, s, t, _, _, _, _, h => by simpa using h
  | [], c :: b, x, y, s, t, _, hb, hx, _, h => by
    simp only [List.nil_append, List.cons_append, List.cons.injEq] at h
    have := hb c (by simp)
    rw [← h.1, hx] at this; cases this
  | c :: a, [], x, y, s, t, ha, _, _, hy, h => by
    simp only [List.nil_append, List.cons_append, List.cons.injEq] at h
    have := ha c (by simp)
    rw [h.1, hy] at this; cases this
  | c :: a, d :: b, x, y, s, t, ha, hb, hx, hy, h => by
    simp only [List.cons_append, List.cons.injEq] at h
    obtain ⟨h1, h2, h3⟩ := split_at (fun z hz => ha z (by simp [hz])) (fun z hz => hb z (by simp [hz])) hx hy h.2
    exact ⟨by rw [h.1, h1], h2, h3⟩

/-! Escaping. -/
theorem escOne_cases (a : Bool) (c : UInt8) : (escOne a c = [c] ∧ rep a c = []) ∨ (escOne a c = rep a c ∧ rep a c ≠ []) := by
  unfold escOne
  by_cases h : rep a c = []
  · left; rw [if_pos h]; exact ⟨rfl, h⟩
  · right; rw [if_neg h]; exact ⟨rfl, h⟩
theorem rep_cases (a : Bool) (c : UInt8) : rep a c = [] ∧ c.toNat ≠ 38 ∧ c.toNat ≠ 60 ∧ (a = true → c.toNat ≠ 34) ∨ rep a c = [38, 97, 109, 112, 59] ∧ c.toNat = 38 ∨ rep a c = [38, 108, 116, 59] ∧ c.toNat = 60 ∨ rep a c = [38, 103, 116, 59] ∧ c.toNat = 62 ∨ rep a c = [38, 35, 49, 51, 59] ∧ c.toNat = 13 ∨ rep a c = [38, 113, 117, 111, 116, 59] ∧ c.toNat = 34 ∨ rep a c = [38, 35, 57, 59] ∧ c.toNat = 9 ∨ rep a c = [38, 35, 49, 48, 59] ∧ c.toNat = 10 := by
  unfold rep
  by_cases h1 : c.toNat = 38
  · simp [h1]
  by_cases h2 : c.toNat = 60
  · simp [h2]
  by_cases h3 : c.toNat = 62
  · simp [h3]
  by_cases h4 : c.toNat = 13
  · simp [h4]
  by_cases h5 : a = true ∧ c.toNat = 34
  · simp [h5]
  by_cases h6 : a = true ∧ c.toNat = 9
  · simp [h6]
  by_cases h7 : a = true ∧ c.toNat = 10
  · simp [h7]
  left
  rw [if_neg h1, if_neg h2, if_neg h3, if_neg h4, if_neg h5, if_neg h6, if_neg h7]
  exact ⟨rfl, h1, h2, fun ha e => h5 ⟨ha, e⟩⟩
theorem escOne_bytes (a : Bool) (c : UInt8) : ∀ x ∈ escOne a c, x.toNat ≠ 60 ∧ (a = true → x.toNat ≠ 34) := by
  intro x hx
  rcases escOne_cases a c with ⟨h, hr⟩ | ⟨h, hr⟩
  · rw [h] at hx
    simp only [List.mem_cons, List.not_mem_nil, or_false] at hx
    subst hx
    rcases rep_cases a x with h | h | h | h | h | h | h | h
    · exact ⟨h.2.2.1, h.2.2.2⟩
    all_goals (rw [hr] at h; exact absurd h.1 (by simp))
  · rw [h] at hx
    rcases rep_cases a c with h | h | h | h | h | h | h | h
    · exact absurd h.1 hr
    all_goals
      rw [h.1] at hx
      simp only [List.mem_cons, List.not_mem_nil, or_false] at hx
      rcases hx with rfl | rfl | rfl | rfl | rfl | rfl <;> simp
theorem esc_bytes (a : Bool) (l : Bytes) : ∀ x ∈ esc a l, x.toNat ≠ 60 ∧ (a = true → x.toNat ≠ 34) := by
  intro x hx
  unfold esc at hx
  rw [List.mem_flatMap] at hx
  obtain ⟨c, _, hc⟩ := hx
  exact escOne_bytes a c x hc
theorem escOne_ne (a : Bool) (c : UInt8) : escOne a c ≠ [] := by
  rcases escOne_cases a c with ⟨h, hr⟩ | ⟨h, hr⟩ <;> rw [h]
  · simp
  · exact hr
theorem u8_ext {a b : UInt8} (h : a.toNat = b.toNat) : a = b := by rw [← u8_eq (a := a) rfl, h, u8_eq rfl]
theorem escOne_pre (a : Bool) (c d : UInt8) (x y : Bytes) (h : escOne a c ++ x = escOne a d ++ y) : c = d ∧ x = y := by
  have e38 : ∀ {c : UInt8}, rep a c = [] → c.toNat ≠ 38 := fun {c} hr => by
    rcases rep_cases a c with h | h | h | h | h | h | h | h
    · exact h.2.1
    all_goals (rw [hr] at h; exact absurd h.1 (by simp))
  have hd : ∀ {c : UInt8}, rep a c ≠ [] → ∃ t, rep a c = 38 :: t := fun {c} hr => by
    rcases rep_cases a c with h | h | h | h | h | h | h | h
    · exact absurd h.1 hr
    all_goals exact ⟨_, h.1⟩
  rcases escOne_cases a c with ⟨h1, hr1⟩ | ⟨h1, hr1⟩ <;> rcases escOne_cases a d with ⟨h2, hr2⟩ | ⟨h2, hr2⟩
  · rw [h1, h2] at h; simpa using h
  · obtain ⟨t, ht⟩ := hd hr2
    rw [h1, h2, ht] at h
    simp only [List.cons_append, List.cons.injEq] at h
    exact absurd (by rw [h.1]; rfl) (e38 hr1)
  · obtain ⟨t, ht⟩ := hd hr1
    rw [h1, h2, ht] at h
    simp only [List.cons_append, List.cons.injEq] at h
    exact absurd (by rw [← h.1]; rfl) (e38 hr2)
  · rw [h1, h2] at h
    rcases rep_cases a c with e | e | e | e | e | e | e | e <;> rcases rep_cases a d with g | g | g | g | g | g | g | g
    all_goals first
      | exact absurd e.1 hr1
      | exact absurd g.1 hr2
      | (rw [e.1, g.1] at h
         first
           | (exfalso; revert h; simp; done)
           | exact ⟨u8_ext (e.2.trans g.2.symm), by simpa using h⟩)
theorem esc_inj (a : Bool) : ∀ {l m : Bytes}, esc a l = esc a m → l = m
  | [], [], _ => rfl
  | [], d :: m, h => by
    simp only [esc, List.flatMap_nil, List.flatMap_cons] at h
    have := escOne_ne a d
    have h' := h.symm
    rw [List.append_eq_nil_iff] at h'
    exact absurd h'.1 this
  | c :: l, [], h => by
    simp only [esc, List.flatMap_nil, List.flatMap_cons] at h
    rw [List.append_eq_nil_iff] at h
    exact absurd h.1 (escOne_ne a c)
  | c :: l, d :: m, h => by
    simp only [esc, List.flatMap_cons] at h
    obtain ⟨h1, h2⟩ := escOne_pre a c d _ _ h
    rw [h1, esc_inj a (show esc a l = esc a m from h2)]
theorem esc_nil (a : Bool) {l : Bytes} (h : l ≠ []) : esc a l ≠ [] := by
  cases l with
  | nil => exact absurd rfl h
  | cons c l => simp only [esc, List.flatMap_cons]; intro e; rw [List.append_eq_nil_iff] at e; exact escOne_ne a c e.1

/-! The canonical form of attributes. -/
theorem attsOkS_of : ∀ {l : List Att} {s : List Bytes}, attsOkS s l = true → ∀ a ∈ l, a.space = [] ∧ isQName a.name = true
  | [], _, _, a, ha => by simp at ha
  | x :: l, s, h, a, ha => by
    rw [attsOkS] at h
    simp only [Bool.and_eq_true] at h
    rcases List.mem_cons.1 ha with rfl | ha
    · exact ⟨by simpa using h.1.1.1.1, h.1.1.2⟩
    · exact attsOkS_of h.2 a ha
theorem attC_form (a : Att) (r : Bytes) : attC a ++ r = 32 :: (a.name ++ 61 :: 34 :: (esc true a.value ++ 34 :: r)) := by
  simp [attC]
/-- What follows the attributes: '/' or '>'. -/
theorem attsC_inj : ∀ {l m : List Att} {x y : UInt8} {r s : Bytes}, (∀ a ∈ l, a.space = [] ∧ isQName a.name = true) → (∀ a ∈ m, a.space = [] ∧ isQName a.name = true) → (x.toNat = 47 ∨ x.toNat = 62) → (y.toNat = 47 ∨ y.toNat = 62) →
    attsC l ++ x :: r = attsC m ++ y :: s → l.length = m.length ∧ attsEqv false l m = true ∧ x = y ∧ r = s
  | [], [], x, y, r, s, _, _, _, _, h => by
    simp only [attsC, List.nil_append, List.cons.injEq] at h
    exact ⟨rfl, attsEqv_nil _ _, h.1, h.2⟩
  | [], b :: m, x, y, r, s, _, _, hx, _, h => by
    rw [attsC, attsC, List.append_assoc, attC_form] at h
    simp only [List.nil_append, List.cons.injEq] at h
    rw [h.1] at hx
    exact absurd hx (by decide)
  | a :: l, [], x, y, r, s, _, _, _, hy, h => by
    rw [attsC, attsC, List.append_assoc, attC_form] at h
    simp only [List.nil_append, List.cons.injEq] at h
    rw [← h.1] at hy
    exact absurd hy (by decide)
  | a :: l, b :: m, x, y, r, s, hl, hm, hx, hy, h => by
    rw [attsC, attsC, List.append_assoc, attC_form, List.append_assoc, attC_form] at h
    simp only [List.cons.injEq, true_and] at h
    have ha := qname_bytes (hl a (by simp)).2
    have hb := qname_bytes (hm b (by simp)).2
    obtain ⟨h1, _, h2⟩ := split_at ha.2 hb.2 (by decide) (by decide) h
    simp only [List.cons.injEq, true_and] at h2
    obtain ⟨h3, _, h4⟩ := split_at (p := fun c => c.toNat == 34) (fun c hc => by simpa using (esc_bytes true _ c hc).2 rfl) (fun c hc => by simpa using (esc_bytes true _ c hc).2 rfl) (by decide) (by decide) h2
    obtain ⟨h5, h6, h7, h8⟩ := attsC_inj (fun z hz => hl z (by simp [hz])) (fun z hz => hm z (by simp [hz])) hx hy h4
    refine ⟨by simp [h5], ?_, h7, h8⟩
    rw [attsEqv, h6, attEqv, h1, esc_inj true h3, (hl a (by simp)).1, (hm b (by simp)).1]
    simp

/-! The canonical form of a valid tree tells the tree. -/
theorem vld_head {lim : Bool} {n : Node} {d : Nat} (h : vld lim n d = true) : n.kind = 0 ∧ n.space = [] ∧ n.text = [] ∧ isQName n.name = true ∧ attsOk n.attrs = true ∧ vldL lim n.kids d false = true := by
  rw [vld_eq] at h
  simp only [Bool.and_eq_true, headOk, beq_iff_eq] at h
  obtain ⟨⟨_, ⟨⟨⟨h1, h2⟩, h3⟩, h4⟩, h5⟩, h6⟩ := h
  exact ⟨h1, h2, h3, h4, h5, h6⟩
theorem canon_vld {lim : Bool} {n : Node} {d : Nat} (h : vld lim n d = true) (r : Bytes) : canon n ++ r = 60 :: (n.name ++ (attsC n.attrs ++ (if n.kids.length = 0 then 47 :: 62 :: r else 62 :: (canonL n.kids ++ 60 :: 47 :: (n.name ++ 62 :: r))))) := by
  have hk := (vld_head h).1
  rw [canon_elem (by rw [hk]; decide)]
  split <;> simp
theorem data_form {k : Node} (h : dataOk k = true) : k.text ≠ [] ∧ k.space = [] ∧ k.name = [] ∧ k.attrs = [] ∧ k.kids = [] := by
  unfold dataOk at h
  simp only [Bool.and_eq_true, bne_iff_ne, beq_iff_eq] at h
  obtain ⟨⟨⟨⟨⟨h1, _⟩, h2⟩, h3⟩, h4⟩, h5⟩ := h
  exact ⟨h1, h2, h3, List.eq_nil_of_length_eq_zero h4, List.eq_nil_of_length_eq_zero h5⟩
theorem starts {ks : List Node} {d : Nat} {r : Bytes} (h : vldL false ks d true = true) : ∃ t, canonL ks ++ 60 :: r = 60 :: t := by
  cases ks with
  | nil => exact ⟨r, by simp [canonL]⟩
  | cons k ks =>
    rw [vldL] at h
    split at h
    · simp at h
    · simp only [Bool.and_eq_true] at h
      rw [canonL, List.append_assoc, canon_vld h.1]
      exact ⟨_, rfl⟩
theorem head_eqv {n m : Node} (h1 : n.kind = m.kind) (h2 : n.space = m.space) (h3 : n.name = m.name) (h4 : n.text = m.text) (h5 : n.attrs.length = m.attrs.length) (h6 : n.kids.length = m.kids.length) : headEqv false n m = true := by
  simp [headEqv, h1, h2, h3, h4, h5, h6]
theorem canon_inj (g : Nat) : ∀ (n m : Node) (d e : Nat) (r s : Bytes), nsz n ≤ g → vld false n d = true → vld false m e = true → canon n ++ r = canon m ++ s → eqv false n m = true ∧ r = s := by
  induction g with
  | zero => intro n m d e r s h; cases n; rw [nsz] at h; omega
  | succ g ih =>
    intro n m d e r s hg hn hm h
    have kidsInj : ∀ (ks ms : List Node) (data : Bool) (r s : Bytes), (∀ k ∈ ks, nsz k ≤ g) → vldL false ks d data = true → vldL false ms e data = true → canonL ks ++ 60 :: 47 :: r = canonL ms ++ 60 :: 47 :: s → ks.length = ms.length ∧ kidsEqv false ks ms = true ∧ r = s := by
      intro ks
      induction ks with
      | nil =>
        intro ms data r s _ _ hms h
        cases ms with
        | nil => simp [canonL] at h; exact ⟨rfl, kidsEqv_nil _ _, h⟩
        | cons m ms =>
          exfalso
          rw [vldL] at hms
          rw [canonL, canonL] at h
          split at hms
          · rename_i hk
            simp only [Bool.and_eq_true] at hms
            rw [canon_text (by simpa using hk)] at h
            obtain ⟨ht, _⟩ := data_form hms.1.2
            have hne := esc_nil false ht
            cases hE : esc false m.text with
            | nil => exact hne hE
            | cons c l =>
              have hb := (esc_bytes false m.text c (by rw [hE]; simp)).1
              rw [hE] at h
              simp only [List.nil_append, List.cons_append, List.cons.injEq] at h
              rw [← h.1] at hb
              exact hb rfl
          · simp only [Bool.and_eq_true] at hms
            rw [List.append_assoc, canon_vld hms.1] at h
            obtain ⟨hne, hb⟩ := qname_bytes (vld_head hms.1).2.2.2.1
            cases hE : m.name with
            | nil => exact hne hE
            | cons c l =>
              rw [hE] at h
              simp only [List.nil_append, List.cons_append, List.cons.injEq, true_and] at h
              have := hb c (by rw [hE]; simp)
              rw [← h.1] at this
              exact absurd this (by decide)
      | cons k ks ihk =>
        intro ms data r s hsz hks hms h
        cases ms with
        | nil =>
          exfalso
          rw [vldL] at hks
          rw [canonL, canonL] at h
          split at hks
          · rename_i hk
            simp only [Bool.and_eq_true] at hks
            rw [canon_text (by simpa using hk)] at h
            obtain ⟨ht, _⟩ := data_form hks.1.2
            have hne := esc_nil false ht
            cases hE : esc false k.text with
            | nil => exact hne hE
            | cons c l =>
              have hb := (esc_bytes false k.text c (by rw [hE]; simp)).1
              rw [hE] at h
              simp only [List.nil_append, List.cons_append, List.cons.injEq] at h
              rw [h.1] at hb
              exact hb rfl
          · simp only [Bool.and_eq_true] at hks
            rw [List.append_assoc, canon_vld hks.1] at h
            obtain ⟨hne, hb⟩ := qname_bytes (vld_head hks.1).2.2.2.1
            cases hE : k.name with
            | nil => exact hne hE
            | cons c l =>
              rw [hE] at h
              simp only [List.nil_append, List.cons_append, List.cons.injEq, true_and] at h
              have := hb c (by rw [hE]; simp)
              rw [h.1] at this
              exact absurd this (by decide)
        | cons m ms =>
          rw [vldL] at hks hms
          rw [canonL, canonL, List.append_assoc, List.append_assoc] at h
          cases hk1 : (k.kind == 1) <;> cases hm1 : (m.kind == 1)
          · rw [hk1] at hks
            rw [hm1] at hms
            simp only [Bool.and_eq_true, Bool.false_eq_true, if_false] at hks hms
            obtain ⟨h1, h2⟩ := ih k m (d + 1) (e + 1) _ _ (hsz k (by simp)) hks.1 hms.1 h
            obtain ⟨h3, h4, h5⟩ := ihk ms false r s (fun z hz => hsz z (by simp [hz])) hks.2 hms.2 h2
            exact ⟨by simp [h3], by rw [kidsEqv, h1, h4]; rfl, h5⟩
          · exfalso
            rw [hk1] at hks
            rw [hm1] at hms
            simp only [Bool.and_eq_true, Bool.false_eq_true, if_false, if_true] at hks hms
            rw [canon_vld hks.1, canon_text (by simpa using hm1)] at h
            obtain ⟨ht, _⟩ := data_form hms.1.2
            have hne := esc_nil false ht
            cases hE : esc false m.text with
            | nil => exact hne hE
            | cons c l =>
              have hb := (esc_bytes false m.text c (by rw [hE]; simp)).1
              rw [hE] at h
              simp only [List.cons_append, List.cons.injEq] at h
              rw [← h.1] at hb
              exact hb rfl
          · exfalso
            rw [hk1] at hks
            rw [hm1] at hms
            simp only [Bool.and_eq_true, Bool.false_eq_true, if_false, if_true] at hks hms
            rw [canon_vld hms.1, canon_text (by simpa using hk1)] at h
            obtain ⟨ht, _⟩ := data_form hks.1.2
            have hne := esc_nil false ht
            cases hE : esc false k.text with
            | nil => exact hne hE
            | cons c l =>
              have hb := (esc_bytes false k.text c (by rw [hE]; simp)).1
              rw [hE] at h
              simp only [List.cons_append, List.cons.injEq] at h
              rw [h.1] at hb
              exact hb rfl
          · rw [hk1] at hks
            rw [hm1] at hms
            simp only [Bool.and_eq_true, if_true] at hks hms
            rw [canon_text (by simpa using hk1), canon_text (by simpa using hm1)] at h
            obtain ⟨t1, h1⟩ := starts (r := 47 :: r) hks.2
            obtain ⟨t2, h2⟩ := starts (r := 47 :: s) hms.2
            rw [h1, h2] at h
            obtain ⟨h3, _, h4⟩ := split_at (p := fun c => c.toNat == 60) (fun c hc => by simpa using (esc_bytes false _ c hc).1) (fun c hc => by simpa using (esc_bytes false _ c hc).1) (by decide) (by decide) h
            obtain ⟨h5, h6, h7⟩ := ihk ms true r s (fun z hz => hsz z (by simp [hz])) hks.2 hms.2 (by rw [h1, h2, h4])
            have ek : k.kind = m.kind := by rw [show k.kind = 1 by simpa using hk1, show m.kind = 1 by simpa using hm1]
            obtain ⟨_, f1, f2, f3, f4⟩ := data_form hks.1.2
            obtain ⟨_, g1, g2, g3, g4⟩ := data_form hms.1.2
            refine ⟨by simp [h5], ?_, h7⟩
            rw [kidsEqv, h6, eqv_eq, head_eqv ek (by rw [f1, g1]) (by rw [f2, g2]) (esc_inj false h3) (by rw [f3, g3]) (by rw [f4, g4]), f3, f4, attsEqv_nil, kidsEqv_nil]
            rfl
    rw [canon_vld hn, canon_vld hm] at h
    simp only [List.cons.injEq, true_and] at h
    obtain ⟨a1, a2, a3, a4, a5, a6⟩ := vld_head hn
    obtain ⟨b1, b2, b3, b4, b5, b6⟩ := vld_head hm
    have hA := attsOkS_of a5
    have hB := attsOkS_of b5
    -- the name ends at a blank, a slash or a '>'
    have form : ∀ (ats : List Att) (c : Prop) [Decidable c] (x y : Bytes), ∃ z t, attsC ats ++ (if c then 47 :: x else 62 :: y) = z :: t ∧ sep z = true := by
      intro ats c _ x y
      cases ats with
      | nil =>
        by_cases hc : c
        · exact ⟨47, x, by simp [attsC, hc], by decide⟩
        · exact ⟨62, y, by simp [attsC, hc], by decide⟩
      | cons a ats => exact ⟨32, _, by rw [attsC, List.append_assoc, attC_form], by decide⟩
    obtain ⟨z, t, hz, hzs⟩ := form n.attrs (n.kids.length = 0) (62 :: r) (canonL n.kids ++ 60 :: 47 :: (n.name ++ 62 :: r))
    obtain ⟨z', t', hz', hzs'⟩ := form m.attrs (m.kids.length = 0) (62 :: s) (canonL m.kids ++ 60 :: 47 :: (m.name ++ 62 :: s))
    rw [hz, hz'] at h
    obtain ⟨hname, hzz, htt⟩ := split_at (qname_bytes a4).2 (qname_bytes b4).2 hzs hzs' h
    have h2 : attsC n.attrs ++ (if n.kids.length = 0 then 47 :: 62 :: r else 62 :: (canonL n.kids ++ 60 :: 47 :: (n.name ++ 62 :: r))) = attsC m.attrs ++ (if m.kids.length = 0 then 47 :: 62 :: s else 62 :: (canonL m.kids ++ 60 :: 47 :: (m.name ++ 62 :: s))) := by rw [hz, hz', hzz, htt]
    have hfin : ∀ (x : n.attrs.length = m.attrs.length) (y : attsEqv false n.attrs m.attrs = true) (z : n.kids.length = m.kids.length) (w : kidsEqv false n.kids m.kids = true), eqv false n m = true := by
      intro x y z w
      rw [eqv_eq, head_eqv (by rw [a1, b1]) (by rw [a2, b2]) hname (by rw [a3, b3]) x z, y, w]; rfl
    by_cases hk : n.kids.length = 0 <;> by_cases hk' : m.kids.length = 0
    · rw [if_pos hk, if_pos hk'] at h2
      obtain ⟨c1, c2, c3, c4⟩ := attsC_inj hA hB (by decide) (by decide) h2
      simp only [List.cons.injEq, true_and] at c4
      exact ⟨hfin c1 c2 (by omega) (by rw [List.eq_nil_of_length_eq_zero hk, kidsEqv_nil]), c4⟩
    · rw [if_pos hk, if_neg hk'] at h2
      obtain ⟨c1, c2, c3, c4⟩ := attsC_inj hA hB (by decide) (by decide) h2
      exact absurd c3 (by decide)
    · rw [if_neg hk, if_pos hk'] at h2
      obtain ⟨c1, c2, c3, c4⟩ := attsC_inj hA hB (by decide) (by decide) h2
      exact absurd c3 (by decide)
    · rw [if_neg hk, if_neg hk'] at h2
      obtain ⟨c1, c2, c3, c4⟩ := attsC_inj hA hB (by decide) (by decide) h2
      obtain ⟨e1, e2, e3⟩ := kidsInj n.kids m.kids false _ _ (fun k hk => by have := nsz_lt n hk; omega) a6 b6 c4
      rw [hname] at e3
      have e4 := List.append_cancel_left e3
      simp only [List.cons.injEq, true_and] at e4
      exact ⟨hfin c1 c2 e1 e2, e4⟩
theorem attsC_eqv : ∀ {l m : List Att}, l.length = m.length → attsEqv false l m = true → attsC l = attsC m
  | [], [], _, _ => rfl
  | [], b :: m, h, _ => by simp at h
  | a :: l, [], h, _ => by simp at h
  | a :: l, b :: m, h, he => by
    rw [attsEqv] at he
    simp only [Bool.and_eq_true, attEqv, beq_iff_eq] at he
    obtain ⟨⟨⟨⟨_, h1⟩, h2⟩, _⟩, h3⟩ := he
    rw [attsC, attsC, attsC_eqv (by simpa using h) h3, attC, attC, h1, h2]
mutual
theorem canon_eqv : ∀ (n m : Node), eqv false n m = true → canon n = canon m
  | .mk k s nm ats ks t p, m, h => by
    rw [eqv] at h
    simp only [Bool.and_eq_true, headEqv, beq_iff_eq] at h
    obtain ⟨⟨⟨⟨⟨⟨⟨⟨h1, h2⟩, h3⟩, h4⟩, _⟩, h5⟩, h6⟩, h7⟩, h8⟩ := h
    have ea := attsC_eqv h5 h7
    have ek := canonL_eqv ks m.kids h6 h8
    obtain ⟨k', s', nm', ats', ks', t', p'⟩ := m
    simp only [Node.kind, Node.space, Node.name, Node.attrs, Node.kids, Node.text] at *
    rw [canon, canon, h1, h3, h4, h6, ea, ek]
theorem canonL_eqv : ∀ (ks ms : List Node), ks.length = ms.length → kidsEqv false ks ms = true → canonL ks = canonL ms
  | [], [], _, _ => rfl
  | [], b :: m, h, _ => by simp at h
  | k :: ks, [], h, _ => by simp at h
  | k :: ks, m :: ms, h, he => by
    rw [kidsEqv] at he
    simp only [Bool.and_eq_true] at he
    rw [canonL, canonL, canon_eqv k m he.1, canonL_eqv ks ms (by simpa using h) he.2]
end
/-- Two valid trees have the same canonical document exactly if they are equal apart from offsets. -/
theorem doc_eqv {n m : Node} {d e : Nat} (hn : vld false n d = true) (hm : vld false m e = true) : (doc n == doc m) = eqv false n m := by
  rw [Bool.eq_iff_iff, beq_iff_eq]
  constructor
  · intro h
    unfold doc at h
    rw [List.append_assoc, List.append_assoc] at h
    exact (canon_inj _ n m d e _ _ (Nat.le_refl _) hn hm (List.append_cancel_left h)).1
  · intro h
    unfold doc
    rw [canon_eqv n m h]

/-! Validity with the limit: validity without it, and the depth. -/
mutual
theorem vld_depth : ∀ (n : Node) (d : Nat), n.kind ≠ 1 → vld true n d = (vld false n d && decide (d + depth n ≤ 101))
  | .mk k s nm ats ks t p, d, hk => by
    have hk' : ¬ k = 1 := hk
    rw [vld, vld, depth, if_neg hk', vldL_depth ks d false]
    cases headOk (.mk k s nm ats ks t p)
    · simp
    · cases hv : vldL false ks d false
      · simp
      · have e : ∀ D, d + (D + 1) ≤ 101 ↔ d ≤ 100 ∧ d + D ≤ 100 := by omega
        rw [Bool.eq_iff_iff]
        simp [e]
        omega
theorem vldL_depth : ∀ (ks : List Node) (d : Nat) (b : Bool), vldL true ks d b = (vldL false ks d b && decide (depthL ks 0 = 0 ∨ d + depthL ks 0 ≤ 100))
  | [], d, b => by rw [vldL, vldL, depthL]; simp
  | k :: ks, d, b => by
    rw [vldL, vldL, depthL, depthL_max, vldL_depth ks d]
    by_cases h : k.kind = 1
    · have h0 : depth k = 0 := by rw [depth_eq, if_pos h]
      have h1 : (k.kind == 1) = true := by rw [h]; rfl
      rw [h1, h0, Nat.max_self, Nat.zero_max]
      simp only [if_true, Bool.and_assoc]
    · have h1 : (k.kind == 1) = false := by rw [beq_eq_false_iff_ne]; exact h
      rw [h1]
      simp only [Bool.false_eq_true, if_false]
      rw [vld_depth k (d + 1) h]
      have hpos : 1 ≤ depth k := by rw [depth_eq, if_neg h]; omega
      rw [Bool.eq_iff_iff]
      simp only [Bool.and_eq_true, decide_eq_true_eq]
      generalize depth k = x at *
      generalize depthL ks 0 = y at *
      have e : (d + 1 + x ≤ 101 ∧ (y = 0 ∨ d + y ≤ 100)) ↔ (max (max 0 x) y = 0 ∨ d + max (max 0 x) y ≤ 100) := by omega
      rw [← e]
      constructor
      · rintro ⟨⟨a, b⟩, c, d⟩; exact ⟨⟨a, c⟩, b, d⟩
      · rintro ⟨⟨a, c⟩, b, d⟩; exact ⟨⟨a, b⟩, c, d⟩
theorem depthL_max : ∀ (ks : List Node) (a : Nat), depthL ks a = max a (depthL ks 0)
  | [], a => by rw [depthL, depthL]; simp
  | k :: ks, a => by rw [depthL, depthL, depthL_max ks (max a (depth k)), depthL_max ks (max 0 (depth k))]; omega
end
/-- What the reference asks of a whole tree. -/
def refOk (n : Node) : Bool := n.kind == 0 && decide (depth n ≤ 100) && (if n.kind == 1 then dataOk n else vld false n 0)
theorem refOk_eq (n : Node) : refOk n = vld true n 1 := by
  unfold refOk
  by_cases h : n.kind = 1
  · have h1 : (n.kind == 0) = false := by rw [h]; rfl
    rw [h1, vld_eq true n 1, headOk, h1]; simp
  · have h1 : (n.kind == 1) = false := by rw [beq_eq_false_iff_ne]; exact h
    rw [vld_depth n 1 h, h1, vld_any n 0 1]
    simp only [Bool.false_eq_true, if_false]
    have e : decide (1 + depth n ≤ 101) = decide (depth n ≤ 100) := by rw [Bool.eq_iff_iff]; simp; omega
    rw [e]
    cases hv : vld false n 1
    · simp
    · rw [show (n.kind == 0) = true from by rw [(vld_head hv).1]; rfl]; simp

/-! How long a canonical form is. -/
theorem attsC_len : ∀ l : List Att, (attsC l).length ≤ 6 * attsF l
  | [] => by simp [attsC]
  | a :: l => by
    have h1 := attsC_len l
    have h2 := esc_len true a.value
    simp only [attsC, attC, attsF, attF, List.length_append, List.length_cons, List.length_nil]
    omega
mutual
theorem canon_len : ∀ n : Node, (canon n).length ≤ 6 * full n
  | .mk k s nm ats ks t p => by
    rw [canon, full]
    have h1 := attsC_len ats
    have h2 := esc_len false t
    have h3 := canonL_len ks
    split
    · omega
    · split <;> (simp only [List.length_append, List.length_cons, List.length_nil]; omega)
theorem canonL_len : ∀ ks : List Node, (canonL ks).length ≤ 6 * fullL ks
  | [] => by simp [canonL]
  | k :: ks => by rw [canonL, fullL, List.length_append]; have := canon_len k; have := canonL_len ks; omega
end
end Go.Proofs.YthilaolkkamedaaDoor
