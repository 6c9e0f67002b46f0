/-
  Plain: a parsed JSON value is no larger than four times its text. No program.
-/
import Derived.Test.YthlppbpccldikaaDoorH5
import Derived.Test.YthlppbpccldikaaDoorH4
set_option linter.unusedVariables false
namespace Go.Proofs.YthlppbpccldikaaDoor

theorem jstrS_ful (a : Nat) : ∀ (m k : Nat) (l : Bytes) (n : Nat) (s : Bytes) (e : Nat), l.length ≤ m → jstrS a k l n = .ok (s, e) → s.length + 4 * n ≤ 4 * e
  | m, _, [], n, s, e, hm, h => by rw [jstrS] at h; cases h
  | 0, _, c :: t, n, s, e, hm, h => by simp at hm
  | m + 1, k + 1, c :: t, n, s, e, hm, h => by
    rw [jstrS] at h
    have := jstrS_ful a m k t (n + 1) s e (by simpa using hm) h
    omega
  | m + 1, 0, c :: t, n, s, e, hm, h => by
    rw [jstrS] at h
    have el : ∀ r, (enc r).length ≤ 4 := fun r => by unfold enc; (repeat' split) <;> simp
    split at h
    · cases h
    · split at h
      · cases h
      · split at h
        · cases h; simp only [List.length_nil]; omega
        · split at h
          · split at h
            · cases h
            · cases hs : seqJ (c :: t) with
              | none => rw [hs] at h; cases h
              | some q =>
                obtain ⟨r, w⟩ := q
                rw [hs] at h
                simp only at h
                cases hr : jstrS a (w - 1) t (n + 1) with
                | error x => rw [hr] at h; cases h
                | ok p =>
                  obtain ⟨s', e'⟩ := p
                  rw [hr] at h
                  cases h
                  have := jstrS_ful a m _ t (n + 1) s' e' (by simpa using hm) hr
                  have := el r
                  simp only [List.length_append]; omega
          · cases hr : jstrS a ((dec (c :: t)).2 - 1) t (n + 1) with
            | error x => rw [hr] at h; cases h
            | ok p =>
              obtain ⟨s', e'⟩ := p
              rw [hr] at h
              cases h
              have := jstrS_ful a m _ t (n + 1) s' e' (by simpa using hm) hr
              have := el (dec (c :: t)).1
              simp only [List.length_append]; omega
theorem jstrAt_ful {l : Bytes} {a : Nat} {s : Bytes} {e : Nat} (h : jstrAt l a = .ok (s, e)) : 1 + s.length + 4 * a ≤ 4 * e := by
  unfold jstrAt at h
  split at h
  · cases h
  · have := jstrS_ful a _ 0 (l.drop (a + 1)) (a + 1) s e (Nat.le_refl _) h
    omega
theorem keyAt_ful {l : Bytes} {a : Nat} {ms : List JM} {k : Bytes} {e : Nat} (h : keyAt l a ms = .ok (k, e)) : k.length + 4 * a ≤ 4 * e := by
  unfold keyAt at h
  split at h
  · cases h
  · cases hs : jstrAt l a with
    | error q => rw [hs] at h; cases h
    | ok p =>
      obtain ⟨k', e'⟩ := p
      rw [hs] at h
      have h1 := jstrAt_ful hs
      simp only at h
      split at h
      · cases h
      · split at h
        · rename_i hc
          cases h
          have := spEnd_ge l e'
          omega
        · cases h
theorem jfulL_join : ∀ l r : List JV, jfulL (l ++ r) = jfulL l + jfulL r
  | [], r => by rw [List.nil_append, jfulL]; omega
  | v :: l, r => by rw [List.cons_append, jfulL, jfulL, jfulL_join l r]; omega
theorem jfulM_join : ∀ l r : List JM, jfulM (l ++ r) = jfulM l + jfulM r
  | [], r => by rw [List.nil_append, jfulM]; omega
  | .mk k v p :: l, r => by rw [List.cons_append, jfulM, jfulM, jfulM_join l r]; omega
theorem jful_leaf (k : Int) (b : Bool) (n : Int) (p : Int) : jful (.mk k b n [] [] [] p) = 1 := by rw [jful, jfulL, jfulM]; rfl
mutual
theorem pvV_ful {l : Bytes} : ∀ {f d n : Nat} {v : JV} {e : Nat}, n ≤ l.length → pvV l f d n = .ok (v, e) → jful v + 4 * n ≤ 4 * e
  | 0, _, _, _, _, _, h => by rw [pvV] at h; cases h
  | f + 1, d, n, v, e, hn, h => by
    have hok := pvV_ok hn h
    rw [pvV] at h
    have g1 := spEnd_ge l n
    by_cases h0 : l.length ≤ spEnd l n
    · rw [if_pos h0] at h; cases h
    rw [if_neg h0] at h
    have g2 := spEnd_ge l (spEnd l n + 1)
    have g3 := spEnd_le (l := l) (n := spEnd l n + 1) (by omega)
    have wd : ∀ s u, jful u = 1 → wordJ l (spEnd l n) s u = .ok (v, e) → jful v + 4 * n ≤ 4 * e := by
      intro s u hu hw
      unfold wordJ at hw
      split at hw
      · cases hw; omega
      · cases hw
    by_cases h1 : l.getD (spEnd l n) 0 = 110
    · rw [if_pos h1] at h; exact wd _ _ (jful_leaf _ _ _ _) h
    rw [if_neg h1] at h
    by_cases h2 : l.getD (spEnd l n) 0 = 116
    · rw [if_pos h2] at h; exact wd _ _ (jful_leaf _ _ _ _) h
    rw [if_neg h2] at h
    by_cases h3 : l.getD (spEnd l n) 0 = 102
    · rw [if_pos h3] at h; exact wd _ _ (jful_leaf _ _ _ _) h
    rw [if_neg h3] at h
    by_cases h4 : l.getD (spEnd l n) 0 = 34
    · rw [if_pos h4] at h
      unfold strJ at h
      cases hs : jstrAt l (spEnd l n) with
      | error q => rw [hs] at h; cases h
      | ok p =>
        rw [hs] at h
        have := jstrAt_ful hs
        cases h
        rw [jful, jfulL, jfulM]
        omega
    rw [if_neg h4] at h
    by_cases h5 : l.getD (spEnd l n) 0 = 91
    · rw [if_pos h5] at h
      split at h
      · cases h
      · split at h
        · cases h; rw [jful_leaf]; omega
        · cases hi : pvI l f d (spEnd l (spEnd l n + 1)) [] with
          | error q => rw [hi] at h; cases h
          | ok p =>
            obtain ⟨its, e'⟩ := p
            rw [hi] at h
            cases h
            have h6 := pvI_ful g3 hi
            rw [jfulL] at h6
            rw [jful, jfulM]
            simp only [List.length_nil]
            omega
    rw [if_neg h5] at h
    by_cases h6 : l.getD (spEnd l n) 0 = 123
    · rw [if_pos h6] at h
      split at h
      · cases h
      · split at h
        · cases h; rw [jful_leaf]; omega
        · cases hi : pvM l f d (spEnd l (spEnd l n + 1)) [] with
          | error q => rw [hi] at h; cases h
          | ok p =>
            obtain ⟨ms, e'⟩ := p
            rw [hi] at h
            cases h
            have h6 := pvM_ful g3 hi
            rw [jfulM] at h6
            rw [jful, jfulL]
            simp only [List.length_nil]
            omega
    rw [if_neg h6] at h
    split at h
    · unfold numAt at h
      cases hq : numJ ((l.drop (spEnd l n)).take (run isNumB (l.drop (spEnd l n)))) with
      | none => rw [hq] at h; cases h
      | some x => rw [hq] at h; cases h; rw [jful_leaf]; omega
    · cases h
theorem pvI_ful {l : Bytes} : ∀ {f d n : Nat} {its js : List JV} {e : Nat}, n ≤ l.length → pvI l f d n its = .ok (js, e) → jfulL js + 4 * n ≤ jfulL its + 4 * e
  | 0, _, _, _, _, _, _, h => by rw [pvI] at h; cases h
  | f + 1, d, n, its, js, e, hn, h => by
    rw [pvI] at h
    cases hv : pvV l f (d + 1) n with
    | error q => rw [hv] at h; cases h
    | ok p =>
      obtain ⟨v, e1⟩ := p
      rw [hv] at h
      have h1 := pvV_ok hn hv
      have h0 := pvV_ful hn hv
      have h2 := spEnd_ge l e1
      have h3 : jfulL (its ++ [v]) = jfulL its + jful v := by rw [jfulL_join, jfulL, jfulL]; omega
      simp only at h
      split at h
      · cases h
        omega
      · split at h
        · rename_i hc
          have := hasAt_in hc
          have := pvI_ful (by omega) h
          omega
        · cases h
theorem pvM_ful {l : Bytes} : ∀ {f d n : Nat} {ms ns : List JM} {e : Nat}, n ≤ l.length → pvM l f d n ms = .ok (ns, e) → jfulM ns + 4 * n ≤ jfulM ms + 4 * e
  | 0, _, _, _, _, _, _, h => by rw [pvM] at h; cases h
  | f + 1, d, n, ms, ns, e, hn, h => by
    rw [pvM] at h
    have g1 := spEnd_ge l n
    cases hk : keyAt l (spEnd l n) ms with
    | error q => rw [hk] at h; cases h
    | ok p =>
      obtain ⟨k, a⟩ := p
      rw [hk] at h
      have h0 := keyAt_ok hk
      have h00 := keyAt_ful hk
      simp only at h
      cases hv : pvV l f (d + 1) a with
      | error q => rw [hv] at h; cases h
      | ok p =>
        obtain ⟨v, e1⟩ := p
        rw [hv] at h
        have h1 := pvV_ok h0.2.1 hv
        have h2 := spEnd_ge l e1
        have h3 := pvV_ful h0.2.1 hv
        have h4 : jfulM (ms ++ [JM.mk k v (spEnd l n)]) = jfulM ms + (k.length + jful v) := by rw [jfulM_join, jfulM, jfulM]; omega
        simp only at h
        split at h
        · cases h
          omega
        · split at h
          · rename_i hc
            have := hasAt_in hc
            have := pvM_ful (by omega) h
            omega
          · cases h
end
theorem parseJ_ful {l : Bytes} {v : JV} (h : parseJ l = .ok v) : jful v ≤ 4 * l.length := by
  unfold parseJ at h
  cases hv : pvV l (2 * l.length + 2) 1 (startJ l) with
  | error q => rw [hv] at h; cases h
  | ok p =>
    obtain ⟨v', e⟩ := p
    rw [hv] at h
    have h1 := pvV_ful startJ_le hv
    have h2 := pvV_ok startJ_le hv
    simp only at h
    split at h
    · cases h
    · cases h; omega
end Go.Proofs.YthlppbpccldikaaDoor
