/-
  Several texts in one file, in build order:
  - Plain laws of chapter 7: a document within another element. No program.
  - Plain law of chapter 9: the canonical document of a valid tree is read as an equal tree. No program.
  - Plain laws of tokens: where attributes stand; no offset is negative. No program.
  - Plain laws of chapter 7: where errors stand. No program.
-/
import Derived.Test.YtclhdppppgjgfaaGreatDoorH28
import Derived.Test.YtclhdppppgjgfaaGreatDoorH13
import Derived.Test.YtclhdppppgjgfaaGreatDoorH27
set_option linter.unusedVariables false
namespace Go.Proofs.YtclhdppppgjgfaaGreatDoor

/-! Tokens ahead of a tag. -/
theorem findS_no {c : UInt8} : ∀ {x : Bytes}, findS [c] x = none → ∀ b ∈ x, b ≠ c
  | [], _, b, hb => by cases hb
  | a :: x, h, b, hb => by
    rw [findS] at h
    split at h
    · cases h
    · rename_i hp
      cases hf : findS [c] x with
      | some j => rw [hf] at h; cases h
      | none =>
        rcases List.mem_cons.1 hb with rfl | hb
        · rintro rfl; exact hp (by simp)
        · exact findS_no hf b hb
theorem consAt_tag {l r : Bytes} {a : Nat} {t : Tok} {e : Nat} (ha : a < l.length) (h : consAt l a = .ok (t, e)) : consAt (l ++ 60 :: r) a = .ok (t, e) := by
  by_cases h2 : hasAt l a sLt = true
  · exact consAt_app _ ha (.inl h2) h
  cases h3 : findS sLt (l.drop a) with
  | some j => exact consAt_app _ ha (.inr ⟨j, h3⟩) h
  | none =>
    have e7 : hasAt (l ++ 60 :: r) a sLt = hasAt l a sLt := hasAt_app _ (by simp [sLt]; omega)
    rw [consAt_else h2] at h
    rw [consAt_else (by rw [e7]; exact h2)]
    have h4 : textEnd l a = l.length := by unfold textEnd; rw [h3]
    have h5 : textEnd (l ++ 60 :: r) a = l.length := by
      unfold textEnd
      rw [drop_app (by omega), show sLt = [60] from rfl, findS_at (findS_no h3)]
      simp only [List.length_drop]; omega
    rw [h5, cont_app _ (Nat.le_refl _)]
    rw [h4] at h
    exact h
theorem tokF_tag {l r : Bytes} : ∀ (f n F : Nat) (ts ls : List Tok), n ≤ l.length → tokF l f n ts = .ok ls → (l ++ 60 :: r).length < n + F →
    ∃ G, tokF (l ++ 60 :: r) F n ts = tokF (l ++ 60 :: r) G l.length ls ∧ (l ++ 60 :: r).length < l.length + G
  | 0, _, _, _, _, _, h, _ => by cases h
  | f + 1, n, 0, ts, ls, hn, h, hF => by simp at hF; omega
  | f + 1, n, F + 1, ts, ls, hn, h, hF => by
    rw [tokF] at h
    by_cases hlt : n < l.length
    · rw [if_pos hlt] at h
      cases hc : consAt l n with
      | error q => rw [hc] at h; cases h
      | ok p =>
        obtain ⟨t, e⟩ := p
        have h1 := consAt_ok hlt hc
        rw [hc] at h
        simp only at h
        rw [tokF, if_pos (by simp; omega), consAt_tag hlt hc]
        simp only
        exact tokF_tag f e F _ ls h1.2 h (by omega)
    · obtain rfl : n = l.length := by omega
      rw [if_neg hlt] at h
      cases h
      exact ⟨F + 1, rfl, hF⟩
/-- The tokens of a document and of what a tag opens behind it. -/
theorem toks_tag {s r : Bytes} {ls : List Tok} (hs : toks s = (ls, s.length, 0)) (hne : ls ≠ []) :
    toks (s ++ 60 :: r) = if (toks (60 :: r)).2.2 = 0 then (ls ++ (toks (60 :: r)).1.map (shT s.length), s.length + (60 :: r).length, 0) else ([], s.length + (toks (60 :: r)).2.1, (toks (60 :: r)).2.2) := by
  have ht : hasAt (60 :: r) 0 sBom = false := rfl
  generalize hy : (60 :: r : Bytes) = t at ht
  unfold toks at hs
  by_cases h1 : (check s).2 = 0
  · rw [if_neg (by simp [h1])] at hs
    have hc := check_app h1 t
    cases hq : tokS s (if hasAt s 0 sBom = true then 3 else 0) [] with
    | error q =>
      rw [hq] at hs
      simp only [Prod.mk.injEq] at hs
      exact absurd hs.1.symm hne
    | ok ls' =>
      rw [hq] at hs
      simp only [Prod.mk.injEq] at hs
      obtain ⟨rfl, _⟩ := hs
      have hs0 : s ≠ [] := by
        rintro rfl
        rw [show tokS [] (if hasAt [] 0 sBom = true then 3 else 0) [] = .ok [] from rfl] at hq
        cases hq; exact hne rfl
      unfold toks
      rw [hc]
      by_cases h2 : (check t).2 = 0
      · rw [if_neg (show ¬ ((s.length + (check t).1, (check t).2) : Nat × Nat).2 ≠ 0 by simp [h2]), if_neg (show ¬ (check t).2 ≠ 0 by simp [h2]), bom_app h1 hs0, ht]
        have hz : (if hasAt s 0 sBom = true then 3 else 0) ≤ s.length := by
          split
          · rename_i h
            have := hasAt_le h
            simp [sBom] at this; omega
          · omega
        unfold tokS at hq ⊢
        obtain ⟨G, hG, hG2⟩ : ∃ G, tokF (s ++ t) ((s ++ t).length + 1) (if hasAt s 0 sBom = true then 3 else 0) [] = tokF (s ++ t) G s.length ls' ∧ (s ++ t).length < s.length + G := by
          subst hy
          exact tokF_tag _ _ _ _ _ hz hq (by omega)
        rw [hG]
        have h3 := tokF_sh s t ls' G 0 [] (Nat.zero_le _) (by simp at hG2; omega)
        simp only [List.map_nil, List.append_nil, Nat.add_zero] at h3
        rw [h3, tokF_fuel (l := t) G (t.length + 1) 0 [] (Nat.zero_le _) (by simp at hG2; omega) (by omega)]
        simp only [Bool.false_eq_true, if_false]
        cases hw : tokF t (t.length + 1) 0 [] with
        | error q =>
          have := tokF_err _ _ _ _ (Nat.zero_le _) (by omega) hw
          simp only [shQ]
          rw [if_neg this]
        | ok us =>
          simp
      · rw [if_pos h2, if_pos h2]
        simp only
        rw [if_neg h2]
  · rw [if_pos h1] at hs
    simp only [Prod.mk.injEq] at hs
    exact absurd hs.1.symm hne
theorem tokF_grow {l : Bytes} : ∀ {f n : Nat} {ts ls : List Tok}, tokF l f n ts = .ok ls → ∃ us, ls = ts ++ us
  | 0, _, _, _, h => by cases h
  | f + 1, n, ts, ls, h => by
    rw [tokF] at h
    split at h
    · cases hc : consAt l n with
      | error q => rw [hc] at h; cases h
      | ok p =>
        obtain ⟨t, e⟩ := p
        rw [hc] at h
        obtain ⟨us, hus⟩ := tokF_grow h
        split at hus
        · exact ⟨t :: us, by rw [hus]; simp⟩
        · exact ⟨us, hus⟩
    · cases h; exact ⟨[], by simp⟩
/-- The first token of a document that begins with a tag. -/
theorem toks_first {s : Bytes} {ls : List Tok} (hs : toks s = (ls, s.length, 0)) (h1 : hasAt s 0 sLt = true) (h2 : hasAt s 0 sBang = false) (h3 : hasAt s 0 sPi = false) : ∃ t us, ls = t :: us ∧ (t.kind = 1 ∨ t.kind = 2) ∧ t.pos = 0 := by
  have hb : hasAt s 0 sBom = false := by
    cases hh : hasAt s 0 sBom with
    | false => rfl
    | true =>
      obtain ⟨g1, g2⟩ := hasAt_get h1 (i := 0) (by decide)
      obtain ⟨g3, g4⟩ := hasAt_get hh (i := 0) (by decide)
      rw [g2] at g4
      exact absurd g4 (by decide)
  have hlen : 0 < s.length := by have := hasAt_le h1; simp [sLt] at this; omega
  unfold toks at hs
  rw [hb] at hs
  split at hs
  · rename_i hc
    simp only [Prod.mk.injEq] at hs
    exact absurd hs.2.2 hc
  · cases hq : tokS s (if false = true then 3 else 0) [] with
    | error q =>
      rw [hq] at hs
      simp only [Prod.mk.injEq] at hs
      exact absurd hs.2.2 (tokF_err _ _ _ _ (Nat.zero_le _) (by simp) hq)
    | ok ls' =>
      rw [hq] at hs
      simp only [Prod.mk.injEq] at hs
      obtain ⟨rfl, _⟩ := hs
      unfold tokS at hq
      simp only [Bool.false_eq_true, if_false] at hq
      rw [tokF, if_pos hlen] at hq
      cases hc : consAt s 0 with
      | error q => rw [hc] at hq; cases hq
      | ok p =>
        obtain ⟨t, e⟩ := p
        rw [hc] at hq
        have ht : (t.kind = 1 ∨ t.kind = 2) ∧ t.pos = 0 := by
          have nB : ∀ r, ¬ hasAt s 0 (sBang ++ r) = true := fun r h => by rw [hasAt_head h] at h2; cases h2
          unfold consAt at hc
          rw [if_neg (by rw [h3]; decide), if_neg (show ¬ hasAt s 0 sCom = true from nB [45, 45]), if_neg (show ¬ hasAt s 0 sCd = true from nB [91, 67, 68, 65, 84, 65, 91]), if_neg (show ¬ hasAt s 0 sDoc = true from nB [68, 79, 67, 84, 89, 80, 69]), if_neg (by rw [h2]; decide)] at hc
          split at hc
          · have := endAt_ok hc; exact ⟨.inr this.2.2.1, this.2.2.2⟩
          · first
              | rw [if_pos h1] at hc
              | skip
            have := startAt_ok hc; exact ⟨.inl this.2.2.1, this.2.2.2⟩
        have hk : keepTok t = true := by unfold keepTok; rcases ht.1 with h | h <;> rw [h] <;> rfl
        simp only [hk, if_true, List.nil_append] at hq
        obtain ⟨us, hus⟩ := tokF_grow hq
        exact ⟨t, us, by rw [hus]; rfl, ht⟩

/-! Trees with places that are greater. -/
mutual
def shNd (d : Nat) : Node → Node
  | .mk k s n ats ks t p => .mk k s n (ats.map (shA d)) (shNL d ks) t (p + d)
def shNL (d : Nat) : List Node → List Node
  | [] => []
  | k :: ks => shNd d k :: shNL d ks
end
theorem shNL_nil (d : Nat) : shNL d [] = [] := by rw [shNL]
theorem shNL_cons (d : Nat) (k : Node) (ks : List Node) : shNL d (k :: ks) = shNd d k :: shNL d ks := by rw [shNL]
theorem shNL_one (d : Nat) (k : Node) : shNL d [k] = [shNd d k] := by rw [shNL_cons, shNL_nil]
theorem shNL_app (d : Nat) : ∀ a b : List Node, shNL d (a ++ b) = shNL d a ++ shNL d b
  | [], b => by rw [shNL]; rfl
  | k :: a, b => by rw [List.cons_append, shNL, shNL, shNL_app d a b]; rfl
theorem shNd_kind (d : Nat) (n : Node) : (shNd d n).kind = n.kind := by cases n; rw [shNd]; rfl
theorem shNd_pos (d : Nat) (n : Node) : (shNd d n).pos = n.pos + d := by cases n; rw [shNd]; rfl
theorem shNL_last (d : Nat) : ∀ ks : List Node, (shNL d ks).getLast? = (ks.getLast?).map (shNd d)
  | [] => by rw [shNL]; rfl
  | [k] => by rw [shNL, shNL]; rfl
  | k :: m :: ks => by
    have := shNL_last d (m :: ks)
    rw [shNL] at this
    rw [shNL, shNL, List.getLast?_cons_cons, List.getLast?_cons_cons, this]
theorem shNL_drop (d : Nat) : ∀ ks : List Node, (shNL d ks).dropLast = shNL d ks.dropLast
  | [] => by rw [shNL]; rfl
  | [k] => by rw [shNL, shNL]; rfl
  | k :: m :: ks => by
    have := shNL_drop d (m :: ks)
    rw [shNL] at this
    rw [List.dropLast_cons_cons, shNL, shNL, shNL, List.dropLast_cons_cons, this]
theorem addText_sh (d : Nat) (ks : List Node) (u : Tok) : addText (shNL d ks) (shT d u) = shNL d (addText ks u) := by
  unfold addText
  rw [shNL_last]
  cases hl : ks.getLast? with
  | none =>
    simp only [Option.map_none]
    rw [shNL_app, shNL_one, shNd, shNL_nil]; rfl
  | some n =>
    obtain ⟨k, s, nm, ats, kk, t, p⟩ := n
    simp only [Option.map_some, shNd]
    split
    · rename_i hk
      rw [shNL_app, shNL_drop, shNL_one, shNd]; rfl
    · rw [shNL_app, shNL_one, shNd, shNL_nil]; rfl
theorem attsEqv_sh (d : Nat) : ∀ l : List Att, attsEqv false l (l.map (shA d)) = true
  | [] => attsEqv_nil _ _
  | a :: l => by rw [List.map_cons, attsEqv, attsEqv_sh d l]; simp [attEqv, shA]
mutual
theorem eqv_sh (d : Nat) : ∀ n : Node, eqv false n (shNd d n) = true
  | .mk k s nm ats ks t p => by
    rw [shNd, eqv]
    have h1 : headEqv false (.mk k s nm ats ks t p) (.mk k s nm (ats.map (shA d)) (shNL d ks) t (p + d)) = true := by
      have : (shNL d ks).length = ks.length := shNL_len d ks
      simp [headEqv, Node.kind, Node.space, Node.name, Node.text, Node.attrs, Node.kids, this]
    rw [h1]
    simp only [Node.attrs, Node.kids]
    rw [attsEqv_sh d ats, kidsEqv_sh d ks]; rfl
theorem kidsEqv_sh (d : Nat) : ∀ ks : List Node, kidsEqv false ks (shNL d ks) = true
  | [] => kidsEqv_nil _ _
  | k :: ks => by rw [shNL, kidsEqv, eqv_sh d k, kidsEqv_sh d ks]; rfl
theorem shNL_len (d : Nat) : ∀ ks : List Node, (shNL d ks).length = ks.length
  | [] => by rw [shNL]
  | k :: ks => by rw [shNL, List.length_cons, List.length_cons, shNL_len d ks]
end
theorem depthL_snoc : ∀ (ks : List Node) (k : Node) (a : Nat), depthL (ks ++ [k]) a = max (depthL ks a) (depth k)
  | [], k, a => by rw [List.nil_append, depthL, depthL, depthL]
  | x :: ks, k, a => by rw [List.cons_append, depthL, depthL, depthL_snoc ks k]
theorem addText_depth (ks : List Node) (u : Tok) : depthL ks 0 ≤ depthL (addText ks u) 0 := by
  unfold addText
  cases hl : ks.getLast? with
  | none => simp only; rw [depthL_snoc]; omega
  | some n =>
    obtain ⟨k, s, nm, ats, kk, t, p⟩ := n
    simp only
    split
    · rename_i hk
      subst hk
      rw [last_split hl, depthL_snoc]
      simp only [List.dropLast_concat]
      rw [depthL_snoc]
      have : depth (.mk 1 s nm ats kk t p) = 0 := by rw [depth]; simp
      rw [this]; omega
    · rw [depthL_snoc]; omega
theorem kidsF_depth {ts : List Tok} {en : Nat} : ∀ {f d : Nat} {nm : Bytes} {i : Nat} {ks ks' : List Node} {j : Nat}, kidsF ts en f d nm i ks = .ok (ks', j) → depthL ks 0 ≤ depthL ks' 0
  | 0, _, _, _, _, _, _, h => by rw [kidsF] at h; cases h
  | f + 1, d, nm, i, ks, ks', j, h => by
    rw [kidsF] at h
    cases ht : ts[i]? with
    | none => rw [ht] at h; cases h
    | some u =>
      rw [ht] at h
      simp only at h
      split at h
      · split at h
        · cases h; exact Nat.le_refl _
        · cases h
      · split at h
        · cases he : elemF ts en f (d + 1) i with
          | error e => rw [he] at h; cases h
          | ok p =>
            obtain ⟨k, j'⟩ := p
            rw [he] at h
            have := kidsF_depth h
            rw [depthL_snoc] at this
            omega
        · have := kidsF_depth h
          have := addText_depth ks u
          omega
mutual
/-- An element one level deeper, behind one more token. -/
theorem elemF_sh {ts us : List Tok} {en em D : Nat} (hu : ∀ i t, ts[i]? = some t → us[i + 1]? = some (shT D t)) : ∀ {f d i : Nat} {n : Node} {j : Nat}, elemF ts en f d i = .ok (n, j) → d + depth n ≤ 100 → elemF us em f (d + 1) (i + 1) = .ok (shNd D n, j + 1)
  | 0, _, _, _, _, h, _ => by rw [elemF] at h; cases h
  | f + 1, d, i, n, j, h, hd => by
    rw [elemF] at h ⊢
    cases ht : ts[i]? with
    | none => rw [ht] at h; cases h
    | some t =>
      rw [ht] at h
      rw [hu i t ht]
      simp only at h ⊢
      split at h
      · cases h
      · rename_i h1
        by_cases h2 : t.empty = true
        · rw [if_pos h2] at h
          cases h
          rw [depth] at hd
          simp [depthL] at hd
          rw [if_neg (by omega), if_pos (show (shT D t).empty = true from h2), shNd, shNL_nil]; rfl
        · rw [if_neg h2] at h
          cases hk : kidsF ts en f d t.name (i + 1) [] with
          | error e => rw [hk] at h; cases h
          | ok p =>
            obtain ⟨ks, j'⟩ := p
            rw [hk] at h
            cases h
            rw [depth] at hd
            simp at hd
            have := kidsF_sh (em := em) hu hk (by omega)
            rw [shNL_nil] at this
            rw [if_neg (by omega), if_neg (show ¬ (shT D t).empty = true from h2), show (shT D t).name = t.name from rfl, this, shNd]; rfl
theorem kidsF_sh {ts us : List Tok} {en em D : Nat} (hu : ∀ i t, ts[i]? = some t → us[i + 1]? = some (shT D t)) : ∀ {f d : Nat} {nm : Bytes} {i : Nat} {ks ks' : List Node} {j : Nat}, kidsF ts en f d nm i ks = .ok (ks', j) → d + 1 + depthL ks' 0 ≤ 100 → kidsF us em f (d + 1) nm (i + 1) (shNL D ks) = .ok (shNL D ks', j + 1)
  | 0, _, _, _, _, _, _, h, _ => by rw [kidsF] at h; cases h
  | f + 1, d, nm, i, ks, ks', j, h, hd => by
    rw [kidsF] at h ⊢
    cases ht : ts[i]? with
    | none => rw [ht] at h; cases h
    | some u =>
      rw [ht] at h
      rw [hu i u ht]
      simp only at h ⊢
      rw [show (shT D u).kind = u.kind from rfl, show (shT D u).name = u.name from rfl]
      by_cases h2 : u.kind = 2
      · rw [if_pos h2] at h ⊢
        split at h
        · rename_i h3
          cases h
          rw [if_pos h3]
        · cases h
      · rw [if_neg h2] at h ⊢
        by_cases h1 : u.kind = 1
        · rw [if_pos h1] at h ⊢
          cases he : elemF ts en f (d + 1) i with
          | error e => rw [he] at h; cases h
          | ok p =>
            obtain ⟨k, j'⟩ := p
            rw [he] at h
            have hdk := kidsF_depth h
            rw [depthL_snoc] at hdk
            rw [elemF_sh hu he (by omega)]
            simp only
            have := kidsF_sh (em := em) hu h hd
            rw [shNL_app, shNL_one] at this
            exact this
        · rw [if_neg h1] at h ⊢
          rw [addText_sh]
          exact kidsF_sh hu h hd
end
mutual
theorem elemF_more {ts : List Tok} {en : Nat} : ∀ {f g d i : Nat} {r : Node × Nat}, elemF ts en f d i = .ok r → f ≤ g → elemF ts en g d i = .ok r
  | 0, _, _, _, _, h, _ => by rw [elemF] at h; cases h
  | f + 1, 0, _, _, _, _, hg => by omega
  | f + 1, g + 1, d, i, r, h, hg => by
    rw [elemF] at h ⊢
    cases ht : ts[i]? with
    | none => rw [ht] at h; cases h
    | some t =>
      rw [ht] at h
      simp only at h ⊢
      split at h
      · cases h
      · rename_i h1
        rw [if_neg h1]
        split at h
        · rename_i h2
          rw [if_pos h2]; exact h
        · rename_i h2
          rw [if_neg h2]
          cases hk : kidsF ts en f d t.name (i + 1) [] with
          | error e => rw [hk] at h; cases h
          | ok p =>
            rw [hk] at h
            rw [kidsF_more hk (by omega)]
            exact h
theorem kidsF_more {ts : List Tok} {en : Nat} : ∀ {f g d : Nat} {nm : Bytes} {i : Nat} {ks : List Node} {r : List Node × Nat}, kidsF ts en f d nm i ks = .ok r → f ≤ g → kidsF ts en g d nm i ks = .ok r
  | 0, _, _, _, _, _, _, h, _ => by rw [kidsF] at h; cases h
  | f + 1, 0, _, _, _, _, _, _, hg => by omega
  | f + 1, g + 1, d, nm, i, ks, r, h, hg => by
    rw [kidsF] at h ⊢
    cases ht : ts[i]? with
    | none => rw [ht] at h; cases h
    | some u =>
      rw [ht] at h
      simp only at h ⊢
      by_cases h2 : u.kind = 2
      · rw [if_pos h2] at h ⊢; exact h
      · rw [if_neg h2] at h ⊢
        by_cases h1 : u.kind = 1
        · rw [if_pos h1] at h ⊢
          cases he : elemF ts en f (d + 1) i with
          | error e => rw [he] at h; cases h
          | ok p =>
            rw [he] at h
            rw [elemF_more he (by omega)]
            exact kidsF_more h (by omega)
        · rw [if_neg h1] at h ⊢
          exact kidsF_more h (by omega)
end
theorem addText_head {k : Node} {ks : List Node} {u : Tok} (hk : k.kind ≠ 1) : ∃ ks2, addText (k :: ks) u = k :: ks2 := by
  unfold addText
  cases ks with
  | nil =>
    obtain ⟨a, s, nm, ats, kk, t, p⟩ := k
    simp only [List.getLast?_singleton]
    rw [if_neg (show ¬ a = 1 from hk)]
    exact ⟨_, rfl⟩
  | cons m ks =>
    cases hl : (k :: m :: ks).getLast? with
    | none => exact ⟨_, rfl⟩
    | some n =>
      obtain ⟨a, s, nm, ats, kk, t, p⟩ := n
      simp only
      split
      · exact ⟨_, by rw [List.dropLast_cons_cons]; rfl⟩
      · exact ⟨_, rfl⟩
/-- Texts behind an element, then the end tag. -/
theorem kidsF_tail {ts : List Tok} {en d : Nat} {nm : Bytes} {N : Nat} {t : Tok} (hN : ts[N]? = some t) (ht : t.kind = 2) (hnm : t.name = nm) : ∀ (f i : Nat) (k : Node) (ks : List Node), i ≤ N → N < i + f → k.kind ≠ 1 → (∀ j u, i ≤ j → j < N → ts[j]? = some u → u.kind = 3) → ∃ ks2, kidsF ts en f d nm i (k :: ks) = .ok (k :: ks2, N + 1)
  | 0, i, _, _, h1, h2, _, _ => by omega
  | f + 1, i, k, ks, h1, h2, hk, h3 => by
    rw [kidsF]
    rcases Nat.lt_or_ge i N with hlt | hge
    · have hN' := (List.getElem?_eq_some_iff.1 hN).1
      have hi : ts[i]? = some ts[i] := List.getElem?_eq_getElem (by omega)
      have h4 := h3 i _ (Nat.le_refl _) hlt hi
      rw [hi]
      simp only
      rw [if_neg (by rw [h4]; decide), if_neg (by rw [h4]; decide)]
      obtain ⟨ks2, he⟩ := addText_head (ks := ks) (u := ts[i]) hk
      rw [he]
      exact kidsF_tail hN ht hnm f (i + 1) k ks2 hlt (by omega) hk (fun j u hj1 hj2 => h3 j u (by omega) hj2)
    · obtain rfl : i = N := by omega
      rw [hN]
      simp only
      rw [if_pos ht, if_pos hnm]
      exact ⟨ks, rfl⟩
theorem parL_tail {ts : List Tok} {en : Nat} (hk : ∀ t ∈ ts, t.kind = 1 ∨ t.kind = 2 ∨ t.kind = 3) : ∀ {f i : Nat} {m n : Node}, parL ts en f i (some m) = .ok n → n = m ∧ ∀ j u, i ≤ j → ts[j]? = some u → u.kind = 3
  | 0, _, _, _, h => by rw [parL] at h; cases h
  | f + 1, i, m, n, h => by
    rw [parL_succ] at h
    cases ht : ts[i]? with
    | none =>
      rw [ht] at h
      cases h
      refine ⟨rfl, fun j u hj hu => ?_⟩
      have := (List.getElem?_eq_some_iff.1 hu).1
      have := List.getElem?_eq_none_iff.1 ht
      omega
    | some t =>
      have hkt := hk t (List.mem_of_getElem? ht)
      rw [ht] at h
      simp only at h
      split at h
      · cases h
      · rename_i h1
        split at h
        · cases h
        · rename_i h2
          split at h
          · cases h
          · have h3 : t.kind = 3 := by
              rcases hkt with h4 | h4 | h4
              · exact absurd ⟨h4, rfl⟩ h1
              · exact absurd h4 h2
              · exact h4
            rw [if_pos h3] at h
            have ih := parL_tail hk h
            refine ⟨ih.1, fun j u hj hu => ?_⟩
            rcases Nat.lt_or_ge i j with hlt | hge
            · exact ih.2 j u hlt hu
            · obtain rfl : j = i := by omega
              rw [ht] at hu; cases hu; exact h3
def sWrap : Bytes := [60, 119, 114, 97, 112, 62]
def sWrapEnd : Bytes := [60, 47, 119, 114, 97, 112, 62]
def nWrap : Bytes := [119, 114, 97, 112]
theorem toks_wrap : toks sWrap = ([⟨1, nWrap, [], false, [], 0⟩], sWrap.length, 0) := by rfl
theorem toks_wrapE : toks sWrapEnd = ([⟨2, nWrap, [], false, [], 0⟩], sWrapEnd.length, 0) := by rfl
/-- An accepted document within another element is its only kid ahead of white space. -/
theorem parse_wrap {s : Bytes} {n : Node} (hp : parse s = .ok n) (h1 : hasAt s 0 sLt = true) (h2 : hasAt s 0 sBang = false) (h3 : hasAt s 0 sPi = false) (hd : depth n < 100) :
    ∃ m ks, parse (sWrap ++ (s ++ sWrapEnd)) = .ok m ∧ m.name = nWrap ∧ m.kids = shNd 6 n :: ks ∧ (shNd 6 n).pos = 6 := by
  have hp0 := hp
  unfold parse at hp
  split at hp
  · cases hp
  rename_i h0
  have hts : toks s = ((toks s).1, s.length, 0) := by
    have := (toks_facts s).2.2.2.1 (by simpa using h0)
    ext1
    · rfl
    · ext1
      · exact this
      · simpa using h0
  have hk := fun t ht => (toks_good s t ht).kind
  generalize hT : (toks s).1 = ts at *
  obtain ⟨t, us, hus, htk, htp⟩ := toks_first hts h1 h2 h3
  have hne : ts ≠ [] := by rw [hus]; simp
  have ht0 : ts[0]? = some t := by rw [hus]; rfl
  -- the tokens of the whole
  have e1 := toks_tag (s := s) (r := [47, 119, 114, 97, 112, 62]) hts hne
  rw [show (60 :: [47, 119, 114, 97, 112, 62] : Bytes) = sWrapEnd from rfl, toks_wrapE] at e1
  simp only [if_true] at e1
  have e2 := toks_app (t := s ++ sWrapEnd) toks_wrap (by simp) (fun t ht => by simp at ht; subst ht; decide) (by
    obtain ⟨g1, g2⟩ := hasAt_get h1 (i := 0) (by decide)
    cases s with
    | nil => simp at g1
    | cons c x =>
      simp [sLt] at g2
      subst g2
      rfl)
  rw [e1] at e2
  simp only [if_true, List.map_cons, List.map_nil, List.map_append] at e2
  rw [show sWrap.length = 6 from rfl] at e2
  -- the parse of the document
  rw [parL_succ, ht0] at hp
  simp only at hp
  rw [if_neg (by simp)] at hp
  split at hp
  · cases hp
  rename_i hk2
  have hk1 : t.kind = 1 := by rcases htk with h | h; exact h; exact absurd h hk2
  rw [if_neg (by rw [hk1]; simp), if_neg (by rw [hk1]; decide)] at hp
  cases he : elemF ts s.length (2 * ts.length) 1 0 with
  | error e => rw [he] at hp; cases hp
  | ok p =>
    obtain ⟨m, j⟩ := p
    rw [he] at hp
    simp only at hp
    obtain ⟨rfl, htail⟩ := parL_tail hk hp
    have hj := elemF_ok he
    have hpos : n.pos = 0 := by
      have hl : ∃ f, 2 * ts.length = f + 1 := ⟨2 * ts.length - 1, by omega⟩
      obtain ⟨f, hf⟩ := hl
      rw [hf, elemF, ht0] at he
      simp only at he
      split at he
      · cases he
      · split at he
        · cases he; exact htp
        · split at he
          · cases he
          · cases he; exact htp
    have hkind : n.kind = 0 := (parse_shape hp0).1
    generalize hU : (⟨1, nWrap, [], false, [], 0⟩ : Tok) = w at e2
    generalize hV : shT 6 (shT s.length ⟨2, nWrap, [], false, [], 0⟩) = v at e2
    have hvk : v.kind = 2 := by rw [← hV]; rfl
    have hvn : v.name = nWrap := by rw [← hV]; rfl
    generalize hX : ([w] ++ (ts.map (shT 6) ++ [v])) = xs at e2
    have hxl : xs.length = ts.length + 2 := by rw [← hX]; simp
    have hx0 : xs[0]? = some w := by rw [← hX]; rfl
    have hxs : ∀ i u, ts[i]? = some u → xs[i + 1]? = some (shT 6 u) := by
      intro i u hu
      have hi := (List.getElem?_eq_some_iff.1 hu).1
      rw [← hX, List.singleton_append, List.getElem?_cons_succ, List.getElem?_append_left (by simpa using hi), List.getElem?_map, hu]; rfl
    have hxv : xs[ts.length + 1]? = some v := by
      rw [← hX, List.singleton_append, List.getElem?_cons_succ, List.getElem?_append_right (by simp)]
      simp
    have hel := elemF_sh (em := 6 + (s.length + sWrapEnd.length)) hxs he (by omega)
    have hmore : elemF xs (6 + (s.length + sWrapEnd.length)) (2 * ts.length + 2) 2 1 = .ok (shNd 6 n, j + 1) := elemF_more hel (by omega)
    obtain ⟨ks2, hkt⟩ := kidsF_tail (ts := xs) (en := 6 + (s.length + sWrapEnd.length)) (d := 1) (nm := nWrap) (N := ts.length + 1) (t := v) hxv hvk hvn (2 * ts.length + 2) (j + 1) (shNd 6 n) [] (by omega) (by omega) (by rw [shNd_kind, hkind]; decide) (by
      intro i u h5 h6 h7
      obtain ⟨i', rfl⟩ : ∃ i', i = i' + 1 := ⟨i - 1, by omega⟩
      have h8 : ts[i']? = some ts[i'] := List.getElem?_eq_getElem (by omega)
      have h9 := hxs i' _ h8
      rw [h7] at h9
      cases h9
      have h10 := htail i' ts[i'] (by omega) h8
      exact h10)
    refine ⟨.mk 0 [] nWrap [] (shNd 6 n :: ks2) [] 0, ks2, ?_, rfl, rfl, by rw [shNd_pos, hpos]; rfl⟩
    unfold parse
    rw [e2]
    simp only
    rw [if_neg (by decide), show (sWrap ++ (s ++ sWrapEnd)).length = 6 + (s.length + sWrapEnd.length) by simp [sWrap]; omega, parL_succ, hx0]
    simp only
    subst hU
    rw [if_neg (by simp), if_neg (by simp), if_neg (by simp), if_neg (by simp), hxl, show 2 * (ts.length + 2) = 2 * ts.length + 2 + 1 + 1 by omega, elemF, hx0]
    simp only
    rw [if_neg (by decide), if_neg (by simp), kidsF, hxs 0 t ht0]
    simp only
    rw [show (shT 6 t).kind = 1 from hk1, if_neg (by decide), if_pos rfl, show (1 : Nat) + 1 = 2 from rfl, hmore]
    simp only
    rw [List.nil_append, hkt]
    simp only
    rw [show ts.length + 2 = ts.length + 1 + 1 from rfl, parL_succ, List.getElem?_eq_none_iff.2 (by omega)]
end Go.Proofs.YtclhdppppgjgfaaGreatDoor
set_option linter.unusedVariables false
namespace Go.Proofs.YtclhdppppgjgfaaGreatDoor

/-! The tokens and the places of a canonical form. -/
mutual
def posN : Nat → Node → Node
  | p, .mk k s nm ats ks t q => if k = 1 then .mk 1 [] [] [] [] t p else .mk 0 [] nm (attsAt (p + 1 + nm.length) ats) (posL (p + 1 + nm.length + (attsC ats).length + 1) ks) [] p
def posL : Nat → List Node → List Node
  | _, [] => []
  | p, k :: ks => posN p k :: posL (p + (canon k).length) ks
end
mutual
def tkN : Nat → Node → List Tok
  | p, .mk k s nm ats ks t q =>
    if k = 1 then [⟨3, [], [], false, t, p⟩]
    else if ks.length = 0 then [⟨1, nm, attsAt (p + 1 + nm.length) ats, true, [], p⟩]
    else ⟨1, nm, attsAt (p + 1 + nm.length) ats, false, [], p⟩ :: (tkL (p + 1 + nm.length + (attsC ats).length + 1) ks ++ [⟨2, nm, [], false, [], (p + 1 + nm.length + (attsC ats).length + 1 + (canonL ks).length : Nat)⟩])
def tkL : Nat → List Node → List Tok
  | _, [] => []
  | p, k :: ks => tkN p k ++ tkL (p + (canon k).length) ks
end
/-- A kid of a valid element. -/
def okK (n : Node) : Bool := if n.kind == 1 then dataOk n else vld false n 0
theorem okK_cons {k : Node} {ks : List Node} {d : Nat} {b : Bool} (h : vldL false (k :: ks) d b = true) : okK k = true ∧ (k.kind = 1 → b = false) ∧ vldL false ks d (k.kind == 1) = true := by
  rw [vldL, Bool.and_eq_true] at h
  unfold okK
  by_cases hk : k.kind = 1
  · have : (k.kind == 1) = true := by simp [hk]
    rw [this] at h ⊢
    simp only [if_true, Bool.and_eq_true, Bool.not_eq_true'] at h ⊢
    exact ⟨h.1.2, fun _ => h.1.1, h.2⟩
  · have : (k.kind == 1) = false := by simp [hk]
    rw [this] at h ⊢
    simp only [Bool.false_eq_true, if_false] at h ⊢
    exact ⟨by rw [vld_any k 0 (d + 1)]; exact h.1, fun h2 => absurd h2 hk, h.2⟩
theorem canonL_start {ks : List Node} {d : Nat} {y : Bytes} (hy : ∃ r, y = 60 :: r) (h : vldL false ks d true = true) : ∃ r, canonL ks ++ y = 60 :: r := by
  obtain ⟨r, rfl⟩ := hy
  exact starts h
mutual
theorem tokF_canon {l : Bytes} : ∀ (n : Node) (p f : Nat) (ts : List Tok) (y : Bytes), okK n = true → l.drop p = canon n ++ y → (n.kind = 1 → y = [] ∨ ∃ r, y = 60 :: r) → l.length < p + f →
    ∃ G, tokF l f p ts = tokF l G (p + (canon n).length) (ts ++ tkN p n) ∧ l.length < p + (canon n).length + G
  | .mk k s nm ats ks t q, p, f, ts, y, hok, hd, hy, hf => by
    unfold okK at hok
    by_cases hk : k = 1
    · subst hk
      simp only [Node.kind, beq_self_eq_true, if_true] at hok
      have hform := data_form hok
      simp only [Node.text] at hform
      rw [canon, if_pos rfl] at hd ⊢
      have hne := esc_nil false hform.1
      have hlen := drop_len hd (by simp [hne])
      have hpos := List.length_pos_iff.2 hne
      have hc := consAt_plain (a := p) hne (fun b hb e => (esc_bytes false t b hb).1 (by rw [e]; rfl)) hd (hy rfl) (contS_esc false t p)
      rw [List.length_append] at hlen
      obtain ⟨g, rfl⟩ : ∃ g, f = g + 1 := ⟨f - 1, by omega⟩
      refine ⟨g, ?_, by omega⟩
      rw [tok_step (by omega) hc, if_pos (by simp [keepTok, hform.1]), tkN, if_pos rfl]
    · have hkb : (k == 1) = false := by simp [hk]
      simp only [Node.kind, hkb, Bool.false_eq_true, if_false] at hok
      have hv := vld_head hok
      simp only [Node.kind, Node.space, Node.text, Node.name, Node.attrs, Node.kids] at hv
      obtain ⟨_, _, _, hq, ha, hkids⟩ := hv
      have hcv : canon (.mk k s nm ats ks t q) ++ y = 60 :: (nm ++ (attsC ats ++ (if ks.length = 0 then 47 :: 62 :: y else 62 :: (canonL ks ++ 60 :: 47 :: (nm ++ 62 :: y))))) := canon_vld hok y
      have hlen := drop_len hd (by rw [hcv]; simp)
      rw [List.length_append] at hlen
      rw [hcv] at hd
      have hcl : (canon (.mk k s nm ats ks t q)).length = 1 + nm.length + (attsC ats).length + (if ks.length = 0 then 2 else 1 + (canonL ks).length + 2 + nm.length + 1) := by
        rw [canon, if_neg hk]
        split <;> simp <;> omega
      rw [tkN, if_neg hk]
      by_cases h0 : ks.length = 0
      · rw [if_pos h0] at hd hcl ⊢
        have hc := consAt_start (em := true) hq ha (show l.drop p = 60 :: (nm ++ (attsC ats ++ (tagEnd true ++ y))) from hd)
        obtain ⟨g, rfl⟩ : ∃ g, f = g + 1 := ⟨f - 1, by omega⟩
        refine ⟨g, ?_, by omega⟩
        rw [tok_step (by omega) hc, if_pos (by rfl), hcl]
        rw [show p + 1 + nm.length + (attsC ats).length + (tagEnd true).length = p + (1 + nm.length + (attsC ats).length + 2) by simp [tagEnd]; omega]
      · rw [if_neg h0] at hd hcl ⊢
        have hc := consAt_start (em := false) hq ha (show l.drop p = 60 :: (nm ++ (attsC ats ++ (tagEnd false ++ (canonL ks ++ 60 :: 47 :: (nm ++ 62 :: y))))) from hd)
        obtain ⟨g, rfl⟩ : ∃ g, f = g + 1 := ⟨f - 1, by omega⟩
        have d1 := drop_one hd
        have d2 := drop_add d1
        have d3 := drop_add d2
        have d4 := drop_one d3
        rw [show p + 1 + nm.length + (attsC ats).length + (tagEnd false).length = p + 1 + nm.length + (attsC ats).length + 1 by simp [tagEnd]] at hc
        obtain ⟨G, hG, hG2⟩ := tokF_canonL ks (p + 1 + nm.length + (attsC ats).length + 1) g (ts ++ [⟨1, nm, attsAt (p + 1 + nm.length) ats, false, [], p⟩]) 0 false _ hkids d4 ⟨_, rfl⟩ (by omega)
        have d5 := drop_add d4
        have hce := consAt_end hq d5
        obtain ⟨g2, rfl⟩ : ∃ g2, G = g2 + 1 := ⟨G - 1, by omega⟩
        refine ⟨g2, ?_, by omega⟩
        rw [tok_step (by omega) hc, if_pos (by rfl), hG, tok_step (by omega) hce, if_pos (by rfl), hcl]
        rw [show p + 1 + nm.length + (attsC ats).length + 1 + (canonL ks).length + 2 + nm.length + 1 = p + (1 + nm.length + (attsC ats).length + (1 + (canonL ks).length + 2 + nm.length + 1)) by omega]
        simp only [List.append_assoc, List.cons_append, List.nil_append]
theorem tokF_canonL {l : Bytes} : ∀ (ks : List Node) (p f : Nat) (ts : List Tok) (d : Nat) (b : Bool) (y : Bytes), vldL false ks d b = true → l.drop p = canonL ks ++ y → (∃ r, y = 60 :: r) → l.length < p + f →
    ∃ G, tokF l f p ts = tokF l G (p + (canonL ks).length) (ts ++ tkL p ks) ∧ l.length < p + (canonL ks).length + G
  | [], p, f, ts, d, b, y, hv, hd, hy, hf => by
    refine ⟨f, ?_, ?_⟩
    · rw [canonL, tkL, List.append_nil]; rfl
    · rw [canonL]; simpa using hf
  | k :: ks, p, f, ts, d, b, y, hv, hd, hy, hf => by
    obtain ⟨h1, h2, h3⟩ := okK_cons hv
    rw [canonL, List.append_assoc] at hd
    have hy2 : k.kind = 1 → canonL ks ++ y = [] ∨ ∃ r, canonL ks ++ y = 60 :: r := fun hk => by
      have : (k.kind == 1) = true := by simp [hk]
      rw [this] at h3
      exact .inr (canonL_start hy h3)
    obtain ⟨G, hG, hG2⟩ := tokF_canon k p f ts _ h1 hd hy2 hf
    have d2 := drop_add hd
    obtain ⟨G2, hG3, hG4⟩ := tokF_canonL ks (p + (canon k).length) G (ts ++ tkN p k) d _ y h3 d2 hy hG2
    refine ⟨G2, ?_, ?_⟩
    · rw [hG, hG3, canonL, tkL, List.length_append, ← Nat.add_assoc, List.append_assoc]
    · rw [canonL, List.length_append]; omega
end

/-! The builder over these tokens. -/
theorem lastD_snoc : ∀ (ks : List Node) (k : Node) (b : Bool), lastD b (ks ++ [k]) = (k.kind == 1)
  | [], k, b => rfl
  | x :: ks, k, b => by rw [List.cons_append, lastD, lastD_snoc ks k]
theorem addText_new {ks : List Node} {u : Tok} (h : lastD false ks = false) : addText ks u = ks ++ [.mk 1 [] [] [] [] u.text u.pos] := by
  unfold addText
  cases hl : ks.getLast? with
  | none => rfl
  | some n =>
    have := lastD_last false hl
    rw [h] at this
    obtain ⟨k, s, nm, ats, kk, t, p⟩ := n
    simp only [Node.kind] at this
    simp only
    rw [if_neg (by intro e; subst e; simp at this)]
theorem okK_kind {n : Node} (h : okK n = true) : n.kind = 1 ∨ n.kind = 0 := by
  unfold okK at h
  by_cases hk : n.kind = 1
  · exact .inl hk
  · have : (n.kind == 1) = false := by simp [hk]
    rw [this] at h
    simp only [Bool.false_eq_true, if_false] at h
    exact .inr (vld_head h).1
theorem posN_kind {n : Node} (p : Nat) (h : okK n = true) : (posN p n).kind = n.kind := by
  rcases okK_kind h with hk | hk
  · obtain ⟨k, s, nm, ats, ks, t, q⟩ := n
    simp only [Node.kind] at hk; subst hk
    rw [posN, if_pos rfl]; rfl
  · obtain ⟨k, s, nm, ats, ks, t, q⟩ := n
    simp only [Node.kind] at hk; subst hk
    rw [posN, if_neg (by decide)]; rfl
theorem okK_kids {n : Node} (h : okK n = true) (hk : n.kind ≠ 1) : vldL false n.kids 0 false = true := by
  unfold okK at h
  have : (n.kind == 1) = false := by simp [hk]
  rw [this] at h
  exact (vld_head h).2.2.2.2.2
mutual
theorem machL_canon {en : Nat} : ∀ (n : Node) (p : Nat) (rest : List Tok) (f : Fr) (st : List Fr), okK n = true → (n.kind = 1 → lastD false f.kids = false) → st.length + 1 + depth n ≤ 100 →
    machL en (tkN p n ++ rest) (f :: st) none = machL en rest (⟨f.name, f.attrs, f.pos, f.kids ++ [posN p n]⟩ :: st) none
  | .mk k s nm ats ks t q, p, rest, f, st, hok, hl, hd => by
    by_cases hk : k = 1
    · subst hk
      rw [tkN, if_pos rfl, posN, if_pos rfl, List.singleton_append, machL_cons, if_neg (by simp), if_neg (by simp)]
      simp only
      rw [addText_new (hl rfl)]
    · have hkids := okK_kids hok hk
      simp only [Node.kids] at hkids
      rw [depth, if_neg hk] at hd
      rw [tkN, if_neg hk, posN, if_neg hk]
      by_cases h0 : ks.length = 0
      · have : ks = [] := List.eq_nil_of_length_eq_zero h0
        subst this
        rw [if_pos (show ([] : List Node).length = 0 from rfl), List.singleton_append, machL_cons, if_pos rfl, if_neg (by simp), if_neg (by simp only [List.length_cons]; omega), if_pos rfl, posL]
      · rw [if_neg h0, List.cons_append, machL_cons, if_pos rfl, if_neg (by simp), if_neg (by simp only [List.length_cons]; omega), if_neg (by simp), List.append_assoc, machL_canonL ks _ _ ⟨nm, _, _, []⟩ (f :: st) 0 false hkids rfl (by simp only [List.length_cons]; omega), List.singleton_append, machL_cons, if_neg (by simp), if_pos rfl]
        simp only [if_true, List.nil_append]
        rfl
theorem machL_canonL {en : Nat} : ∀ (ks : List Node) (p : Nat) (rest : List Tok) (f : Fr) (st : List Fr) (d : Nat) (b : Bool), vldL false ks d b = true → lastD false f.kids = b → st.length + 1 + depthL ks 0 ≤ 100 →
    machL en (tkL p ks ++ rest) (f :: st) none = machL en rest (⟨f.name, f.attrs, f.pos, f.kids ++ posL p ks⟩ :: st) none
  | [], p, rest, f, st, d, b, hv, hl, hd => by rw [tkL, posL, List.append_nil]; rfl
  | k :: ks, p, rest, f, st, d, b, hv, hl, hd => by
    obtain ⟨h1, h2, h3⟩ := okK_cons hv
    have hdk := depthL_mem (k :: ks) 0 k (by simp)
    have hdks : depthL ks 0 ≤ depthL (k :: ks) 0 := by
      rw [depthL, depthL_max ks (max 0 (depth k))]; omega
    rw [tkL, List.append_assoc, machL_canon k p _ f st h1 (fun hk => by rw [hl]; exact h2 hk) (by omega), machL_canonL ks _ rest _ st d _ h3 (by rw [lastD_snoc, posN_kind p h1]) (by omega), posL]
    simp only [List.append_assoc, List.singleton_append]
end

/-! The document. -/
mutual
theorem check_canon : ∀ n : Node, okK n = true → (check (canon n)).2 = 0
  | .mk k s nm ats ks t q, h => by
    by_cases hk : k = 1
    · subst hk
      unfold okK at h
      simp only [Node.kind, beq_self_eq_true, if_true] at h
      rw [canon, if_pos rfl]
      refine check_esc_ok false ?_
      unfold dataOk at h
      simp only [Node.text, Bool.and_eq_true] at h
      have h2 := h.1.1.1.1.2
      unfold charsOk at h2
      simpa using h2
    · have hkids := okK_kids h hk
      simp only [Node.kids] at hkids
      unfold okK at h
      have hkb : (k == 1) = false := by simp [hk]
      simp only [Node.kind, hkb, Bool.false_eq_true, if_false] at h
      have hv := vld_head h
      simp only [Node.name, Node.attrs] at hv
      rw [canon, if_neg hk]
      refine check_cat (check_cat (check_cat (by decide) (check_qname hv.2.2.2.1)) (check_attsC ats [] hv.2.2.2.2.1)) ?_
      split
      · decide
      · exact check_cat (check_cat (check_cat (check_cat (by decide) (check_canonL ks 0 false hkids)) (by decide)) (check_qname hv.2.2.2.1)) (by decide)
theorem check_canonL : ∀ (ks : List Node) (d : Nat) (b : Bool), vldL false ks d b = true → (check (canonL ks)).2 = 0
  | [], _, _, _ => by rw [canonL]; rfl
  | k :: ks, d, b, h => by
    obtain ⟨h1, _, h3⟩ := okK_cons h
    rw [canonL]
    exact check_cat (check_canon k h1) (check_canonL ks d _ h3)
theorem check_attsC : ∀ (l : List Att) (seen : List Bytes), attsOkS seen l = true → (check (attsC l)).2 = 0
  | [], _, _ => by rw [attsC]; rfl
  | a :: l, seen, h => by
    rw [attsOkS] at h
    simp only [Bool.and_eq_true] at h
    have h2 := h.1.2
    unfold charsOk at h2
    rw [attsC]
    refine check_cat ?_ (check_attsC l _ h.2)
    unfold attC
    exact check_cat (check_cat (check_cat (check_cat (by decide) (check_qname h.1.1.2)) (by decide)) (check_esc_ok true (by simpa using h2))) (by decide)
end
theorem attsEqv_at : ∀ (l : List Att) (n : Nat), (∀ a ∈ l, a.space = []) → attsEqv false l (attsAt n l) = true ∧ (attsAt n l).length = l.length
  | [], n, _ => ⟨attsEqv_nil _ _, rfl⟩
  | a :: l, n, h => by
    have ih := attsEqv_at l (n + (attC a).length) (fun b hb => h b (by simp [hb]))
    rw [attsAt]
    refine ⟨?_, by simp [ih.2]⟩
    rw [attsEqv, ih.1]
    simp [attEqv, h a (by simp)]
mutual
theorem eqv_pos : ∀ (n : Node) (p : Nat), okK n = true → eqv false n (posN p n) = true
  | .mk k s nm ats ks t q, p, h => by
    by_cases hk : k = 1
    · subst hk
      unfold okK at h
      simp only [Node.kind, beq_self_eq_true, if_true] at h
      have hf := data_form h
      simp only [Node.text, Node.space, Node.name, Node.attrs, Node.kids] at hf
      obtain ⟨_, rfl, rfl, rfl, rfl⟩ := hf
      rw [posN, if_pos rfl, eqv]
      simp only [Node.attrs, Node.kids]
      rw [attsEqv_nil, kidsEqv_nil]
      simp [headEqv, Node.kind, Node.space, Node.name, Node.text, Node.attrs, Node.kids]
    · have hkids := okK_kids h hk
      simp only [Node.kids] at hkids
      unfold okK at h
      have hkb : (k == 1) = false := by simp [hk]
      simp only [Node.kind, hkb, Bool.false_eq_true, if_false] at h
      have hv := vld_head h
      simp only [Node.kind, Node.space, Node.text, Node.name, Node.attrs] at hv
      obtain ⟨rfl, rfl, rfl, hq, ha, _⟩ := hv
      have hat := attsEqv_at ats (p + 1 + nm.length) (fun a hm => (attsOkS_of ha a hm).1)
      have hkl := kidsEqv_pos ks (p + 1 + nm.length + (attsC ats).length + 1) 0 false hkids
      rw [posN, if_neg (by decide), eqv]
      simp only [Node.attrs, Node.kids]
      rw [hat.1, hkl.1]
      simp [headEqv, Node.kind, Node.space, Node.name, Node.text, Node.attrs, Node.kids, hat.2, hkl.2]
theorem kidsEqv_pos : ∀ (ks : List Node) (p d : Nat) (b : Bool), vldL false ks d b = true → kidsEqv false ks (posL p ks) = true ∧ (posL p ks).length = ks.length
  | [], _, _, _, _ => ⟨kidsEqv_nil _ _, by rw [posL]⟩
  | k :: ks, p, d, b, h => by
    obtain ⟨h1, _, h3⟩ := okK_cons h
    have ih := kidsEqv_pos ks (p + (canon k).length) d _ h3
    rw [posL]
    refine ⟨?_, by simp [ih.2]⟩
    rw [kidsEqv, eqv_pos k p h1, ih.1]; rfl
end
theorem vld_okK {n : Node} {d : Nat} (h : vld true n d = true) : okK n = true ∧ n.kind = 0 := by
  have hk := (vld_head h).1
  rw [vld_depth n d (by omega), Bool.and_eq_true] at h
  unfold okK
  rw [hk]
  exact ⟨by rw [if_neg (by decide), vld_any n 0 d]; exact h.1, rfl⟩
theorem toks_doc {n : Node} (h : okK n = true) (hk : n.kind = 0) :
    toks (doc n) = ([⟨3, [], [], false, [10], 38⟩] ++ tkN 39 n ++ [⟨3, [], [], false, [10], (39 + (canon n).length : Nat)⟩], (doc n).length, 0) := by
  have hck : (check (doc n)).2 = 0 := check_cat (check_cat (by decide) (check_canon n h)) (by decide)
  have hbom : hasAt (doc n) 0 sBom = false := rfl
  have hlen : (doc n).length = 40 + (canon n).length := by simp [doc, header]; omega
  have hv : vld false n 0 = true := by
    unfold okK at h
    rw [hk] at h
    simpa using h
  have hst : ∃ r, canon n ++ [10] = 60 :: r := ⟨_, canon_vld hv [10]⟩
  have c1 : consAt (doc n) 0 = .ok (zTok 3, 38) := by
    unfold consAt
    have hpi : hasAt (doc n) 0 sPi = true := by simp [hasAt, sPi, doc, header]
    have hf : findS sPiEnd ((doc n).drop (0 + 2)) = some 34 := by
      have : (doc n).drop (0 + 2) = header.drop 2 ++ (canon n ++ [10]) := by simp [doc, header]
      rw [this]
      exact findS_app _ (by decide)
    rw [if_pos hpi]
    unfold skipAt
    rw [hf]
    rfl
  have d38 : (doc n).drop 38 = [10] ++ (canon n ++ [10]) := by simp [doc, header]
  have c2 := consAt_plain (l := doc n) (a := 38) (v := [10]) (x := [10]) (by simp) (by decide) d38 (.inr hst) rfl
  have d39 : (doc n).drop 39 = canon n ++ [10] := drop_add d38
  obtain ⟨G, hG, hG2⟩ := tokF_canon (l := doc n) n 39 ((doc n).length - 1) [⟨3, [], [], false, [10], (38 : Nat)⟩] [10] h d39 (fun e => by omega) (by omega)
  have dl : (doc n).drop (39 + (canon n).length) = [10] ++ [] := drop_add d39
  have c3 := consAt_plain (l := doc n) (v := [10]) (x := [10]) (by simp) (by decide) dl (.inl rfl) rfl
  unfold toks tokS
  rw [if_neg (by simp [hck]), hbom]
  simp only [Bool.false_eq_true, if_false]
  obtain ⟨g, hg⟩ : ∃ g, (doc n).length + 1 = g + 1 + 1 := ⟨(doc n).length - 1, by omega⟩
  have hg' : g = (doc n).length - 1 := by omega
  rw [hg, tok_step (by omega) c1, if_neg (by decide), tok_step (by omega) c2, if_pos (by rfl), List.nil_append, show 38 + [(10 : UInt8)].length = 39 from rfl, hg', hG]
  obtain ⟨g2, rfl⟩ : ∃ g2, G = g2 + 1 + 1 := ⟨G - 2, by omega⟩
  rw [tok_step (by omega) c3, if_pos (by rfl), show 39 + (canon n).length + [(10 : UInt8)].length = (doc n).length by rw [hlen]; simp; omega, tok_done]
  rfl
/-- The canonical document of a valid tree is read as that tree. -/
theorem parse_doc {n : Node} (h : vld true n 1 = true) : parse (doc n) = .ok (posN 39 n) ∧ eqv false n (posN 39 n) = true := by
  obtain ⟨hok, hk⟩ := vld_okK h
  refine ⟨?_, eqv_pos n 39 hok⟩
  have ht := toks_doc hok hk
  have hkinds := fun t ht => (toks_good (doc n) t ht).kind
  have hm := mach_par (ts := (toks (doc n)).1) (en := (doc n).length) hkinds _ 0 none rfl (Nat.zero_le _)
  unfold parse
  rw [if_neg (by rw [ht]; simp), ← hm, List.drop_zero, ht]
  simp only
  have hd : depth n ≤ 100 := by
    rw [vld_depth n 1 (by omega), Bool.and_eq_true, decide_eq_true_eq] at h
    omega
  have b10 : blank [10] = true := by decide
  rw [List.append_assoc, List.singleton_append, machL_cons, if_neg (by simp), if_neg (by simp)]
  simp only [b10, if_true]
  obtain ⟨k, s, nm, ats, ks, t, q⟩ := n
  simp only [Node.kind] at hk
  subst hk
  have hkids := okK_kids hok (show ¬ ((0 : Int) = 1) by decide)
  simp only [Node.kids] at hkids
  rw [depth, if_neg (show ¬ ((0 : Int) = 1) by decide)] at hd
  rw [tkN, if_neg (show ¬ ((0 : Int) = 1) by decide), posN, if_neg (show ¬ ((0 : Int) = 1) by decide)]
  by_cases h0 : ks.length = 0
  · have : ks = [] := List.eq_nil_of_length_eq_zero h0
    subst this
    rw [if_pos (show ([] : List Node).length = 0 from rfl), List.singleton_append, machL_cons, if_pos rfl, if_neg (by simp), if_neg (by simp), if_pos rfl, posL]
    simp only
    rw [machL_cons, if_neg (by simp), if_neg (by simp)]
    simp only [b10, if_true]
    rw [machL_nil]
  · rw [if_neg h0, List.cons_append, machL_cons, if_pos rfl, if_neg (by simp), if_neg (by simp), if_neg (by simp), List.append_assoc, machL_canonL ks _ _ ⟨nm, _, _, []⟩ [] 0 false hkids rfl (by simp only [List.length_nil]; omega), List.singleton_append, machL_cons, if_neg (by simp), if_pos rfl]
    simp only [if_true, List.nil_append]
    rw [machL_cons, if_neg (by simp), if_neg (by simp)]
    simp only [b10, if_true]
    rw [machL_nil]
    rfl
end Go.Proofs.YtclhdppppgjgfaaGreatDoor
set_option linter.unusedVariables false
namespace Go.Proofs.YtclhdppppgjgfaaGreatDoor

theorem OffOk.ge {n : Nat} {ts : List Tok} (h : OffOk n ts) : ∀ (i : Nat) (hi : i < ts.length), 0 ≤ ts[i].pos
  | 0, hi => by
    have := h.inc 0 hi
    simp [prevP] at this; omega
  | i + 1, hi => by
    have := h.inc (i + 1) hi
    have ih := OffOk.ge h i (by omega)
    have e : prevP ts (i + 1) = ts[i].pos := by simp [prevP, show i < ts.length by omega]
    rw [e] at this; omega
theorem OffOk.ge_mem {n : Nat} {ts : List Tok} (h : OffOk n ts) {t : Tok} (ht : t ∈ ts) : 0 ≤ t.pos ∧ t.pos < n := by
  obtain ⟨i, hi, rfl⟩ := List.getElem_of_mem ht
  exact ⟨h.ge i hi, h.lt _ ht⟩
end Go.Proofs.YtclhdppppgjgfaaGreatDoor
set_option linter.unusedVariables false
namespace Go.Proofs.YtclhdppppgjgfaaGreatDoor

theorem machL_errpos {en N : Nat} : ∀ (l : List Tok) (st : List Fr) (r : Option Node) (q : Int × Nat), (∀ t ∈ l, 0 ≤ t.pos ∧ t.pos ≤ N) → en ≤ N → machL en l st r = .error q → (0 ≤ q.1 ∧ q.1 ≤ N) ∧ q.2 ≠ 0
  | [], st, r, q, h, he, hm => by
    rw [machL_nil] at hm
    cases r with
    | none => cases hm; exact ⟨⟨Int.natCast_nonneg _, by simp only; omega⟩, by simp⟩
    | some n => cases hm
  | u :: l, st, r, q, h, he, hm => by
    have hu := h u (by simp)
    have hl : ∀ t ∈ l, 0 ≤ t.pos ∧ t.pos ≤ N := fun t ht => h t (by simp [ht])
    rw [machL_cons] at hm
    by_cases h1 : u.kind = 1
    · rw [if_pos h1] at hm
      by_cases h2 : r.isSome = true
      · rw [if_pos h2] at hm; cases hm; exact ⟨hu, by simp⟩
      rw [if_neg h2] at hm
      by_cases h3 : st.length = 100
      · rw [if_pos h3] at hm; cases hm; exact ⟨hu, by simp⟩
      rw [if_neg h3] at hm
      by_cases h4 : u.empty = true
      · rw [if_pos h4] at hm
        cases st with
        | nil => exact machL_errpos l _ _ q hl he hm
        | cons f st => exact machL_errpos l _ _ q hl he hm
      · rw [if_neg h4] at hm
        exact machL_errpos l _ _ q hl he hm
    rw [if_neg h1] at hm
    by_cases h2 : u.kind = 2
    · rw [if_pos h2] at hm
      cases st with
      | nil => cases hm; exact ⟨hu, by simp⟩
      | cons f st =>
        simp only at hm
        by_cases h3 : f.name = u.name
        · rw [if_pos h3] at hm
          cases st with
          | nil => exact machL_errpos l _ _ q hl he hm
          | cons g st => exact machL_errpos l _ _ q hl he hm
        · rw [if_neg h3] at hm; cases hm; exact ⟨hu, by simp⟩
    · rw [if_neg h2] at hm
      cases st with
      | nil =>
        simp only at hm
        by_cases h3 : blank u.text = true
        · rw [if_pos h3] at hm
          exact machL_errpos l _ _ q hl he hm
        · rw [if_neg h3] at hm; cases hm; exact ⟨hu, by simp⟩
      | cons f st => exact machL_errpos l _ _ q hl he hm
/-- An error's place is within the document. -/
theorem parse_errpos {l : Bytes} {q : Int × Nat} (h : parse l = .error q) : (0 ≤ q.1 ∧ q.1 ≤ l.length) ∧ q.2 ≠ 0 := by
  have hf := toks_facts l
  by_cases h0 : (toks l).2.2 = 0
  · have hkinds := fun t ht => (toks_good l t ht).kind
    have hm := mach_par (ts := (toks l).1) (en := l.length) hkinds _ 0 none rfl (Nat.zero_le _)
    unfold parse at h
    rw [if_neg (by simp [h0]), ← hm] at h
    refine machL_errpos _ _ _ q (fun t ht => ?_) (Nat.le_refl _) h
    have := hf.1.ge_mem (List.mem_of_mem_drop ht)
    omega
  · unfold parse at h
    rw [if_pos h0] at h
    cases h
    have := hf.2.2.1
    exact ⟨⟨Int.natCast_nonneg _, by simp only; omega⟩, h0⟩

theorem parse_errne {l : Bytes} {q : Int × Nat} (h : parse l = .error q) : q.2 ≠ 0 := (parse_errpos h).2

end Go.Proofs.YtclhdppppgjgfaaGreatDoor
