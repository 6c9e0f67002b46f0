/-
  Several texts in one file, in build order:
  - Plain laws of chapter 7: where errors stand; elements nested up to the limit. No program.
-/
import Derived.Test.YtclhdppppgjgfaaGreatDoorH29
set_option linter.unusedVariables false
namespace Go.Proofs.YtclhdppppgjgfaaGreatDoor

/-! Normal trees. -/
mutual
def nrm : Node → Bool
  | .mk _ _ _ _ ks _ _ => nrmL false ks
def nrmL : Bool → List Node → Bool
  | _, [] => true
  | b, k :: ks => !(k.kind == 1 && (k.text == [] || b)) && nrm k && nrmL (k.kind == 1) ks
end
theorem nrm_eq (n : Node) : nrm n = nrmL false n.kids := by cases n; rw [nrm]; rfl
mutual
theorem vld_nrm {lim : Bool} : ∀ (n : Node) (d : Nat), vld lim n d = true → nrm n = true
  | .mk k s nm ats ks t q, d, h => by
    have h2 := (vld_head h).2.2.2.2.2
    rw [nrm]
    exact vldL_nrm ks d false h2
theorem vldL_nrm {lim : Bool} : ∀ (ks : List Node) (d : Nat) (b : Bool), vldL lim ks d b = true → nrmL b ks = true
  | [], _, _, _ => by rw [nrmL]
  | k :: ks, d, b, h => by
    rw [vldL, Bool.and_eq_true] at h
    rw [nrmL, vldL_nrm ks d _ h.2]
    by_cases hk : k.kind = 1
    · have hb : (k.kind == 1) = true := by simp [hk]
      rw [hb] at h ⊢
      simp only [if_true, Bool.and_eq_true, Bool.not_eq_true'] at h
      have hf := data_form h.1.2
      rw [nrm_eq, hf.2.2.2.2, nrmL, h.1.1]
      simp [hf.1]
    · have hb : (k.kind == 1) = false := by simp [hk]
      rw [hb] at h ⊢
      simp only [Bool.false_eq_true, if_false] at h
      rw [vld_nrm k _ h.1]; rfl
end
theorem parse_nrm {l : Bytes} {n : Node} (h : parse l = .ok n) : nrm n = true := vld_nrm n 1 (parse_vld h)

/-! Nested elements. -/
def repB (x : Bytes) : Nat → Bytes
  | 0 => []
  | k + 1 => x ++ repB x k
theorem repB_len (x : Bytes) (k : Nat) : (repB x k).length = k * x.length := by
  induction k with
  | zero => simp [repB]
  | succ k ih => rw [repB, List.length_append, ih, Nat.succ_mul]; omega
theorem repB_check {x : Bytes} (h : (check x).2 = 0) : ∀ k, (check (repB x k)).2 = 0
  | 0 => rfl
  | k + 1 => by rw [repB]; exact check_cat h (repB_check h k)
def sA : Bytes := [60, 97, 62]
def sAe : Bytes := [60, 47, 97, 62]
def sAm : Bytes := [60, 97, 47, 62]
def sts : Nat → Nat → List Tok
  | _, 0 => []
  | p, k + 1 => ⟨1, [97], [], false, [], p⟩ :: sts (p + 3) k
def ets : Nat → Nat → List Tok
  | _, 0 => []
  | p, k + 1 => ⟨2, [97], [], false, [], p⟩ :: ets (p + 4) k
theorem qa : isQName [97] = true := by decide
theorem tokF_sts {l : Bytes} : ∀ (k p f : Nat) (ts : List Tok) (y : Bytes), l.drop p = repB sA k ++ y → l.length < p + f → p ≤ l.length → ∃ G, tokF l f p ts = tokF l G (p + 3 * k) (ts ++ sts p k) ∧ l.length < p + 3 * k + G ∧ l.drop (p + 3 * k) = y
  | 0, p, f, ts, y, hd, hf, hp => ⟨f, by simp [sts], by omega, by rw [repB] at hd; exact hd⟩
  | k + 1, p, f, ts, y, hd, hf, hp => by
    rw [repB, List.append_assoc] at hd
    have hc := consAt_start (a := p) (em := false) (nm := [97]) (ats := []) (r := repB sA k ++ y) qa rfl hd
    have hlen := drop_len hd (by simp [sA])
    have d2 : l.drop (p + 3) = repB sA k ++ y := drop_add hd
    simp only [sA, List.length_append, List.length_cons, List.length_nil] at hlen
    obtain ⟨g, rfl⟩ : ∃ g, f = g + 1 := ⟨f - 1, by omega⟩
    obtain ⟨G, h1, h2, h3⟩ := tokF_sts k (p + 3) g (ts ++ [⟨1, [97], [], false, [], p⟩]) y d2 (by omega) (by omega)
    refine ⟨G, ?_, by omega, by rw [← h3]; congr 1; omega⟩
    rw [tok_step (by omega) hc, if_pos (by rfl), show p + 1 + [(97 : UInt8)].length + (attsC []).length + (tagEnd false).length = p + 3 by simp [attsC, tagEnd], show attsAt (p + 1 + [(97 : UInt8)].length) [] = [] from rfl, h1, sts, show p + 3 + 3 * k = p + 3 * (k + 1) by omega]
    simp only [List.append_assoc, List.singleton_append]
theorem tokF_ets {l : Bytes} : ∀ (k p f : Nat) (ts : List Tok), l.drop p = repB sAe k → l.length < p + f → p ≤ l.length → tokF l f p ts = .ok (ts ++ ets p k)
  | 0, p, f, ts, hd, hf, hp => by
    rw [repB] at hd
    have : l.length ≤ p := by
      have := congrArg List.length hd
      simp at this; omega
    obtain ⟨g, rfl⟩ : ∃ g, f = g + 1 := ⟨f - 1, by omega⟩
    rw [tokF, if_neg (by omega), ets, List.append_nil]
  | k + 1, p, f, ts, hd, hf, hp => by
    rw [repB] at hd
    have hc := consAt_end (a := p) (nm := [97]) (r := repB sAe k) qa hd
    have hlen := drop_len hd (by simp [sAe])
    have d2 : l.drop (p + 4) = repB sAe k := drop_add hd
    simp only [sAe, List.length_append, List.length_cons, List.length_nil] at hlen
    obtain ⟨g, rfl⟩ : ∃ g, f = g + 1 := ⟨f - 1, by omega⟩
    rw [tok_step (by omega) hc, if_pos (by rfl), show p + 2 + [(97 : UInt8)].length + 1 = p + 4 by simp, tokF_ets k (p + 4) g _ d2 (by omega) (by omega), ets]
    simp only [List.append_assoc, List.singleton_append]
def frs : Nat → Nat → List Fr → List Fr
  | _, 0, st => st
  | p, k + 1, st => frs (p + 3) k (⟨[97], [], p, []⟩ :: st)
theorem frs_facts : ∀ (k p : Nat) (st : List Fr), (∀ f ∈ st, f.name = [97] ∧ f.kids = []) → (frs p k st).length = st.length + k ∧ ∀ f ∈ frs p k st, f.name = [97] ∧ f.kids = []
  | 0, p, st, h => ⟨rfl, h⟩
  | k + 1, p, st, h => by
    have ih := frs_facts k (p + 3) (⟨[97], [], p, []⟩ :: st) (fun f hf => by
      rcases List.mem_cons.1 hf with rfl | hf
      · exact ⟨rfl, rfl⟩
      · exact h f hf)
    rw [frs]
    exact ⟨by rw [ih.1, List.length_cons]; omega, ih.2⟩
theorem machL_sts {en : Nat} : ∀ (k p : Nat) (st : List Fr) (rest : List Tok), st.length + k ≤ 100 → machL en (sts p k ++ rest) st none = machL en rest (frs p k st) none
  | 0, p, st, rest, h => rfl
  | k + 1, p, st, rest, h => by
    rw [sts, List.cons_append, machL_cons, if_pos rfl, if_neg (by simp), if_neg (by omega), if_neg (by simp), machL_sts k (p + 3) _ rest (by simp only [List.length_cons]; omega), frs]
theorem machL_over {en : Nat} : ∀ (k p : Nat) (st : List Fr) (rest : List Tok), st.length ≤ 100 → 100 < st.length + k → machL en (sts p k ++ rest) st none = .error ((p + 3 * (100 - st.length) : Nat), 9)
  | 0, p, st, rest, h1, h2 => by omega
  | k + 1, p, st, rest, h1, h2 => by
    rw [sts, List.cons_append, machL_cons, if_pos rfl, if_neg (by simp)]
    by_cases h3 : st.length = 100
    · rw [if_pos h3, h3]; rfl
    · rw [if_neg h3, if_neg (by simp), machL_over k (p + 3) _ rest (by simp only [List.length_cons]; omega) (by simp only [List.length_cons]; omega)]
      simp only [List.length_cons]
      rw [show p + 3 + 3 * (100 - (st.length + 1)) = p + 3 * (100 - st.length) by omega]
theorem machL_ets {en : Nat} : ∀ (k p : Nat) (f : Fr) (st : List Fr), st.length = k → f.name = [97] → (∀ g ∈ st, g.name = [97] ∧ g.kids = []) → ∃ n, machL en (ets p (k + 1)) (f :: st) none = .ok n ∧ depth n = k + 1 + depthL f.kids 0
  | 0, p, f, st, h1, h2, h3 => by
    have : st = [] := List.eq_nil_of_length_eq_zero h1
    subst this
    refine ⟨f.node f.kids, ?_, ?_⟩
    · rw [ets, ets, machL_cons, if_neg (by simp), if_pos rfl]
      simp only
      rw [if_pos h2, machL_nil]
    · rw [Fr.node, depth, if_neg (by decide)]; omega
  | k + 1, p, f, st, h1, h2, h3 => by
    cases st with
    | nil => simp at h1
    | cons g st =>
      have hg := h3 g (by simp)
      obtain ⟨n, h4, h5⟩ := machL_ets (en := en) k (p + 4) ⟨g.name, g.attrs, g.pos, g.kids ++ [f.node f.kids]⟩ st (by simpa using h1) hg.1 (fun x hx => h3 x (by simp [hx]))
      refine ⟨n, ?_, ?_⟩
      · rw [ets, machL_cons, if_neg (by simp), if_pos rfl]
        simp only
        rw [if_pos h2]
        exact h4
      · rw [h5]
        simp only [hg.2, List.nil_append]
        rw [depthL, depthL, Fr.node, depth, if_neg (by decide)]
        omega
theorem hasAt_bomA {l r : Bytes} (h : l = 60 :: r) : hasAt l 0 sBom = false := by subst h; rfl
/-- Elements within elements, the innermost one without a kid. -/
theorem parse_nest (k : Nat) (hk : 1 ≤ k) : (k ≤ 100 → ∃ n, parse (repB sA k ++ repB sAe k) = .ok n ∧ depth n = k) ∧ (100 < k → parse (repB sA k ++ repB sAe k) = .error (300, 9)) := by
  obtain ⟨j, rfl⟩ : ∃ j, k = j + 1 := ⟨k - 1, by omega⟩
  have ht : toks (repB sA (j + 1) ++ repB sAe (j + 1)) = (sts 0 (j + 1) ++ ets (3 * (j + 1)) (j + 1), (repB sA (j + 1) ++ repB sAe (j + 1)).length, 0) := by
    have hck : (check (repB sA (j + 1) ++ repB sAe (j + 1))).2 = 0 := check_cat (repB_check (by decide) _) (repB_check (by decide) _)
    have hb : hasAt (repB sA (j + 1) ++ repB sAe (j + 1)) 0 sBom = false := hasAt_bomA (r := [97, 62] ++ repB sA j ++ repB sAe (j + 1)) (by simp [repB, sA])
    obtain ⟨G, h1, h2, h3⟩ := tokF_sts (l := repB sA (j + 1) ++ repB sAe (j + 1)) (j + 1) 0 ((repB sA (j + 1) ++ repB sAe (j + 1)).length + 1) [] (repB sAe (j + 1)) rfl (by omega) (Nat.zero_le _)
    rw [Nat.zero_add] at h1 h2 h3
    have hp : 3 * (j + 1) ≤ (repB sA (j + 1) ++ repB sAe (j + 1)).length := by rw [List.length_append, repB_len, repB_len]; simp [sA]; omega
    have h4 := tokF_ets (j + 1) (3 * (j + 1)) G ([] ++ sts 0 (j + 1)) h3 (by omega) hp
    unfold toks tokS
    rw [if_neg (by simp [hck]), hb]
    simp only [Bool.false_eq_true, if_false]
    rw [h1, h4]
    rfl
  have hkinds := fun t ht => (toks_good (repB sA (j + 1) ++ repB sAe (j + 1)) t ht).kind
  have hm := mach_par (ts := (toks (repB sA (j + 1) ++ repB sAe (j + 1))).1) (en := (repB sA (j + 1) ++ repB sAe (j + 1)).length) hkinds _ 0 none rfl (Nat.zero_le _)
  have hp : parse (repB sA (j + 1) ++ repB sAe (j + 1)) = machL (repB sA (j + 1) ++ repB sAe (j + 1)).length (sts 0 (j + 1) ++ ets (3 * (j + 1)) (j + 1)) [] none := by
    unfold parse
    rw [if_neg (by rw [ht]; simp), ← hm, List.drop_zero, ht]
  constructor
  · intro h
    rw [hp, machL_sts (j + 1) 0 [] _ (by simp only [List.length_nil]; omega)]
    have hfr := frs_facts (j + 1) 0 [] (fun f hf => by cases hf)
    generalize frs 0 (j + 1) [] = st at *
    cases st with
    | nil => simp at hfr
    | cons f st =>
      obtain ⟨n, h1, h2⟩ := machL_ets (en := (repB sA (j + 1) ++ repB sAe (j + 1)).length) j (3 * (j + 1)) f st (by simpa using hfr.1) (hfr.2 f (by simp)).1 (fun x hx => hfr.2 x (by simp [hx]))
      refine ⟨n, h1, ?_⟩
      rw [h2, (hfr.2 f (by simp)).2, depthL]
  · intro h
    rw [hp, machL_over (j + 1) 0 [] _ (by simp) (by simp only [List.length_nil]; omega)]
    rfl
theorem parse_nestE (j : Nat) : (j + 1 ≤ 100 → ∃ n, parse (repB sA j ++ sAm ++ repB sAe j) = .ok n ∧ depth n = j + 1) ∧ (100 < j + 1 → parse (repB sA j ++ sAm ++ repB sAe j) = .error (300, 9)) := by
  have ht : toks (repB sA j ++ sAm ++ repB sAe j) = (sts 0 j ++ ⟨1, [97], [], true, [], (3 * j : Nat)⟩ :: ets (3 * j + 4) j, (repB sA j ++ sAm ++ repB sAe j).length, 0) := by
    have hck : (check (repB sA j ++ sAm ++ repB sAe j)).2 = 0 := check_cat (check_cat (repB_check (by decide) _) (by decide)) (repB_check (by decide) _)
    have hb : hasAt (repB sA j ++ sAm ++ repB sAe j) 0 sBom = false := by
      cases j with
      | zero => rfl
      | succ j => exact hasAt_bomA (r := [97, 62] ++ repB sA j ++ sAm ++ repB sAe (j + 1)) (by simp [repB, sA])
    obtain ⟨G, h1, h2, h3⟩ := tokF_sts (l := repB sA j ++ sAm ++ repB sAe j) j 0 ((repB sA j ++ sAm ++ repB sAe j).length + 1) [] (sAm ++ repB sAe j) (by simp) (by omega) (Nat.zero_le _)
    rw [Nat.zero_add] at h1 h2 h3
    have hlen : (repB sA j ++ sAm ++ repB sAe j).length = 3 * j + 4 + 4 * j := by rw [List.length_append, List.length_append, repB_len, repB_len]; simp [sA, sAm, sAe]; omega
    have hc := consAt_start (a := 3 * j) (em := true) (nm := [97]) (ats := []) (r := repB sAe j) qa rfl h3
    have d2 := drop_add h3
    obtain ⟨g, rfl⟩ : ∃ g, G = g + 1 := ⟨G - 1, by omega⟩
    have h4 := tokF_ets j (3 * j + 4) g ([] ++ sts 0 j ++ [⟨1, [97], [], true, [], (3 * j : Nat)⟩]) d2 (by omega) (by omega)
    unfold toks tokS
    rw [if_neg (by rw [hck]; decide), hb]
    simp only [Bool.false_eq_true, if_false]
    rw [h1, tok_step (by omega) hc, if_pos (by rfl), show 3 * j + 1 + [(97 : UInt8)].length + (attsC []).length + (tagEnd true).length = 3 * j + 4 by simp [attsC, tagEnd], show attsAt (3 * j + 1 + [(97 : UInt8)].length) [] = [] from rfl, h4]
    simp
  have hkinds := fun t ht => (toks_good (repB sA j ++ sAm ++ repB sAe j) t ht).kind
  have hm := mach_par (ts := (toks (repB sA j ++ sAm ++ repB sAe j)).1) (en := (repB sA j ++ sAm ++ repB sAe j).length) hkinds _ 0 none rfl (Nat.zero_le _)
  have hp : parse (repB sA j ++ sAm ++ repB sAe j) = machL (repB sA j ++ sAm ++ repB sAe j).length (sts 0 j ++ ⟨1, [97], [], true, [], (3 * j : Nat)⟩ :: ets (3 * j + 4) j) [] none := by
    unfold parse
    rw [if_neg (by rw [ht]; simp), ← hm, List.drop_zero, ht]
  constructor
  · intro h
    rw [hp, machL_sts j 0 [] _ (by simp only [List.length_nil]; omega)]
    have hfr := frs_facts j 0 [] (fun f hf => by cases hf)
    generalize frs 0 j [] = st at *
    rw [machL_cons, if_pos rfl, if_neg (by simp), if_neg (by have := hfr.1; simp at this; omega), if_pos rfl]
    cases st with
    | nil =>
      have hj : j = 0 := by simpa using hfr.1.symm
      subst hj
      exact ⟨_, by simp only; rw [ets, machL_nil], by rw [depth, if_neg (by decide), depthL]⟩
    | cons f st =>
      obtain ⟨i, rfl⟩ : ∃ i, j = i + 1 := ⟨st.length, by simpa using hfr.1.symm⟩
      have hk := hfr.2 f (by simp)
      obtain ⟨n, h1, h2⟩ := machL_ets (en := (repB sA (i + 1) ++ sAm ++ repB sAe (i + 1)).length) i (3 * (i + 1) + 4) ⟨f.name, f.attrs, f.pos, f.kids ++ [.mk 0 [] [97] [] [] [] (3 * (i + 1) : Nat)]⟩ st (by simpa using hfr.1) hk.1 (fun x hx => hfr.2 x (by simp [hx]))
      refine ⟨n, h1, ?_⟩
      rw [h2]
      simp only [hk.2, List.nil_append]
      rw [depthL, depthL, depth, if_neg (by decide), depthL]
      omega
  · intro h
    by_cases h2 : 100 < j
    · rw [hp, machL_over j 0 [] _ (by simp) (by simp only [List.length_nil]; omega)]
      rfl
    · have : j = 100 := by omega
      subst this
      have hfr := frs_facts 100 0 [] (fun f hf => by cases hf)
      rw [hp, machL_sts 100 0 [] _ (by simp), machL_cons, if_pos rfl, if_neg (by simp), if_pos (by simpa using hfr.1)]
      rfl
end Go.Proofs.YtclhdppppgjgfaaGreatDoor
