/-
  Plain laws of chapter 11: texts of digits, and nested brackets. No program.
-/
import Derived.Test.YthlppbpccldikaaDoorH15
set_option linter.unusedVariables false
namespace Go.Proofs.YthlppbpccldikaaDoor

/-! Digits. -/
theorem dg_facts {c : UInt8} (h : isDg c = true ∨ c = 45) : isSp c = false ∧ c ≠ 239 ∧ c ≠ 110 ∧ c ≠ 116 ∧ c ≠ 102 ∧ c ≠ 34 ∧ c ≠ 91 ∧ c ≠ 123 ∧ (c = 45 ∨ isDg c = true) ∧ isNumB c = true := by
  revert h
  revert c
  have h : ∀ n < 256, isDg (UInt8.ofNat n) = true ∨ UInt8.ofNat n = 45 → isSp (UInt8.ofNat n) = false ∧ UInt8.ofNat n ≠ 239 ∧ UInt8.ofNat n ≠ 110 ∧ UInt8.ofNat n ≠ 116 ∧ UInt8.ofNat n ≠ 102 ∧ UInt8.ofNat n ≠ 34 ∧ UInt8.ofNat n ≠ 91 ∧ UInt8.ofNat n ≠ 123 ∧ (UInt8.ofNat n = 45 ∨ isDg (UInt8.ofNat n) = true) ∧ isNumB (UInt8.ofNat n) = true := by decide +kernel
  intro c hc
  have := h c.toNat c.toNat_lt
  rw [UInt8.ofNat_toNat] at this
  exact this hc
/-- A text of digits, perhaps behind a sign, is read as a number. -/
theorem parse_digits {l : Bytes} (h0 : l ≠ []) (hall : ∀ c ∈ l, isDg c = true ∨ c = 45) : parseJ l = match numJ l with
    | none => .error (0, 15)
    | some n => .ok (.mk 2 false n [] [] [] 0) := by
  obtain ⟨c, t, rfl⟩ : ∃ c t, l = c :: t := by
    cases l with
    | nil => exact absurd rfl h0
    | cons c t => exact ⟨c, t, rfl⟩
  obtain ⟨f1, f2, f3, f4, f5, f6, f7, f8, f9, f10⟩ := dg_facts (hall c (by simp))
  have hst : startJ (c :: t) = 0 := startJ_no (by simpa using f2)
  have hsp : spEnd (c :: t) 0 = 0 := spEnd_at (y := t) rfl f1
  have hgd : (c :: t).getD 0 0 = c := rfl
  have hrun : run isNumB (c :: t) = (c :: t).length := run_num _ (fun x hx => (dg_facts (hall x hx)).2.2.2.2.2.2.2.2.2)
  unfold parseJ
  rw [hst, pvV, hsp, hgd, if_neg (by simp), if_neg f3, if_neg f4, if_neg f5, if_neg f6, if_neg f7, if_neg f8, if_pos f9]
  unfold numAt numEnd
  rw [List.drop_zero, hrun, List.take_length]
  cases hn : numJ (c :: t) with
  | none => rfl
  | some n =>
    simp only
    rw [if_neg (by have := spEnd_ge (c :: t) (0 + (c :: t).length); omega)]
    rfl
theorem parse_nothing : parseJ [] = .error (0, 8) := by
  unfold parseJ
  rw [show startJ [] = 0 from rfl, pvV, if_pos (show ([] : Bytes).length ≤ spEnd [] 0 from Nat.zero_le _)]
  rfl

/-! Brackets. -/
/-- m arrays around an empty one. -/
def nestA : Nat → Bytes
  | 0 => [91, 93]
  | m + 1 => 91 :: (nestA m ++ [93])
/-- m objects around an empty one. -/
def nestO : Nat → Bytes
  | 0 => [123, 125]
  | m + 1 => 123 :: 34 :: 97 :: 34 :: 58 :: (nestO m ++ [125])
def valA : Nat → Nat → JV
  | 0, n => .mk 4 false 0 [] [] [] n
  | m + 1, n => .mk 4 false 0 [] [valA m (n + 1)] [] n
def valO : Nat → Nat → JV
  | 0, n => .mk 5 false 0 [] [] [] n
  | m + 1, n => .mk 5 false 0 [] [] [.mk [97] (valO m (n + 5)) ((n + 1 : Nat) : Int)] n
theorem nestA_len (m : Nat) : (nestA m).length = 2 * m + 2 := by
  induction m with
  | zero => rfl
  | succ m ih => rw [nestA]; simp only [List.length_cons, List.length_append, List.length_nil, ih]; omega
theorem nestO_len (m : Nat) : (nestO m).length = 6 * m + 2 := by
  induction m with
  | zero => rfl
  | succ m ih => rw [nestO]; simp only [List.length_cons, List.length_append, List.length_nil, ih]; omega
theorem rep_snoc (x : Bytes) (m : Nat) : (List.replicate (m + 1) x).flatten = (List.replicate m x).flatten ++ x := by
  rw [List.replicate_succ', List.flatten_append]; simp
theorem rep_cons (x : Bytes) (m : Nat) : (List.replicate (m + 1) x).flatten = x ++ (List.replicate m x).flatten := by
  rw [List.replicate_succ, List.flatten_cons]
theorem nestA_rep (m : Nat) : (List.replicate m [91]).flatten ++ [91] ++ [93] ++ (List.replicate m [93]).flatten = nestA m := by
  induction m with
  | zero => rfl
  | succ m ih =>
    rw [rep_cons, rep_snoc, nestA, ← ih]
    simp
theorem nestO_rep (m : Nat) : (List.replicate m [123, 34, 97, 34, 58]).flatten ++ [123] ++ [125] ++ (List.replicate m [125]).flatten = nestO m := by
  induction m with
  | zero => rfl
  | succ m ih =>
    rw [rep_cons, rep_snoc, nestO, ← ih]
    simp
theorem nestA_head (m : Nat) : ∃ t, nestA m = 91 :: t := by cases m <;> exact ⟨_, rfl⟩
theorem nestO_head (m : Nat) : ∃ t, nestO m = 123 :: t := by cases m <;> exact ⟨_, rfl⟩
theorem valA_dep (m n : Nat) : jdep (valA m n) = m + 1 := by
  induction m generalizing n with
  | zero => rfl
  | succ m ih =>
    rw [valA, jdep]
    simp only [jdepL, jdepM, ih, if_true]
    simp
theorem valO_dep (m n : Nat) : jdep (valO m n) = m + 1 := by
  induction m generalizing n with
  | zero => rfl
  | succ m ih =>
    rw [valO, jdep]
    simp only [jdepL, jdepM, ih, if_true]
    simp
theorem pvV_nestA {l : Bytes} : ∀ (m f d n : Nat) (r : Bytes), l.drop n = nestA m ++ r → d ≤ 101 → 2 * m + 1 ≤ f →
    pvV l f d n = if d + m ≤ 100 then .ok (valA m n, n + (nestA m).length) else .error (n + (101 - d), 9)
  | m, 0, d, n, r, _, _, hf => by omega
  | m, f + 1, d, n, r, hd, hd101, hf => by
    obtain ⟨t, ht⟩ := nestA_head m
    have hd1 : l.drop n = 91 :: (t ++ r) := by rw [hd, ht]; rfl
    have hsp := spEnd_at hd1 (by decide)
    have hlen := drop_len hd1 (by simp)
    simp only [List.length_cons] at hlen
    rw [pvV, hsp, getD_drop hd1, if_neg (by omega), if_neg (by decide), if_neg (by decide), if_neg (by decide), if_neg (by decide), if_pos rfl]
    by_cases h100 : 100 < d
    · rw [if_pos h100, if_neg (by omega), show n + (101 - d) = n by omega]
    rw [if_neg h100]
    have hd2 := drop_one hd1
    cases m with
    | zero =>
      cases ht
      have hd3 : l.drop (n + 1) = 93 :: r := hd2
      rw [spEnd_at hd3 (by decide), if_pos (by rw [hasAt_drop hd3]; rfl), if_pos (by omega)]
      rfl
    | succ m =>
      rw [nestA] at ht
      cases ht
      have hd3 : l.drop (n + 1) = nestA m ++ (93 :: r) := by rw [hd2]; simp
      obtain ⟨t2, ht2⟩ := nestA_head m
      have hd4 : l.drop (n + 1) = 91 :: (t2 ++ (93 :: r)) := by rw [hd3, ht2]; rfl
      rw [spEnd_at hd4 (by decide), if_neg (by rw [hasAt_drop hd4]; simp)]
      cases f with
      | zero => omega
      | succ f =>
        rw [pvI, pvV_nestA m f (d + 1) (n + 1) _ hd3 (by omega) (by omega)]
        by_cases hm : d + 1 + m ≤ 100
        · rw [if_pos hm, if_pos (by omega)]
          have hd5 := drop_add hd3
          simp only
          rw [spEnd_at hd5 (by decide), if_pos (by rw [hasAt_drop hd5]; rfl)]
          simp only [List.nil_append]
          rw [valA, nestA]
          simp only [List.length_cons, List.length_append, List.length_nil]
          congr 2
          omega
        · rw [if_neg hm, if_neg (by omega), show n + 1 + (101 - (d + 1)) = n + (101 - d) by omega]
theorem pvV_nestO {l : Bytes} : ∀ (m f d n : Nat) (r : Bytes), l.drop n = nestO m ++ r → d ≤ 101 → 2 * m + 1 ≤ f →
    pvV l f d n = if d + m ≤ 100 then .ok (valO m n, n + (nestO m).length) else .error (n + 5 * (101 - d), 9)
  | m, 0, d, n, r, _, _, hf => by omega
  | m, f + 1, d, n, r, hd, hd101, hf => by
    obtain ⟨t, ht⟩ := nestO_head m
    have hd1 : l.drop n = 123 :: (t ++ r) := by rw [hd, ht]; rfl
    have hsp := spEnd_at hd1 (by decide)
    have hlen := drop_len hd1 (by simp)
    simp only [List.length_cons] at hlen
    rw [pvV, hsp, getD_drop hd1, if_neg (by omega), if_neg (by decide), if_neg (by decide), if_neg (by decide), if_neg (by decide), if_neg (by decide), if_pos rfl]
    by_cases h100 : 100 < d
    · rw [if_pos h100, if_neg (by omega), show n + 5 * (101 - d) = n by omega]
    rw [if_neg h100]
    have hd2 := drop_one hd1
    cases m with
    | zero =>
      cases ht
      have hd3 : l.drop (n + 1) = 125 :: r := hd2
      rw [spEnd_at hd3 (by decide), if_pos (by rw [hasAt_drop hd3]; rfl), if_pos (by omega)]
      rfl
    | succ m =>
      rw [nestO] at ht
      cases ht
      have hd3 : l.drop (n + 1) = jq [97] ++ (58 :: (nestO m ++ (125 :: r))) := by rw [hd2, show jq [97] = [34, 97, 34] by decide]; simp
      have hd4 : l.drop (n + 1) = 34 :: 97 :: 34 :: (58 :: (nestO m ++ (125 :: r))) := by rw [hd2]; simp
      have hlen4 := drop_len hd4 (by simp)
      simp only [List.length_cons] at hlen4
      rw [spEnd_at hd4 (by decide), if_neg (by rw [hasAt_drop hd4]; simp)]
      cases f with
      | zero => omega
      | succ f =>
        have hjl : (jq [97]).length = 3 := by decide
        have hd5 : l.drop (n + 1 + 3) = 58 :: (nestO m ++ (125 :: r)) := by have := drop_add hd3; rwa [hjl] at this
        have hd6 : l.drop (n + 5) = nestO m ++ (125 :: r) := drop_one hd5
        have hkey : keyAt l (n + 1) [] = .ok ([97], n + 5) := by
          unfold keyAt
          rw [getD_drop hd4, if_neg (fun h3 => h3.elim (fun h4 => by omega) (fun h4 => h4 rfl)), jstrAt_jq (by decide) hd3, hjl]
          simp only
          rw [if_neg (show ¬ (([] : List JM).any fun m => m.key == [97]) = true by simp), spEnd_at hd5 (by decide), if_pos (by rw [hasAt_drop hd5]; rfl)]
        rw [pvM, spEnd_at hd4 (by decide), hkey]
        simp only
        rw [pvV_nestO m f (d + 1) (n + 5) _ hd6 (by omega) (by omega)]
        by_cases hm : d + 1 + m ≤ 100
        · rw [if_pos hm, if_pos (by omega)]
          have hd7 := drop_add hd6
          simp only
          rw [spEnd_at hd7 (by decide), if_pos (by rw [hasAt_drop hd7]; rfl)]
          simp only [List.nil_append]
          rw [valO, nestO]
          simp only [List.length_cons, List.length_append, List.length_nil]
          congr 2
          omega
        · rw [if_neg hm, if_neg (by omega), show n + 5 + 5 * (101 - (d + 1)) = n + 5 * (101 - d) by omega]
theorem parse_nestA {m : Nat} : parseJ (nestA m) = if m < 100 then .ok (valA m 0) else .error (100, 9) := by
  obtain ⟨t, ht⟩ := nestA_head m
  have hst : startJ (nestA m) = 0 := startJ_no (by rw [ht]; simp)
  unfold parseJ
  have hl := nestA_len m
  rw [hst, pvV_nestA (l := nestA m) m _ 1 0 [] (by simp) (by omega) (by omega)]
  by_cases hm : m < 100
  · rw [if_pos (by omega), if_pos hm]
    simp only
    rw [if_neg (by have := spEnd_ge (nestA m) (0 + (nestA m).length); omega)]
  · rw [if_neg (by omega), if_neg hm]
theorem parse_nestO {m : Nat} : parseJ (nestO m) = if m < 100 then .ok (valO m 0) else .error (500, 9) := by
  obtain ⟨t, ht⟩ := nestO_head m
  have hst : startJ (nestO m) = 0 := startJ_no (by rw [ht]; simp)
  unfold parseJ
  have hl := nestO_len m
  rw [hst, pvV_nestO (l := nestO m) m _ 1 0 [] (by simp) (by omega) (by omega)]
  by_cases hm : m < 100
  · rw [if_pos (by omega), if_pos hm]
    simp only
    rw [if_neg (by have := spEnd_ge (nestO m) (0 + (nestO m).length); omega)]
  · rw [if_neg (by omega), if_neg hm]
end Go.Proofs.YthlppbpccldikaaDoor
