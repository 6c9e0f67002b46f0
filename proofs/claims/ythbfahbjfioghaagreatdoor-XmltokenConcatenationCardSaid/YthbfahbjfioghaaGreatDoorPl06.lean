/-
  Plain laws of chapter 6: the library's search and replacement in terms of the scans. No program.
-/
import Derived.Test.YthbfahbjfioghaaGreatDoorTok2
import Derived.Lib.ReplaceLaws
set_option linter.unusedVariables false
namespace Go.Proofs.YthbfahbjfioghaaGreatDoor

theorem index_find (t : Bytes) : ∀ l : Bytes, Lib.index l t = optI (findS t l)
  | [] => by
    rw [Lib.index, findS]
    cases t <;> rfl
  | b :: l => by
    rw [Lib.index, findS]
    by_cases h : t.isPrefixOf (b :: l) = true
    · rw [if_pos h, if_pos h]; rfl
    · rw [if_neg h, if_neg h, index_find t l]
      cases hf : findS t l with
      | none => rfl
      | some j =>
        have : ((j : Int) == -1) = false := by rw [beq_eq_false_iff_ne]; omega
        simp [optI, this]
theorem cut_find (t l : Bytes) : Lib.cut l t = match findS t l with | none => (l, [], false) | some j => (l.take j, l.drop (j + t.length), true) := by
  unfold Lib.cut
  rw [index_find]
  cases hf : findS t l with
  | none => rfl
  | some j =>
    have e : optI (some j) = (j : Int) := rfl
    rw [e, if_pos (by omega)]
    simp
theorem repl_none {old new s : Bytes} (h : findS old s = none) : Lib.replaceAll s old new = s := by
  unfold Lib.replaceAll Lib.replace
  split
  · rfl
  · have hi : Lib.index s old = -1 := by rw [index_find, h]; rfl
    unfold Lib.replaceNum
    rw [if_pos (by omega), Lib.count_miss hi]
    rfl
theorem repl_some {old new s : Bytes} {j : Nat} (ho : old ≠ []) (hn : (old == new) = false) (h : findS old s = some j) : Lib.replaceAll s old new = s.take j ++ new ++ Lib.replaceAll (s.drop (j + old.length)) old new := by
  have hi : Lib.index s old = (j : Int) := by rw [index_find, h]; rfl
  have hneg : ∀ x : Bytes, Lib.replaceNum x old (-1) = Lib.count x old := fun x => by unfold Lib.replaceNum; rw [if_pos (by omega)]
  unfold Lib.replaceAll Lib.replace
  rw [hn]
  simp only [Bool.false_eq_true, if_false]
  rw [hneg, hneg, Lib.count_hit ho hi, Nat.add_comm, Lib.replaceK_hit _ _ _ _ _ hi]
theorem repl_miss {old new : Bytes} {c : UInt8} {x : Bytes} (ho : old ≠ []) (hn : (old == new) = false) (h : old.isPrefixOf (c :: x) = false) : Lib.replaceAll (c :: x) old new = c :: Lib.replaceAll x old new := by
  have hf : findS old (c :: x) = (findS old x).map (· + 1) := by rw [findS, if_neg (by rw [h]; decide)]
  cases hx : findS old x with
  | none =>
    rw [hx] at hf
    rw [repl_none hf, repl_none hx]
  | some j =>
    rw [hx] at hf
    rw [repl_some ho hn hf, repl_some ho hn hx]
    simp only [List.take_succ_cons, List.cons_append]
    congr 2
    rw [show j + 1 + old.length = (j + old.length) + 1 by omega, List.drop_succ_cons]
theorem repl_hit {old new : Bytes} {s : Bytes} (ho : old ≠ []) (hn : (old == new) = false) (h : old.isPrefixOf s = true) : Lib.replaceAll s old new = new ++ Lib.replaceAll (s.drop old.length) old new := by
  rw [repl_some ho hn (findS_hit h)]
  simp
theorem repl_nil {old new : Bytes} (ho : old ≠ []) : Lib.replaceAll [] old new = [] := repl_none (by rw [findS, if_neg ho])
/-- The first replacement: '\r\n' by '\n'. -/
def crlf (x : Bytes) : Bytes := Lib.replaceAll x [13, 10] [10]
def crs (x : Bytes) : Bytes := Lib.replaceAll x [13] [10]
theorem crs_cons (c : UInt8) (x : Bytes) : crs (c :: x) = (if c.toNat = 13 then 10 else c) :: crs x := by
  unfold crs
  by_cases h : c.toNat = 13
  · have e : c = 13 := UInt8.toNat_inj.1 h
    subst e
    rw [if_pos h, repl_hit (by decide) (by decide) (by simp [List.isPrefixOf])]
    rfl
  · rw [if_neg h, repl_miss (by decide) (by decide)]
    have : (13 == c) = false := by rw [beq_eq_false_iff_ne]; rintro rfl; exact h rfl
    simp [List.isPrefixOf, this]
theorem crlf_hit (x : Bytes) : crlf (13 :: 10 :: x) = 10 :: crlf x := by
  unfold crlf
  rw [repl_hit (by decide) (by decide) (by simp [List.isPrefixOf])]
  rfl
theorem crlf_miss {c : UInt8} {x : Bytes} (h : ¬ (c.toNat = 13 ∧ x.head? = some 10)) : crlf (c :: x) = c :: crlf x := by
  unfold crlf
  refine repl_miss (by decide) (by decide) ?_
  cases hp : List.isPrefixOf [13, 10] (c :: x) with
  | false => rfl
  | true =>
    exfalso
    refine h ?_
    cases x with
    | nil => simp [List.isPrefixOf] at hp
    | cons d x =>
      simp only [List.isPrefixOf, Bool.and_true, Bool.and_eq_true, beq_iff_eq] at hp
      exact ⟨by rw [← hp.1]; rfl, by rw [← hp.2]; rfl⟩
theorem lines_repl : ∀ (n : Nat) (x : Bytes), x.length ≤ n → crs (crlf x) = linesB x
  | _, [], _ => by
    rw [linesB]; unfold crlf crs
    rw [repl_nil (by decide), repl_nil (by decide)]
  | 0, c :: x, h => by simp at h
  | n + 1, c :: x, h => by
    have hx : x.length ≤ n := by simpa using h
    rw [linesB]
    by_cases hc : c.toNat = 13 ∧ x.head? = some 10
    · rw [if_pos hc]
      obtain ⟨h1, h2⟩ := hc
      cases x with
      | nil => cases h2
      | cons d y =>
        simp only [List.head?_cons, Option.some.injEq] at h2
        subst h2
        have e : c = 13 := UInt8.toNat_inj.1 h1
        subst e
        have hy : y.length ≤ n := by simp at hx; omega
        rw [crlf_hit, crs_cons, if_neg (by decide), lines_repl n y hy, linesB, if_neg (by simp), if_neg (by decide)]
    · rw [if_neg hc, crlf_miss hc, crs_cons, lines_repl n x hx]
theorem crlf_len : ∀ (n : Nat) (x : Bytes), x.length ≤ n → (crlf x).length ≤ x.length
  | _, [], _ => by unfold crlf; rw [repl_nil (by decide)]; exact Nat.le_refl _
  | 0, c :: x, h => by simp at h
  | n + 1, c :: x, h => by
    have hx : x.length ≤ n := by simpa using h
    by_cases hc : c.toNat = 13 ∧ x.head? = some 10
    · obtain ⟨h1, h2⟩ := hc
      cases x with
      | nil => cases h2
      | cons d y =>
        simp only [List.head?_cons, Option.some.injEq] at h2
        subst h2
        have e : c = 13 := UInt8.toNat_inj.1 h1
        subst e
        have hy : y.length ≤ n := by simp at hx; omega
        have := crlf_len n y hy
        rw [crlf_hit]
        simp only [List.length_cons]; omega
    · have := crlf_len n x hx
      rw [crlf_miss hc]
      simp only [List.length_cons]; omega
theorem lines_no13 : ∀ x : Bytes, ∀ b ∈ linesB x, b.toNat ≠ 13
  | [], b, h => by rw [linesB] at h; cases h
  | c :: x, b, h => by
    rw [linesB] at h
    split at h
    · exact lines_no13 x b h
    · rcases List.mem_cons.1 h with rfl | h
      · split
        · decide
        · assumption
      · exact lines_no13 x b h
/-- What the library's Replacer of a value's white space does. -/
def tabNl (x : Bytes) : Bytes := x.map fun c => if c.toNat = 10 ∨ c.toNat = 9 then 32 else c
theorem tabNl_blanks (x : Bytes) : tabNl (linesB x) = blanks true (linesB x) := by
  unfold tabNl blanks
  refine List.map_congr_left fun c hc => ?_
  have h := lines_no13 x c hc
  simp only [isSp, true_and, decide_eq_true_eq]
  by_cases h1 : c.toNat = 10 ∨ c.toNat = 9
  · rw [if_pos h1, if_pos (by omega)]
  · rw [if_neg h1]
    by_cases h2 : c.toNat = 32
    · rw [if_pos (by omega)]
      exact UInt8.toNat_inj.1 (by rw [h2]; rfl)
    · rw [if_neg (by omega)]
end Go.Proofs.YthbfahbjfioghaaGreatDoor
