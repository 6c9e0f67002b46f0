/-
  Several texts in one file, in build order:
  - Plain laws of chapter 6: steps of the scans. No program.
  - Plain laws of chapter 6: the library's search and replacement in terms of the scans. No program.
  - Walks of chapter 6: the program's small functions over a position.
  - The variable that the search reads holds some int in every world of the shape that a row starts in.
  - Plain functions of chapter 7 (xmltree) and of its statements: sizes, depths, equality of trees. No program.
  - Loading an attribute or a node out of a slice; what a node's box holds.
  - Trees in memory, told with the blocks that they lie in: 'NodeP w p n cs': the cells cs are those of node n, and all that they lead to lies in blocks that satisfy p.
  - Slices of attributes and of nodes that a call builds itself: appending, and what they read as.
  - Walk of chapter 6: the program's fail.
-/
import Derived.Test.YtclhdppppgjgfaaGreatDoorH3
import Derived.Lib.ReplaceLaws
import Derived.Test.YtclhdppppgjgfaaGreatDoorH0
import Derived.Test.YtclhdppppgjgfaaGreatDoorH1
import Derived.StillTailTactics
import Derived.Deep.AppendLies
import Derived.Laws.OwnMore
import Derived.Laws.CopyRow
set_option linter.unusedVariables false
namespace Go.Proofs.YtclhdppppgjgfaaGreatDoor

theorem has_one {l : Bytes} {n : Nat} {c : UInt8} : hasAt l n [c] = true ↔ ∃ h : n < l.length, l[n] = c := by
  rw [hasAt_take, beq_iff_eq]
  constructor
  · intro h
    have hl : n < l.length := by
      have := congrArg List.length h
      simp at this; omega
    refine ⟨hl, ?_⟩
    rw [List.drop_eq_getElem_cons hl, List.length_singleton, List.take_succ_cons, List.take_zero] at h
    exact (List.cons.inj h).1
  · rintro ⟨h, e⟩
    rw [List.drop_eq_getElem_cons h]; simp [e]
def optI : Option Nat → Int
  | none => -1
  | some j => (j : Int)
theorem find_step {l t : Bytes} {i : Nat} (hi : i < l.length) (h : hasAt l i t = false) : (findS t (l.drop i)).map (· + i) = (findS t (l.drop (i + 1))).map (· + (i + 1)) := by
  rw [findS_next hi h, Option.map_map]
  congr 1
  funext x
  show x + 1 + i = x + (i + 1)
  omega
theorem find_here {l t : Bytes} {i : Nat} (h : hasAt l i t = true) : (findS t (l.drop i)).map (· + i) = some i := by
  rw [findS_hit h]; simp
theorem find_end {l t : Bytes} {i : Nat} (h : l.length < i + t.length) (ht : t ≠ []) : (findS t (l.drop i)).map (· + i) = none := by
  have := List.length_pos_iff.2 ht
  rw [findS_short (by rw [List.length_drop]; omega)]; rfl
theorem spEnd_yes {l : Bytes} {n : Nat} (hn : n < l.length) (h : isSp l[n] = true) : spEnd l n = spEnd l (n + 1) := by
  unfold spEnd; rw [run_yes hn h]; omega
theorem spEnd_no {l : Bytes} {n : Nat} (hn : n < l.length) (h : isSp l[n] = false) : spEnd l n = n := by
  unfold spEnd; rw [run_no hn h]; omega
theorem spEnd_end (l : Bytes) : spEnd l l.length = l.length := by unfold spEnd; rw [run_end]; omega
theorem valEnd_yes {l : Bytes} {n : Nat} {q : UInt8} (hn : n < l.length) (h : l[n] ≠ q) (h2 : l[n] ≠ 60) : valEnd l q n = valEnd l q (n + 1) := by
  unfold valEnd; rw [run_yes hn (by simp [h, h2])]; omega
theorem valEnd_no {l : Bytes} {n : Nat} {q : UInt8} (hn : n < l.length) (h : l[n] = q ∨ l[n] = 60) : valEnd l q n = n := by
  unfold valEnd; rw [run_no hn (by rcases h with h | h <;> simp [h])]; omega
theorem valEnd_end (l : Bytes) (q : UInt8) : valEnd l q l.length = l.length := by unfold valEnd; rw [run_end]; omega
theorem lines_skip {l : Bytes} {i : Nat} (hi : i + 1 < l.length) (h : l[i].toNat = 13) (h2 : l[i + 1].toNat = 10) : linesB (l.drop i) = linesB (l.drop (i + 1)) := by
  rw [List.drop_eq_getElem_cons (show i < l.length by omega), linesB, if_pos]
  refine ⟨h, ?_⟩
  rw [List.drop_eq_getElem_cons hi]
  simp only [List.head?_cons, Option.some.injEq]
  exact UInt8.toNat_inj.1 h2
theorem lines_cr {l : Bytes} {i : Nat} (hi : i < l.length) (h : l[i].toNat = 13) (h2 : ∀ h : i + 1 < l.length, l[i + 1].toNat ≠ 10) : linesB (l.drop i) = 10 :: linesB (l.drop (i + 1)) := by
  rw [List.drop_eq_getElem_cons hi, linesB, if_neg, if_pos h]
  rintro ⟨_, h3⟩
  by_cases h4 : i + 1 < l.length
  · rw [List.drop_eq_getElem_cons h4] at h3
    simp only [List.head?_cons, Option.some.injEq] at h3
    exact h2 h4 (by rw [h3]; rfl)
  · rw [List.drop_eq_nil_of_le (by omega)] at h3; cases h3
theorem lines_byte {l : Bytes} {i : Nat} (hi : i < l.length) (h : l[i].toNat ≠ 13) : linesB (l.drop i) = l[i] :: linesB (l.drop (i + 1)) := by
  rw [List.drop_eq_getElem_cons hi, linesB, if_neg (fun h2 => h h2.1), if_neg h]
/-- The first m bytes are a name that may go on. -/
def NmAt (x : Bytes) (m : Nat) : Prop := ∀ y, nmS 0 true (x.take m ++ y) = m + nmS 0 (decide (m = 0)) y
theorem NmAt.zero (x : Bytes) : NmAt x 0 := fun y => by simp
theorem NmAt.all {x : Bytes} {m : Nat} (h : NmAt x m) : nameLen x = m + nmS 0 (decide (m = 0)) (x.drop m) := by
  have := h (x.drop m)
  rw [List.take_append_drop] at this
  exact this
theorem NmAt.next {x : Bytes} {m r k : Nat} (h : NmAt x m) (hd : dec (x.drop m) = (r, k)) (hk : k ≠ 0) (hm : m + k ≤ x.length) :
    isQName (x.take (m + k)) = qch (decide (m = 0)) r ∧ (qch (decide (m = 0)) r = true → NmAt x (m + k)) := by
  have hk' : (dec (x.drop m)).2 ≠ 0 := by rw [hd]; exact hk
  obtain ⟨h1, h2⟩ := dec_enc _ hk'
  rw [hd] at h1 h2
  simp only at h1 h2
  have h3 : x.take (m + k) = x.take m ++ enc r := by rw [h2, List.take_add]
  have hlen : (enc r).length = k := by rw [h2, List.length_take, List.length_drop]; omega
  have hy := fun y => enc_dec h1 y
  have hlt : (x.take (m + k)).length = m + k := by rw [List.length_take]; omega
  constructor
  · rw [isQName, hlt, h3]
    have h4 := h (enc r)
    have h5 := hy []
    rw [List.append_nil] at h5
    have hne : (x.take m ++ enc r != []) = true := by
      rw [bne_iff_ne]; intro e
      have := congrArg List.length e
      rw [List.length_append, hlen] at this
      simp at this; omega
    rw [hne, Bool.true_and]
    unfold nameLen
    rw [h4]
    cases hq : qch (decide (m = 0)) r
    · rw [nm_stop (.inr (by rw [h5]; exact hq))]
      rw [beq_eq_false_iff_ne]; omega
    · rw [nm_next (by rw [h5]; simp only; omega) (by rw [h5]; exact hq), h5]
      simp only [hlen]
      rw [List.drop_eq_nil_of_le (by omega), nm_nil]
      simp
  · intro hq y
    rw [h3, List.append_assoc, h, nm_next (by rw [hy]; simp only; omega) (by rw [hy]; exact hq), hy]
    simp only
    rw [List.drop_left, show decide (m + k = 0) = false by simp; omega, hlen]
    omega
theorem NmAt.stop {x : Bytes} {m r k : Nat} (h : NmAt x m) (hd : dec (x.drop m) = (r, k)) (hs : k = 0 ∨ qch (decide (m = 0)) r = false) : nameLen x = m := by
  rw [h.all, nm_stop (by rw [hd]; exact hs)]; rfl
theorem NmAt.end_ {x : Bytes} (h : NmAt x x.length) : nameLen x = x.length := by
  rw [h.all, List.drop_length, nm_nil]; rfl
theorem run_mem {p : UInt8 → Bool} : ∀ {x : Bytes}, ∀ c ∈ x.take (run p x), p c = true
  | [], c, h => by simp at h
  | a :: x, c, h => by
    rw [run] at h
    split at h
    · rename_i ha
      rw [List.take_succ_cons] at h
      rcases List.mem_cons.1 h with rfl | h
      · exact ha
      · exact run_mem c h
    · simp at h
theorem run_head {p : UInt8 → Bool} : ∀ {x : Bytes} {c : UInt8}, (x.drop (run p x)).head? = some c → p c = false
  | [], c, h => by simp at h
  | a :: x, c, h => by
    rw [run] at h
    split at h
    · rw [List.drop_succ_cons] at h
      exact run_head h
    · rename_i ha
      simp only [List.drop_zero, List.head?_cons, Option.some.injEq] at h
      subst h
      cases hp : p a with
      | true => exact absurd hp ha
      | false => rfl
/-- The place of the next '&'. -/
def ampEnd (x : Bytes) (n : Nat) : Nat := n + run (fun c => c != 38) (x.drop n)
theorem ampEnd_le {x : Bytes} {n : Nat} (h : n ≤ x.length) : ampEnd x n ≤ x.length := by
  have := run_le (fun c => c != 38) (x.drop n)
  rw [List.length_drop] at this
  unfold ampEnd; omega
theorem ampEnd_ge (x : Bytes) (n : Nat) : n ≤ ampEnd x n := by unfold ampEnd; omega
theorem ampEnd_yes {x : Bytes} {n : Nat} (hn : n < x.length) (h : x[n] ≠ 38) : ampEnd x n = ampEnd x (n + 1) := by
  unfold ampEnd; rw [run_yes hn (by simp [h])]; omega
theorem ampEnd_no {x : Bytes} {n : Nat} (hn : n < x.length) (h : x[n] = 38) : ampEnd x n = n := by
  unfold ampEnd; rw [run_no hn (by simp [h])]; omega
theorem ampEnd_end (x : Bytes) : ampEnd x x.length = x.length := by unfold ampEnd; rw [run_end]; omega
/-- What the run without '&' gives. -/
theorem cont_amp (v : Bool) (x : Bytes) (n : Nat) (h : n ≤ x.length) : contS v 0 (x.drop n) n = (contS v 0 (x.drop (ampEnd x n)) (ampEnd x n)).map (blanks v (linesB ((x.drop n).take (ampEnd x n - n))) ++ ·) := by
  have h1 : ampEnd x n - n = run (fun c => c != 38) (x.drop n) := by unfold ampEnd; omega
  have h2 := run_le (fun c => c != 38) (x.drop n)
  have h3 := cont_run v ((x.drop n).drop (run (fun c => c != 38) (x.drop n))) (by
    intro h4
    have := run_head h4
    simp at this) ((x.drop n).take (run (fun c => c != 38) (x.drop n))) n (fun b hb => by have := run_mem b hb; simpa using this)
  rw [List.take_append_drop] at h3
  rw [h3, h1, List.length_take, Nat.min_eq_left h2, List.drop_drop]
  rfl
theorem blanks_len (v : Bool) (x : Bytes) : (blanks v x).length = x.length := by unfold blanks; simp
theorem blanks_false (x : Bytes) : blanks false x = x := by unfold blanks; simp
/-- A value's bytes when j of them have been looked at. -/
def blTo (P : Bytes) (j : Nat) : Bytes := blanks true (P.take j) ++ P.drop j
theorem blTo_zero (P : Bytes) : blTo P 0 = P := by simp [blTo, blanks]
theorem blTo_all (P : Bytes) : blTo P P.length = blanks true P := by simp [blTo]
theorem blTo_len (P : Bytes) (j : Nat) : (blTo P j).length = P.length := by
  unfold blTo
  rw [List.length_append, blanks_len, List.length_take, List.length_drop]; omega
theorem blTo_get {P : Bytes} {j : Nat} (h : j < P.length) : (blTo P j)[j]'(by rw [blTo_len]; exact h) = P[j] := by
  unfold blTo
  rw [List.getElem_append_right (by rw [blanks_len, List.length_take]; omega)]
  simp only [blanks_len, List.length_take, List.getElem_drop]
  congr 1
  omega
theorem blTo_form {P : Bytes} {j : Nat} (h : j < P.length) : blTo P j = blanks true (P.take j) ++ P[j] :: P.drop (j + 1) := by
  unfold blTo; rw [List.drop_eq_getElem_cons h]
theorem blTo_next {P : Bytes} {j : Nat} (h : j < P.length) : blTo P (j + 1) = blanks true (P.take j) ++ (if isSp P[j] = true then 32 else P[j]) :: P.drop (j + 1) := by
  unfold blTo
  rw [List.take_succ_eq_append_getElem h]
  unfold blanks
  rw [List.map_append, List.append_assoc]
  congr 1
  simp only [List.map_cons, List.map_nil, true_and, List.singleton_append]
theorem blTo_yes {P : Bytes} {j : Nat} (h : j < P.length) (hs : isSp P[j] = true) : blTo P (j + 1) = (blTo P j).set j 32 := by
  rw [blTo_next h, blTo_form h, if_pos hs]
  have hl : (blanks true (P.take j)).length = j := by rw [blanks_len, List.length_take]; omega
  rw [List.set_append_right _ _ (by omega), hl, Nat.sub_self, List.set_cons_zero]
theorem blTo_no {P : Bytes} {j : Nat} (h : j < P.length) (hs : isSp P[j] = false) : blTo P (j + 1) = blTo P j := by
  rw [blTo_next h, blTo_form h, if_neg (by rw [hs]; decide)]
/-- What content returns. -/
def contR (b : Nat) : Except Nat Bytes → Bytes × Int × Int
  | .error n => ([], n, 12)
  | .ok o => (o, b, 0)
/-- How far content has come. -/
def ConAt (v : Bool) (x o : Bytes) (i : Nat) (R : Except Nat Bytes) : Prop := (contS v 0 (x.drop i) i).map (o ++ ·) = R
theorem ConAt.start {v : Bool} {x : Bytes} {i : Nat} {R : Except Nat Bytes} (h : contS v 0 (x.drop i) i = R) : ConAt v x [] i R := by
  unfold ConAt; rw [h]; cases R <;> rfl
theorem ConAt.bad {v : Bool} {x o : Bytes} {i : Nat} {R : Except Nat Bytes} (h : ConAt v x o i R) (hi : i < x.length) (hc : x[i] = 38) (ht : tailRef (x.drop (i + 1)) = none) : R = .error i := by
  unfold ConAt at h
  rw [cont_bad hi hc ht] at h
  exact h.symm
theorem ConAt.ref {v : Bool} {x o : Bytes} {i r m : Nat} {R : Except Nat Bytes} (h : ConAt v x o i R) (hi : i < x.length) (hc : x[i] = 38) (ht : tailRef (x.drop (i + 1)) = some (r, m)) : ConAt v x (o ++ enc r) (i + m + 2) R := by
  unfold ConAt at *
  rw [cont_ref hi hc ht, map_map_ex] at h
  exact h
theorem ConAt.run {v : Bool} {x o : Bytes} {i : Nat} {R : Except Nat Bytes} (h : ConAt v x o i R) (hi : i ≤ x.length) : ConAt v x (o ++ blanks v (linesB ((x.drop i).take (ampEnd x i - i)))) (ampEnd x i) R := by
  unfold ConAt at *
  rw [cont_amp v x i hi, map_map_ex] at h
  exact h
theorem ConAt.end_ {v : Bool} {x o : Bytes} {R : Except Nat Bytes} (h : ConAt v x o x.length R) : R = .ok o := by
  unfold ConAt at h
  rw [List.drop_length, contS] at h
  rw [← h]; simp [Except.map]
end Go.Proofs.YtclhdppppgjgfaaGreatDoor
set_option linter.unusedVariables false
namespace Go.Proofs.YtclhdppppgjgfaaGreatDoor

theorem index_find (t : Bytes) : ∀ l : Bytes, Lib.index l t = optI (findS t l)
  | [] => by
    rw [Lib.index, findS]
    cases t <;> rfl
  | b :: l => by
    rw [Lib.index, findS]
    by_cases h : t.isPrefixOf (b :: l) = true
    · rw [if_pos h, if_pos h]; rfl
    · rw [if_neg h, if_neg h, index_find t l]
      cases hf : findS t l with
      | none => rfl
      | some j =>
        have : ((j : Int) == -1) = false := by rw [beq_eq_false_iff_ne]; omega
        simp [optI, this]
theorem cut_find (t l : Bytes) : Lib.cut l t = match findS t l with | none => (l, [], false) | some j => (l.take j, l.drop (j + t.length), true) := by
  unfold Lib.cut
  rw [index_find]
  cases hf : findS t l with
  | none => rfl
  | some j =>
    have e : optI (some j) = (j : Int) := rfl
    rw [e, if_pos (by omega)]
    simp
theorem repl_none {old new s : Bytes} (h : findS old s = none) : Lib.replaceAll s old new = s := by
  unfold Lib.replaceAll Lib.replace
  split
  · rfl
  · have hi : Lib.index s old = -1 := by rw [index_find, h]; rfl
    unfold Lib.replaceNum
    rw [if_pos (by omega), Lib.count_miss hi]
    rfl
theorem repl_some {old new s : Bytes} {j : Nat} (ho : old ≠ []) (hn : (old == new) = false) (h : findS old s = some j) : Lib.replaceAll s old new = s.take j ++ new ++ Lib.replaceAll (s.drop (j + old.length)) old new := by
  have hi : Lib.index s old = (j : Int) := by rw [index_find, h]; rfl
  have hneg : ∀ x : Bytes, Lib.replaceNum x old (-1) = Lib.count x old := fun x => by unfold Lib.replaceNum; rw [if_pos (by omega)]
  unfold Lib.replaceAll Lib.replace
  rw [hn]
  simp only [Bool.false_eq_true, if_false]
  rw [hneg, hneg, Lib.count_hit ho hi, Nat.add_comm, Lib.replaceK_hit _ _ _ _ _ hi]
theorem repl_miss {old new : Bytes} {c : UInt8} {x : Bytes} (ho : old ≠ []) (hn : (old == new) = false) (h : old.isPrefixOf (c :: x) = false) : Lib.replaceAll (c :: x) old new = c :: Lib.replaceAll x old new := by
  have hf : findS old (c :: x) = (findS old x).map (· + 1) := by rw [findS, if_neg (by rw [h]; decide)]
  cases hx : findS old x with
  | none =>
    rw [hx] at hf
    rw [repl_none hf, repl_none hx]
  | some j =>
    rw [hx] at hf
    rw [repl_some ho hn hf, repl_some ho hn hx]
    simp only [List.take_succ_cons, List.cons_append]
    congr 2
    rw [show j + 1 + old.length = (j + old.length) + 1 by omega, List.drop_succ_cons]
theorem repl_hit {old new : Bytes} {s : Bytes} (ho : old ≠ []) (hn : (old == new) = false) (h : old.isPrefixOf s = true) : Lib.replaceAll s old new = new ++ Lib.replaceAll (s.drop old.length) old new := by
  rw [repl_some ho hn (findS_hit h)]
  simp
theorem repl_nil {old new : Bytes} (ho : old ≠ []) : Lib.replaceAll [] old new = [] := repl_none (by rw [findS, if_neg ho])
/-- The first replacement: '\r\n' by '\n'. -/
def crlf (x : Bytes) : Bytes := Lib.replaceAll x [13, 10] [10]
def crs (x : Bytes) : Bytes := Lib.replaceAll x [13] [10]
theorem crs_cons (c : UInt8) (x : Bytes) : crs (c :: x) = (if c.toNat = 13 then 10 else c) :: crs x := by
  unfold crs
  by_cases h : c.toNat = 13
  · have e : c = 13 := UInt8.toNat_inj.1 h
    subst e
    rw [if_pos h, repl_hit (by decide) (by decide) (by simp [List.isPrefixOf])]
    rfl
  · rw [if_neg h, repl_miss (by decide) (by decide)]
    have : (13 == c) = false := by rw [beq_eq_false_iff_ne]; rintro rfl; exact h rfl
    simp [List.isPrefixOf, this]
theorem crlf_hit (x : Bytes) : crlf (13 :: 10 :: x) = 10 :: crlf x := by
  unfold crlf
  rw [repl_hit (by decide) (by decide) (by simp [List.isPrefixOf])]
  rfl
theorem crlf_miss {c : UInt8} {x : Bytes} (h : ¬ (c.toNat = 13 ∧ x.head? = some 10)) : crlf (c :: x) = c :: crlf x := by
  unfold crlf
  refine repl_miss (by decide) (by decide) ?_
  cases hp : List.isPrefixOf [13, 10] (c :: x) with
  | false => rfl
  | true =>
    exfalso
    refine h ?_
    cases x with
    | nil => simp [List.isPrefixOf] at hp
    | cons d x =>
      simp only [List.isPrefixOf, Bool.and_true, Bool.and_eq_true, beq_iff_eq] at hp
      exact ⟨by rw [← hp.1]; rfl, by rw [← hp.2]; rfl⟩
theorem lines_repl : ∀ (n : Nat) (x : Bytes), x.length ≤ n → crs (crlf x) = linesB x
  | _, [], _ => by
    rw [linesB]; unfold crlf crs
    rw [repl_nil (by decide), repl_nil (by decide)]
  | 0, c :: x, h => by simp at h
  | n + 1, c :: x, h => by
    have hx : x.length ≤ n := by simpa using h
    rw [linesB]
    by_cases hc : c.toNat = 13 ∧ x.head? = some 10
    · rw [if_pos hc]
      obtain ⟨h1, h2⟩ := hc
      cases x with
      | nil => cases h2
      | cons d y =>
        simp only [List.head?_cons, Option.some.injEq] at h2
        subst h2
        have e : c = 13 := UInt8.toNat_inj.1 h1
        subst e
        have hy : y.length ≤ n := by simp at hx; omega
        rw [crlf_hit, crs_cons, if_neg (by decide), lines_repl n y hy, linesB, if_neg (by simp), if_neg (by decide)]
    · rw [if_neg hc, crlf_miss hc, crs_cons, lines_repl n x hx]
theorem crlf_len : ∀ (n : Nat) (x : Bytes), x.length ≤ n → (crlf x).length ≤ x.length
  | _, [], _ => by unfold crlf; rw [repl_nil (by decide)]; exact Nat.le_refl _
  | 0, c :: x, h => by simp at h
  | n + 1, c :: x, h => by
    have hx : x.length ≤ n := by simpa using h
    by_cases hc : c.toNat = 13 ∧ x.head? = some 10
    · obtain ⟨h1, h2⟩ := hc
      cases x with
      | nil => cases h2
      | cons d y =>
        simp only [List.head?_cons, Option.some.injEq] at h2
        subst h2
        have e : c = 13 := UInt8.toNat_inj.1 h1
        subst e
        have hy : y.length ≤ n := by simp at hx; omega
        have := crlf_len n y hy
        rw [crlf_hit]
        simp only [List.length_cons]; omega
    · have := crlf_len n x hx
      rw [crlf_miss hc]
      simp only [List.length_cons]; omega
theorem lines_no13 : ∀ x : Bytes, ∀ b ∈ linesB x, b.toNat ≠ 13
  | [], b, h => by rw [linesB] at h; cases h
  | c :: x, b, h => by
    rw [linesB] at h
    split at h
    · exact lines_no13 x b h
    · rcases List.mem_cons.1 h with rfl | h
      · split
        · decide
        · assumption
      · exact lines_no13 x b h
/-- What the library's Replacer of a value's white space does. -/
def tabNl (x : Bytes) : Bytes := x.map fun c => if c.toNat = 10 ∨ c.toNat = 9 then 32 else c
theorem tabNl_blanks (x : Bytes) : tabNl (linesB x) = blanks true (linesB x) := by
  unfold tabNl blanks
  refine List.map_congr_left fun c hc => ?_
  have h := lines_no13 x c hc
  simp only [isSp, true_and, decide_eq_true_eq]
  by_cases h1 : c.toNat = 10 ∨ c.toNat = 9
  · rw [if_pos h1, if_pos (by omega)]
  · rw [if_neg h1]
    by_cases h2 : c.toNat = 32
    · rw [if_pos (by omega)]
      exact UInt8.toNat_inj.1 (by rw [h2]; rfl)
    · rw [if_neg (by omega)]
end Go.Proofs.YtclhdppppgjgfaaGreatDoor
set_option linter.unusedVariables false
namespace Go.Proofs.YtclhdppppgjgfaaGreatDoor
open Go.RowKit

set_option maxHeartbeats 1000000 in
theorem curAccept_any (b : Nat) (l : Bytes) (n : Nat) (ea er : Int) (t : Bytes) (w : World) (hC : Cur w b l n ea er) (hn : n ≤ l.length) (hl : l.length ≤ 4611686018427387904) :
    Calls Tryz.prog 59 #[.pointer (some ⟨b, 0, none⟩), .string (S t)] w fun e w' =>
      e = .returned (.bool (Lib.hasPrefix (l.drop n) t)) ∧ Cur w' b l (if Lib.hasPrefix (l.drop n) t = true then n + t.length else n : Nat) ea er ∧ Upd b w w' := by
  have hp := fun w => Tryz.strings_HasPrefix (S (l.drop n)) (S t) w
  rw [S_data, S_data] at hp
  have ht : Lib.hasPrefix (l.drop n) t = true → n + t.length ≤ l.length := by
    intro h
    have := (List.isPrefixOf_iff_prefix.1 h).length_le
    rw [List.length_drop] at this
    omega
  generalize Lib.hasPrefix (l.drop n) t = ok at *
  have HP := Lib.hid hp
  have HC := Lib.hid hC
  have c0 := hC.c0
  have c1 := hC.c1
  have f1 := hC.free 1
  clear hp hC
  cases ok
  · clear ht
    go_enter Tryz.func59, Tryz.ntmps59
    go_wp2_with fail
    go_region_with (go_at_call 24; refine (HP.out _).mono ?_; rintro e w' ⟨rfl, rfl⟩)
    all_goals (go_wp2_with fail)
    all_goals go_ret
    all_goals exact ⟨rfl, HC.out.drew, (Upd.refl _ _).drew⟩
  · have h1 := ht rfl
    clear ht
    go_enter Tryz.func59, Tryz.ntmps59
    go_wp2_with fail
    go_region_with (go_at_call 24; refine (HP.out _).mono ?_; rintro e w' ⟨rfl, rfl⟩)
    all_goals (go_wp2_with fail)
    all_goals go_ret
    all_goals exact ⟨rfl, HC.out.drew.move _, ((Upd.refl _ _).drew).trans (Upd.set_ _ _ _ _)⟩

/-- The table's cell that the library's search reads. -/
def MaxLen (m : Int) (w : World) : Prop := w.cell? ⟨0, 0, none⟩ = some (.int .i64 m)
/-- What until returns: what stands ahead of t, and whether t stands there. -/
def untlS (t l : Bytes) : Bytes × Bool := match findS t l with | none => (l, false) | some j => (l.take j, true)
def untlN (t l : Bytes) : Nat := match findS t l with | none => 0 | some j => j + t.length
theorem drewN_upd (b : Nat) (w : World) (k : Nat) : Upd b w (w.drewN k) := by
  induction k with
  | zero => exact Upd.refl _ _
  | succ k ih => exact ih.drew
theorem Cur.drewN {w : World} {b : Nat} {l : Bytes} {n ea er : Int} (h : Cur w b l n ea er) (k : Nat) : Cur (w.drewN k) b l n ea er := by
  induction k with
  | zero => exact h
  | succ k ih => exact ih.drew
set_option maxHeartbeats 1000000 in
theorem curUntil_any (b : Nat) (l : Bytes) (n : Nat) (ea er : Int) (t : Bytes) (m : Int) (w : World) (hM : MaxLen m w) (hC : Cur w b l n ea er) (hn : n ≤ l.length) (hl : l.length < 4294967281) :
    Calls Tryz.prog 81 #[.pointer (some ⟨b, 0, none⟩), .string (S t)] w fun e w' =>
      e = .returned (.tuple #[.string (S (untlS t (l.drop n)).1), .bool (untlS t (l.drop n)).2]) ∧ Cur w' b l (n + untlN t (l.drop n) : Nat) ea er ∧ Upd b w w' := by
  have hp := fun w => Tryz.strings_Cut (S (l.drop n)) (S t) m w (by show (l.drop n).toArray.size < _; simp; omega)
  rw [S_data, S_data, cut_find] at hp
  have hj : ∀ j, findS t (l.drop n) = some j → n + j + t.length ≤ l.length := by
    intro j h
    have := findS_le h
    rw [List.length_drop] at this
    omega
  unfold untlS untlN
  generalize findS t (l.drop n) = o at *
  have HC := Lib.hid hC
  have c0 := hC.c0
  have c1 := hC.c1
  have f1 := hC.free 1
  clear hC
  cases o with
  | none =>
    clear hj
    have HP := Lib.hid (hp w.drew hM)
    clear hp hM
    go_enter Tryz.func81, Tryz.ntmps81
    go_wp2_with fail
    go_region_with (go_at_call 108; refine HP.out.mono ?_; rintro e w' ⟨rfl, kk, rfl⟩)
    all_goals (go_wp2_with fail)
    all_goals go_ret2
    all_goals exact ⟨rfl, HC.out.drewN _, drewN_upd _ _ _⟩
  | some j =>
    have h1 := hj j rfl
    have HP := Lib.hid (hp w.drew hM)
    clear hj hp hM
    go_enter Tryz.func81, Tryz.ntmps81
    go_wp2_with fail
    go_region_with (go_at_call 108; refine HP.out.mono ?_; rintro e w' ⟨rfl, kk, rfl⟩)
    all_goals (go_wp2_with fail)
    all_goals go_ret2
    all_goals
      refine ⟨rfl, ?_, (drewN_upd _ _ _).trans (Upd.set_ _ _ _ _)⟩
      rw [show ((n + (j + t.length) : Nat) : Int) = (n : Int) + (((min j (l.length - n) : Nat) : Int) + (t.length : Int)) by omega]
      exact (HC.out.drewN _).move _
end Go.Proofs.YtclhdppppgjgfaaGreatDoor
set_option linter.unusedVariables false
namespace Go.Proofs.YtclhdppppgjgfaaGreatDoor

theorem maxLen_of {W : World} (h : W.ShapedOpen Tryz.prog) : ∃ m, MaxLen m W :=
  Go.Proofs.cell_of_shapedOpen_int (zero := #[.int .i64 0]) (t := 3) h (of_decide_eq_true (by kernel_rfl)) (by kernel_rfl) rfl (by kernel_rfl) (by kernel_rfl) Tryz.underlying3
end Go.Proofs.YtclhdppppgjgfaaGreatDoor
set_option linter.unusedVariables false
namespace Go.Proofs.YtclhdppppgjgfaaGreatDoor

mutual
/-- A number that every kid has less of. -/
def nsz : Node → Nat
  | .mk _ _ _ _ ks _ _ => 1 + nszL ks
def nszL : List Node → Nat
  | [] => 0
  | k :: ks => nsz k + nszL ks
end
theorem nsz_kid : ∀ {ks : List Node} {k : Node}, k ∈ ks → nsz k ≤ nszL ks
  | x :: ks, k, h => by
    rw [nszL]
    rcases List.mem_cons.1 h with rfl | h
    · omega
    · have := nsz_kid h; omega
theorem nsz_lt (n : Node) {k : Node} (h : k ∈ n.kids) : nsz k < nsz n := by
  cases n with
  | mk a b c d ks e f =>
    rw [nsz]
    have := nsz_kid h
    simp only [Node.kids] at this
    omega
theorem nsz_get (n : Node) {i : Nat} (h : i < n.kids.length) : nsz n.kids[i] < nsz n := nsz_lt n (List.getElem_mem h)

/-- A length, at most 9000. -/
def cl9 (n : Nat) : Nat := min n 9000
theorem cl9_le (n : Nat) : cl9 n ≤ 9000 := Nat.min_le_right _ _
def attW (a : Att) : Nat := 1 + cl9 a.space.length + cl9 a.name.length + cl9 a.value.length
def attsW : List Att → Nat
  | [] => 0
  | a :: l => attW a + attsW l
theorem attsW_append (a b : List Att) : attsW (a ++ b) = attsW a + attsW b := by
  induction a with
  | nil => simp [attsW]
  | cons x a ih => simp only [List.cons_append, attsW, ih]; omega
theorem attsW_take {l : List Att} {i : Nat} (h : i < l.length) : attsW (l.take (i + 1)) = attsW (l.take i) + attW l[i] := by
  rw [List.take_succ_eq_append_getElem h, attsW_append]; simp [attsW]
theorem attW_le (a : Att) : attW a ≤ 27001 := by
  have := cl9_le a.space.length; have := cl9_le a.name.length; have := cl9_le a.value.length
  unfold attW; omega
theorem attsW_le (l : List Att) : attsW l ≤ l.length * 27001 := by
  induction l with
  | nil => simp [attsW]
  | cons x a ih => have := attW_le x; simp only [attsW, List.length_cons]; omega
mutual
/-- What weight returns. -/
def wgt : Node → Nat → Nat
  | .mk _ s n ats ks t _, tot => wgtL ks (tot + (1 + cl9 s.length + cl9 n.length + cl9 t.length) + attsW ats)
def wgtL : List Node → Nat → Nat
  | [], tot => tot
  | k :: ks, tot => if 9000 < tot then tot else wgtL ks (wgt k tot)
end
mutual
/-- No slice of the tree is longer than memory allows. -/
def Fit : Node → Prop
  | .mk _ s n ats ks t _ => ats.length ≤ 2600000000000 ∧ ks.length ≤ 2600000000000 ∧ FitL ks
def FitL : List Node → Prop
  | [] => True
  | k :: ks => Fit k ∧ FitL ks
end
theorem FitL.mem : ∀ {ks : List Node}, FitL ks → ∀ {k : Node}, k ∈ ks → Fit k
  | x :: ks, h, k, hk => by
    rw [FitL] at h
    rcases List.mem_cons.1 hk with rfl | hk
    · exact h.1
    · exact FitL.mem h.2 hk
theorem Fit.form {n : Node} (h : Fit n) : n.attrs.length ≤ 2600000000000 ∧ n.kids.length ≤ 2600000000000 ∧ ∀ k ∈ n.kids, Fit k := by
  cases n with
  | mk a b c d ks e f => rw [Fit] at h; exact ⟨h.1, h.2.1, fun k hk => FitL.mem h.2.2 hk⟩
theorem Fit.of_form {n : Node} (h1 : n.attrs.length ≤ 2600000000000) (h2 : n.kids.length ≤ 2600000000000) (h3 : ∀ k ∈ n.kids, Fit k) : Fit n := by
  cases n with
  | mk a b c d ks e f =>
    rw [Fit]
    refine ⟨h1, h2, ?_⟩
    simp only [Node.kids] at h3
    clear h1 h2
    induction ks with
    | nil => rw [FitL]; trivial
    | cons x ks ih => rw [FitL]; exact ⟨h3 x (by simp), ih fun k hk => h3 k (by simp [hk])⟩
def most : Nat := 70202600000036001
theorem wgt_eq (n : Node) (tot : Nat) : wgt n tot = wgtL n.kids (tot + (1 + cl9 n.space.length + cl9 n.name.length + cl9 n.text.length) + attsW n.attrs) := by
  cases n; rw [wgt]; rfl
theorem head_le (n : Node) (h : Fit n) (tot : Nat) (ht : tot ≤ 9000) : tot + (1 + cl9 n.space.length + cl9 n.name.length + cl9 n.text.length) + attsW n.attrs ≤ most := by
  have h1 := h.form.1
  have := cl9_le n.space.length; have := cl9_le n.name.length; have := cl9_le n.text.length; have := attsW_le n.attrs
  unfold most; omega
theorem wgtL_bound : ∀ ks : List Node, (∀ k ∈ ks, ∀ t, t ≤ 9000 → wgt k t ≤ most) → ∀ tot, tot ≤ most → wgtL ks tot ≤ most
  | [], _, tot, h => by rw [wgtL]; exact h
  | k :: ks, hk, tot, h => by
    rw [wgtL]
    split
    · exact h
    · exact wgtL_bound ks (fun x hx => hk x (by simp [hx])) _ (hk k (by simp) tot (by omega))
theorem wgt_bound (m : Nat) : ∀ n, nsz n ≤ m → Fit n → ∀ tot, tot ≤ 9000 → wgt n tot ≤ most := by
  induction m with
  | zero => intro n h; cases n; rw [nsz] at h; omega
  | succ m ih =>
    intro n h hf tot ht
    rw [wgt_eq]
    exact wgtL_bound _ (fun k hk t htt => ih k (by have := nsz_lt n hk; omega) (hf.form.2.2 k hk) t htt) _ (head_le n hf tot ht)
/-- After i kids without an early end. -/
theorem wgtL_step {ks : List Node} {i : Nat} {a : Nat} (hi : i < ks.length) (ha : ¬ 9000 < a) : wgtL (ks.drop i) a = wgtL (ks.drop (i + 1)) (wgt ks[i] a) := by
  rw [List.drop_eq_getElem_cons hi, wgtL, if_neg ha]
theorem wgtL_stop {ks : List Node} {i : Nat} {a : Nat} (hi : i < ks.length) (ha : 9000 < a) : wgtL (ks.drop i) a = a := by
  rw [List.drop_eq_getElem_cons hi, wgtL, if_pos ha]

/-! A tree that is not too large is small in every part. -/
def attF (a : Att) : Nat := 1 + a.space.length + a.name.length + a.value.length
def attsF : List Att → Nat
  | [] => 0
  | a :: l => attF a + attsF l
mutual
def full : Node → Nat
  | .mk _ s n ats ks t _ => 1 + s.length + n.length + t.length + attsF ats + fullL ks
def fullL : List Node → Nat
  | [] => 0
  | k :: ks => full k + fullL ks
end
theorem cl9_small {n : Nat} (h : cl9 n < 9000) : cl9 n = n := by unfold cl9 at h ⊢; omega
theorem attsF_small : ∀ l : List Att, attsW l < 9000 → attsF l = attsW l
  | [], _ => rfl
  | a :: l, h => by
    simp only [attsW, attsF] at h ⊢
    rw [attsF_small l (by omega)]
    unfold attW attF at *
    rw [cl9_small (by omega : cl9 a.space.length < 9000), cl9_small (by omega : cl9 a.name.length < 9000), cl9_small (by omega : cl9 a.value.length < 9000)]
mutual
theorem full_le : ∀ (n : Node) (tot : Nat), wgt n tot ≤ 5000 → tot + full n ≤ wgt n tot
  | .mk k s n ats ks t p, tot, h => by
    rw [wgt] at h ⊢
    rw [full]
    have h2 := fullL_le ks _ h
    have h3 := attsF_small ats (by omega)
    have e1 := cl9_small (n := s.length) (by omega)
    have e2 := cl9_small (n := n.length) (by omega)
    have e3 := cl9_small (n := t.length) (by omega)
    omega
theorem fullL_le : ∀ (ks : List Node) (tot : Nat), wgtL ks tot ≤ 5000 → tot + fullL ks ≤ wgtL ks tot
  | [], tot, h => by rw [wgtL, fullL]; omega
  | k :: ks, tot, h => by
    rw [wgtL] at h ⊢
    rw [fullL]
    split at h
    · omega
    · rename_i hn
      rw [if_neg hn]
      have h2 := fullL_le ks _ h
      have h3 := full_le k tot (by omega)
      omega
end
theorem small_of {n : Node} (h : wgt n 0 ≤ 5000) : full n ≤ 5000 := by have := full_le n 0 h; omega
theorem full_form (n : Node) : full n = 1 + n.space.length + n.name.length + n.text.length + attsF n.attrs + fullL n.kids := by cases n; rw [full]; rfl
theorem fullL_mem : ∀ {ks : List Node} {k : Node}, k ∈ ks → full k ≤ fullL ks
  | x :: ks, k, h => by
    rw [fullL]
    rcases List.mem_cons.1 h with rfl | h
    · omega
    · have := fullL_mem h; omega
theorem attsF_mem : ∀ {l : List Att} {a : Att}, a ∈ l → attF a ≤ attsF l
  | x :: l, a, h => by
    simp only [attsF]
    rcases List.mem_cons.1 h with rfl | h
    · omega
    · have := attsF_mem h; omega
theorem attsF_len : ∀ l : List Att, l.length ≤ attsF l
  | [] => by simp [attsF]
  | a :: l => by have := attsF_len l; simp only [attsF, attF, List.length_cons]; omega
theorem full_pos (n : Node) : 1 ≤ full n := by rw [full_form]; omega
theorem fullL_len : ∀ l : List Node, l.length ≤ fullL l
  | [] => by simp
  | k :: l => by have := fullL_len l; have := full_pos k; rw [fullL]; simp only [List.length_cons]; omega
/-- What is small is small in every part. -/
structure Parts (n : Node) (N : Nat) : Prop where
  space : n.space.length < N
  name : n.name.length < N
  text : n.text.length < N
  attrs : n.attrs.length < N
  kids : n.kids.length < N
  att : ∀ a ∈ n.attrs, a.space.length < N ∧ a.name.length < N ∧ a.value.length < N
  kid : ∀ k ∈ n.kids, full k < N
theorem parts (n : Node) {N : Nat} (h : full n ≤ N) : Parts n N := by
  rw [full_form] at h
  have h1 := attsF_len n.attrs
  have h2 := fullL_len n.kids
  refine ⟨by omega, by omega, by omega, by omega, by omega, fun a ha => ?_, fun k hk => ?_⟩
  · have := attsF_mem ha; unfold attF at this; omega
  · have := fullL_mem hk; omega
mutual
/-- The nesting of elements. -/
def depth : Node → Nat
  | .mk k _ _ _ ks _ _ => if k = 1 then 0 else depthL ks 0 + 1
def depthL : List Node → Nat → Nat
  | [], a => a
  | k :: ks, a => depthL ks (max a (depth k))
end
theorem depth_eq (n : Node) : depth n = if n.kind = 1 then 0 else depthL n.kids 0 + 1 := by cases n; rw [depth]; rfl
theorem depthL_step {ks : List Node} {i a : Nat} (hi : i < ks.length) : depthL (ks.drop i) a = depthL (ks.drop (i + 1)) (max a (depth ks[i])) := by
  rw [List.drop_eq_getElem_cons hi, depthL]
theorem depthL_le : ∀ (ks : List Node) (a N : Nat), a ≤ N → (∀ k ∈ ks, depth k ≤ N) → depthL ks a ≤ N
  | [], a, N, h, _ => by rw [depthL]; exact h
  | k :: ks, a, N, h, hk => by
    rw [depthL]
    exact depthL_le ks _ N (Nat.max_le.2 ⟨h, hk k (by simp)⟩) (fun x hx => hk x (by simp [hx]))
theorem depthL_ge : ∀ (ks : List Node) (a : Nat), a ≤ depthL ks a
  | [], a => by rw [depthL]; exact Nat.le_refl _
  | k :: ks, a => by rw [depthL]; exact Nat.le_trans (Nat.le_max_left _ _) (depthL_ge ks _)
theorem depthL_mem : ∀ (ks : List Node) (a : Nat), ∀ k ∈ ks, depth k ≤ depthL ks a
  | x :: ks, a, k, h => by
    rw [depthL]
    rcases List.mem_cons.1 h with rfl | h
    · exact Nat.le_trans (Nat.le_max_right _ _) (depthL_ge ks _)
    · exact depthL_mem ks _ k h
theorem depth_nsz (m : Nat) : ∀ n : Node, nsz n ≤ m → depth n ≤ nsz n := by
  induction m with
  | zero => intro n h; cases n; rw [nsz] at h; omega
  | succ m ih =>
    intro n h
    rw [depth_eq]
    split
    · omega
    · have : depthL n.kids 0 ≤ nsz n - 1 := depthL_le _ _ _ (by omega) (fun k hk => by
        have h1 := nsz_lt n hk
        have := ih k (by omega)
        omega)
      have : 1 ≤ nsz n := by cases n; rw [nsz]; omega
      omega
mutual
theorem nsz_full : ∀ n : Node, nsz n ≤ full n
  | .mk k s n ats ks t p => by rw [nsz, full]; have := nszL_full ks; omega
theorem nszL_full : ∀ ks : List Node, nszL ks ≤ fullL ks
  | [] => by rw [nszL, fullL]; omega
  | k :: ks => by rw [nszL, fullL]; have := nsz_full k; have := nszL_full ks; omega
end
theorem depth_full (n : Node) : depth n ≤ full n := Nat.le_trans (depth_nsz _ n (Nat.le_refl _)) (nsz_full n)

/-! Equality of trees, with or without offsets. -/
def attEqv (o : Bool) (a b : Att) : Bool := a.space == b.space && a.name == b.name && a.value == b.value && (!o || a.pos == b.pos)
def attsEqv (o : Bool) : List Att → List Att → Bool
  | a :: l, b :: r => attEqv o a b && attsEqv o l r
  | _, _ => true
/-- What is compared before attributes and kids. -/
def headEqv (o : Bool) (n m : Node) : Bool := n.kind == m.kind && n.space == m.space && n.name == m.name && n.text == m.text && (!o || n.pos == m.pos) && n.attrs.length == m.attrs.length && n.kids.length == m.kids.length
mutual
def eqv (o : Bool) : Node → Node → Bool
  | .mk k s n ats ks t p, m => headEqv o (.mk k s n ats ks t p) m && attsEqv o ats m.attrs && kidsEqv o ks m.kids
def kidsEqv (o : Bool) : List Node → List Node → Bool
  | k :: ks, ms => match ms with
    | m :: ms => eqv o k m && kidsEqv o ks ms
    | [] => true
  | [], _ => true
end
theorem eqv_eq (o : Bool) (n m : Node) : eqv o n m = (headEqv o n m && attsEqv o n.attrs m.attrs && kidsEqv o n.kids m.kids) := by cases n; rw [eqv]; rfl
theorem attsEqv_step {o : Bool} {l r : List Att} {i : Nat} (hl : i < l.length) (hr : i < r.length) : attsEqv o (l.drop i) (r.drop i) = (attEqv o l[i] r[i] && attsEqv o (l.drop (i + 1)) (r.drop (i + 1))) := by
  rw [List.drop_eq_getElem_cons hl, List.drop_eq_getElem_cons hr, attsEqv]
theorem kidsEqv_step {o : Bool} {l r : List Node} {i : Nat} (hl : i < l.length) (hr : i < r.length) : kidsEqv o (l.drop i) (r.drop i) = (eqv o l[i] r[i] && kidsEqv o (l.drop (i + 1)) (r.drop (i + 1))) := by
  rw [List.drop_eq_getElem_cons hl, List.drop_eq_getElem_cons hr, kidsEqv]
theorem attsEqv_nil (o : Bool) (r : List Att) : attsEqv o [] r = true := by rw [attsEqv]; simp
theorem kidsEqv_nil (o : Bool) (r : List Node) : kidsEqv o [] r = true := by rw [kidsEqv]
end Go.Proofs.YtclhdppppgjgfaaGreatDoor
set_option linter.unusedVariables false
namespace Go.Proofs.YtclhdppppgjgfaaGreatDoor
open Go.RowKit

theorem attSize : (Tryz.prog.info? 39).map (·.size) = some 4 := by kernel_rfl
theorem nodeSize : (Tryz.prog.info? 26).map (·.size) = some 7 := by kernel_rfl
theorem wp_load_att {ops : Array Oper} {rest : List Oper} {o : Oper} {a : Act} {w : World} {Q : Exit → Act → World → Prop} (hgd : o.guard = none) (x : Operand) (ho : o.op = .load 39 x)
    (b off : Nat) (hx : a.eval x = .pointer (some ⟨b, off, none⟩)) (t : Att) (hr : w.rangeAt b off (attCells t))
    (h : wpList Tryz.prog ops Q rest (a.put o.dst (.agg #[.string (S t.space), .string (S t.name), .string (S t.value), .int .i64 t.pos])) w) : wpList Tryz.prog ops Q (o :: rest) a w :=
  wpList_load_mid hgd 39 x ho b off hx (attCells t) _ hr Tryz.underlying39 rfl attSize h
theorem wp_load_node {ops : Array Oper} {rest : List Oper} {o : Oper} {a : Act} {w : World} {Q : Exit → Act → World → Prop} (hgd : o.guard = none) (x : Operand) (ho : o.op = .load 26 x)
    (b off : Nat) (hx : a.eval x = .pointer (some ⟨b, off, none⟩)) (cs : List Value) (hl : cs.length = 7) (hr : w.rangeAt b off cs)
    (h : wpList Tryz.prog ops Q rest (a.put o.dst (.agg cs.toArray)) w) : wpList Tryz.prog ops Q (o :: rest) a w :=
  wpList_load_mid hgd 26 x ho b off hx cs _ hr Tryz.underlying26 rfl (by rw [hl]; exact nodeSize) h


/-- In a statement whose order is open: loading a node. -/
theorem still_load_node {ops : Array Oper} {rest : List Oper} {o : Oper} {a : Act} {w : World} {Q : Act → Prop} (hgd : o.guard = none) (x : Operand) (ho : o.op = .load 26 x)
    (b off : Nat) (hx : a.eval x = .pointer (some ⟨b, off, none⟩)) (cs : List Value) (hl : cs.length = 7) (hr : w.rangeAt b off cs)
    (h : wpStill Tryz.prog ops w Q rest (a.put o.dst (.agg cs.toArray))) : wpStill Tryz.prog ops w Q (o :: rest) a := by
  refine wpStill_step fun K hK => ?_
  rw [if_pos (by simp [Region.wanted, hgd])]
  unfold Oper.still execOp
  simp only [ho, hx, Instr.loadAt, Instr.sureAddr, Sem.run_bind, Sem.run_pure, Result.andThen_ok, run_loadVar_mid w b off 26 cs _ hr Tryz.underlying26 rfl (by rw [hl]; exact nodeSize)]
  rw [Oper.stillUpon_value]
  exact hK _ h
/-- The box of a node that came in by value. -/
abbrev nodeBox (n : Node) (A : Option Addr) (c : Nat) (K : Option Addr) (d : Nat) : Obj :=
  .cells #[.int .i64 n.kind, .string (S n.space), .string (S n.name), .slice A n.attrs.length c, .slice K n.kids.length d, .string (S n.text), .int .i64 n.pos] 26
theorem box_cells {w : World} {b : Nat} {n : Node} {A : Option Addr} {c : Nat} {K : Option Addr} {d : Nat} (h : w.heap[b]? = some (nodeBox n A c K d)) :
    w.cell? ⟨b, 0, none⟩ = some (.int .i64 n.kind) ∧ w.cell? ⟨b, 1, none⟩ = some (.string (S n.space)) ∧ w.cell? ⟨b, 2, none⟩ = some (.string (S n.name)) ∧ w.cell? ⟨b, 3, none⟩ = some (.slice A n.attrs.length c) ∧
    w.cell? ⟨b, 4, none⟩ = some (.slice K n.kids.length d) ∧ w.cell? ⟨b, 5, none⟩ = some (.string (S n.text)) ∧ w.cell? ⟨b, 6, none⟩ = some (.int .i64 n.pos) := by
  refine ⟨?_, ?_, ?_, ?_, ?_, ?_, ?_⟩ <;> (rw [Lib.cell_of_heap h]; rfl)
end Go.Proofs.YtclhdppppgjgfaaGreatDoor
set_option linter.unusedVariables false
namespace Go.Proofs.YtclhdppppgjgfaaGreatDoor
open Go.RowKit

def AttsP (w : World) (p : Nat → Prop) (v : Value) (ats : List Att) : Prop :=
  ∃ A cap, v = .slice A ats.length cap ∧ ats.length ≤ cap ∧ (ats = [] ∨ ∃ b off, A = some ⟨b, off, none⟩ ∧ p b ∧ ∀ (i : Nat) a, ats[i]? = some a → w.rangeAt b (off + i * 4) (attCells a))
mutual
def NodeP (w : World) (p : Nat → Prop) : Node → List Value → Prop
  | .mk k s n ats ks t q, cs => ∃ va A cap, cs = [.int .i64 k, .string (S s), .string (S n), va, .slice A ks.length cap, .string (S t), .int .i64 q] ∧ AttsP w p va ats ∧ ks.length ≤ cap ∧
      (ks = [] ∨ ∃ b off, A = some ⟨b, off, none⟩ ∧ p b ∧ KidsP w p b off ks)
def KidsP (w : World) (p : Nat → Prop) (b : Nat) : Nat → List Node → Prop
  | _, [] => True
  | off, k :: ks => (∃ cs, NodeP w p k cs ∧ w.rangeAt b off cs) ∧ KidsP w p b (off + 7) ks
end
def NodesP (w : World) (p : Nat → Prop) (v : Value) (ks : List Node) : Prop :=
  ∃ A cap, v = .slice A ks.length cap ∧ ks.length ≤ cap ∧ (ks = [] ∨ ∃ b off, A = some ⟨b, off, none⟩ ∧ p b ∧ KidsP w p b off ks)
def NodePV (w : World) (p : Nat → Prop) (n : Node) (v : Value) : Prop := ∃ cs : List Value, v = .agg cs.toArray ∧ NodeP w p n cs

section
variable {w w' : World} {p p' : Nat → Prop} {B b off : Nat}
theorem AttsP.keep {v : Value} {ats : List Att} (h : AttsP w p v ats) (hb : ∀ k, p k → w'.heap[k]? = w.heap[k]?) (hp : ∀ k, p k → p' k) : AttsP w' p' v ats := by
  obtain ⟨A, cap, hv, hc, h⟩ := h
  refine ⟨A, cap, hv, hc, h.imp id ?_⟩
  rintro ⟨b, off, hA, hlt, hr⟩
  exact ⟨b, off, hA, hp b hlt, fun i a hi => rangeAt_keep (hr i a hi) (hb b hlt)⟩
mutual
theorem NodeP.keep (hb : ∀ k, p k → w'.heap[k]? = w.heap[k]?) (hp : ∀ k, p k → p' k) : ∀ (n : Node) (cs : List Value), NodeP w p n cs → NodeP w' p' n cs
  | .mk k s nm ats ks t q, cs, h => by
    rw [NodeP] at h ⊢
    obtain ⟨va, A, cap, hcs, ha, hc, h⟩ := h
    refine ⟨va, A, cap, hcs, ha.keep hb hp, hc, h.imp id ?_⟩
    rintro ⟨b, off, hA, hlt, hr⟩
    exact ⟨b, off, hA, hp b hlt, KidsP.keep hb hp hlt ks off hr⟩
theorem KidsP.keep (hb : ∀ k, p k → w'.heap[k]? = w.heap[k]?) (hp : ∀ k, p k → p' k) {b : Nat} (hlt : p b) : ∀ (ks : List Node) (off : Nat), KidsP w p b off ks → KidsP w' p' b off ks
  | [], _, _ => by rw [KidsP]; trivial
  | k :: ks, off, h => by
    rw [KidsP] at h ⊢
    obtain ⟨⟨cs, h1, h2⟩, h3⟩ := h
    exact ⟨⟨cs, NodeP.keep hb hp k cs h1, rangeAt_keep h2 (hb b hlt)⟩, KidsP.keep hb hp hlt ks (off + 7) h3⟩
end
theorem NodesP.keep {v : Value} {ks : List Node} (h : NodesP w p v ks) (hb : ∀ k, p k → w'.heap[k]? = w.heap[k]?) (hp : ∀ k, p k → p' k) : NodesP w' p' v ks := by
  obtain ⟨A, cap, hv, hc, h⟩ := h
  refine ⟨A, cap, hv, hc, h.imp id ?_⟩
  rintro ⟨b, off, hA, hlt, hr⟩
  exact ⟨b, off, hA, hp b hlt, KidsP.keep hb hp hlt ks off hr⟩
theorem NodePV.keep {n : Node} {v : Value} (h : NodePV w p n v) (hb : ∀ k, p k → w'.heap[k]? = w.heap[k]?) (hp : ∀ k, p k → p' k) : NodePV w' p' n v := by
  obtain ⟨cs, hv, hn⟩ := h
  exact ⟨cs, hv, NodeP.keep hb hp n cs hn⟩
theorem KidsP.at_ : ∀ {ks : List Node} {off : Nat}, KidsP w p b off ks → ∀ {i : Nat} {k : Node}, ks[i]? = some k → ∃ cs, NodeP w p k cs ∧ w.rangeAt b (off + i * 7) cs
  | [], off, _, i, k, hi => by simp at hi
  | x :: ks, off, h, i, k, hi => by
    rw [KidsP] at h
    cases i with
    | zero => simp at hi; subst hi; simpa using h.1
    | succ i =>
      obtain ⟨cs, h1, h2⟩ := KidsP.at_ h.2 (i := i) (by simpa using hi)
      exact ⟨cs, h1, by rw [show off + (i + 1) * 7 = off + 7 + i * 7 by omega]; exact h2⟩
theorem KidsP.of_at : ∀ {ks : List Node} {off : Nat}, (∀ (i : Nat) (k : Node), ks[i]? = some k → ∃ cs, NodeP w p k cs ∧ w.rangeAt b (off + i * 7) cs) → KidsP w p b off ks
  | [], off, _ => by rw [KidsP]; trivial
  | x :: ks, off, h => by
    rw [KidsP]
    refine ⟨by simpa using h 0 x rfl, KidsP.of_at fun i k hi => ?_⟩
    have := h (i + 1) k (by simpa using hi)
    rw [show off + (i + 1) * 7 = off + 7 + i * 7 by omega] at this
    exact this
theorem NodeP.form {n : Node} {cs : List Value} (h : NodeP w p n cs) : ∃ va vk, cs = [.int .i64 n.kind, .string (S n.space), .string (S n.name), va, vk, .string (S n.text), .int .i64 n.pos] ∧ AttsP w p va n.attrs ∧ NodesP w p vk n.kids := by
  cases n with
  | mk k s nm ats ks t q =>
    rw [NodeP] at h
    obtain ⟨va, A, cap, hcs, ha, hc, h⟩ := h
    exact ⟨va, _, hcs, ha, A, cap, rfl, hc, h⟩
theorem NodeP.of_form {n : Node} {va vk : Value} (ha : AttsP w p va n.attrs) (hk : NodesP w p vk n.kids) :
    NodeP w p n [.int .i64 n.kind, .string (S n.space), .string (S n.name), va, vk, .string (S n.text), .int .i64 n.pos] := by
  cases n with
  | mk k s nm ats ks t q =>
    rw [NodeP]
    obtain ⟨A, cap, hv, hc, h⟩ := hk
    exact ⟨va, A, cap, by rw [hv]; rfl, ha, hc, h⟩
theorem NodePV.of_form {n : Node} {va vk : Value} (ha : AttsP w p va n.attrs) (hk : NodesP w p vk n.kids) :
    NodePV w p n (.agg #[.int .i64 n.kind, .string (S n.space), .string (S n.name), va, vk, .string (S n.text), .int .i64 n.pos]) :=
  ⟨_, rfl, NodeP.of_form ha hk⟩
theorem AttsP.slice {v : Value} {ats : List Att} (h : AttsP w p v ats) : ∃ A cap, v = .slice A ats.length cap ∧ ats.length ≤ cap := by
  obtain ⟨A, cap, hv, hc, _⟩ := h; exact ⟨A, cap, hv, hc⟩
theorem NodesP.slice {v : Value} {ks : List Node} (h : NodesP w p v ks) : ∃ A cap, v = .slice A ks.length cap ∧ ks.length ≤ cap := by
  obtain ⟨A, cap, hv, hc, _⟩ := h; exact ⟨A, cap, hv, hc⟩
theorem NodeP.open_ {n : Node} {cs : List Value} (h : NodeP w p n cs) : ∃ A c K d, cs = [.int .i64 n.kind, .string (S n.space), .string (S n.name), .slice A n.attrs.length c, .slice K n.kids.length d, .string (S n.text), .int .i64 n.pos] ∧
    AttsP w p (.slice A n.attrs.length c) n.attrs ∧ NodesP w p (.slice K n.kids.length d) n.kids ∧ n.attrs.length ≤ c ∧ n.kids.length ≤ d := by
  obtain ⟨va, vk, hcs, ha, hk⟩ := h.form
  obtain ⟨A, c, rfl, hc⟩ := ha.slice
  obtain ⟨K, d, rfl, hd⟩ := hk.slice
  exact ⟨A, c, K, d, hcs, ha, hk, hc, hd⟩
theorem NodePV.open_ {n : Node} {v : Value} (h : NodePV w p n v) : ∃ A c K d, v = .agg #[.int .i64 n.kind, .string (S n.space), .string (S n.name), .slice A n.attrs.length c, .slice K n.kids.length d, .string (S n.text), .int .i64 n.pos] ∧
    AttsP w p (.slice A n.attrs.length c) n.attrs ∧ NodesP w p (.slice K n.kids.length d) n.kids ∧ n.attrs.length ≤ c ∧ n.kids.length ≤ d := by
  obtain ⟨cs, hv, hn⟩ := h
  obtain ⟨A, c, K, d, hcs, h⟩ := hn.open_
  exact ⟨A, c, K, d, by rw [hv, hcs], h⟩
theorem NodesP.at_ {ks : List Node} {A : Option Addr} {n cap i : Nat} (h : NodesP w p (.slice A n cap) ks) (hi : i < ks.length) :
    ∃ b off cs, A = some ⟨b, off, none⟩ ∧ p b ∧ w.rangeAt b (off + i * 7) cs ∧ NodeP w p ks[i] cs := by
  obtain ⟨A', cap', hv, _, h⟩ := h
  cases hv
  rcases h with h | ⟨b, off, hA, hlt, hr⟩
  · subst h; simp at hi
  · obtain ⟨cs, h1, h2⟩ := hr.at_ (List.getElem?_eq_getElem hi)
    exact ⟨b, off, cs, hA, hlt, h2, h1⟩
theorem AttsP.at_ {ats : List Att} {A : Option Addr} {n cap i : Nat} (h : AttsP w p (.slice A n cap) ats) (hi : i < ats.length) :
    ∃ b off, A = some ⟨b, off, none⟩ ∧ p b ∧ w.rangeAt b (off + i * 4) (attCells ats[i]) := by
  obtain ⟨A', cap', hv, _, h⟩ := h
  cases hv
  rcases h with h | ⟨b, off, hA, hlt, hr⟩
  · subst h; simp at hi
  · exact ⟨b, off, hA, hlt, hr i _ (List.getElem?_eq_getElem hi)⟩

/-! The two ways to tell where a tree lies. -/
theorem AttsP.toIn {v : Value} {ats : List Att} (h : AttsP w p v ats) (hp : ∀ k, p k → k < B) : AttsIn w B v ats := by
  obtain ⟨A, cap, hv, hc, h⟩ := h
  exact ⟨A, cap, hv, hc, h.imp id fun ⟨b, off, hA, hlt, hr⟩ => ⟨b, off, hA, hp b hlt, hr⟩⟩
theorem AttsIn.toP {v : Value} {ats : List Att} (h : AttsIn w B v ats) : AttsP w (· < B) v ats := h
mutual
theorem NodeP.toIn (hp : ∀ k, p k → k < B) : ∀ (n : Node) (cs : List Value), NodeP w p n cs → NodeIn w B n cs
  | .mk k s nm ats ks t q, cs, h => by
    rw [NodeP] at h
    rw [NodeIn]
    obtain ⟨va, A, cap, hcs, ha, hc, h⟩ := h
    refine ⟨va, A, cap, hcs, ha.toIn hp, hc, h.imp id ?_⟩
    rintro ⟨b, off, hA, hlt, hr⟩
    exact ⟨b, off, hA, hp b hlt, KidsP.toIn hp ks off hr⟩
theorem KidsP.toIn (hp : ∀ k, p k → k < B) {b : Nat} : ∀ (ks : List Node) (off : Nat), KidsP w p b off ks → KidsIn w B b off ks
  | [], _, _ => by rw [KidsIn]; trivial
  | k :: ks, off, h => by
    rw [KidsP] at h
    rw [KidsIn]
    obtain ⟨⟨cs, h1, h2⟩, h3⟩ := h
    exact ⟨⟨cs, NodeP.toIn hp k cs h1, h2⟩, KidsP.toIn hp ks (off + 7) h3⟩
end
mutual
theorem NodeIn.toP : ∀ (n : Node) (cs : List Value), NodeIn w B n cs → NodeP w (· < B) n cs
  | .mk k s nm ats ks t q, cs, h => by
    rw [NodeIn] at h
    rw [NodeP]
    obtain ⟨va, A, cap, hcs, ha, hc, h⟩ := h
    refine ⟨va, A, cap, hcs, ha, hc, h.imp id ?_⟩
    rintro ⟨b, off, hA, hlt, hr⟩
    exact ⟨b, off, hA, hlt, KidsIn.toP ks off hr⟩
theorem KidsIn.toP {b : Nat} : ∀ (ks : List Node) (off : Nat), KidsIn w B b off ks → KidsP w (· < B) b off ks
  | [], _, _ => by rw [KidsP]; trivial
  | k :: ks, off, h => by
    rw [KidsIn] at h
    rw [KidsP]
    obtain ⟨⟨cs, h1, h2⟩, h3⟩ := h
    exact ⟨⟨cs, NodeIn.toP k cs h1, h2⟩, KidsIn.toP ks (off + 7) h3⟩
end
theorem NodesP.toIn {v : Value} {ks : List Node} (h : NodesP w p v ks) (hp : ∀ k, p k → k < B) : NodesIn w B v ks := by
  obtain ⟨A, cap, hv, hc, h⟩ := h
  exact ⟨A, cap, hv, hc, h.imp id fun ⟨b, off, hA, hlt, hr⟩ => ⟨b, off, hA, hp b hlt, KidsP.toIn hp _ _ hr⟩⟩
theorem NodesIn.toP {v : Value} {ks : List Node} (h : NodesIn w B v ks) : NodesP w (· < B) v ks := by
  obtain ⟨A, cap, hv, hc, h⟩ := h
  exact ⟨A, cap, hv, hc, h.imp id fun ⟨b, off, hA, hlt, hr⟩ => ⟨b, off, hA, hlt, KidsIn.toP _ _ hr⟩⟩
theorem NodePV.toV {n : Node} {v : Value} (h : NodePV w p n v) (hp : ∀ k, p k → k < B) : NodeV w B n v := by
  obtain ⟨cs, hv, hn⟩ := h
  exact ⟨cs, hv, NodeP.toIn hp n cs hn⟩
theorem NodeV.toP {n : Node} {v : Value} (h : NodeV w B n v) : NodePV w (· < B) n v := by
  obtain ⟨cs, hv, hn⟩ := h
  exact ⟨cs, hv, NodeIn.toP n cs hn⟩
end
end Go.Proofs.YtclhdppppgjgfaaGreatDoor
set_option linter.unusedVariables false
namespace Go.Proofs.YtclhdppppgjgfaaGreatDoor
open Go.RowKit

theorem infoNode : (Tryz.prog.info? 26).map (fun i => (i.zero, i.size, i.bytes)) = some (some (.agg #[.int .i64 0, .string ByteArray.empty, .string ByteArray.empty, .slice none 0 0, .slice none 0 0, .string ByteArray.empty, .int .i64 0]), 7, 112) := by kernel_rfl
theorem infoAtt : (Tryz.prog.info? 39).map (fun i => (i.zero, i.size, i.bytes)) = some (some (.agg #[.string ByteArray.empty, .string ByteArray.empty, .string ByteArray.empty, .int .i64 0]), 4, 56) := by kernel_rfl

/-- A slice of attributes that the call has built itself, in a block of its own from 'base' on. -/
def AttRow (w : World) (base : Nat) (v : Value) (ats : List Att) : Prop := w.ownsRow base 39 4 v ats.length (ats.map attCells).flatten
/-- A slice of nodes that the call has built itself; what they hold lies in blocks that satisfy p. -/
def NodeRow (w : World) (base : Nat) (p : Nat → Prop) (v : Value) (ks : List Node) : Prop :=
  ∃ css : List (List Value), css.length = ks.length ∧ (∀ (i : Nat) k cs, ks[i]? = some k → css[i]? = some cs → NodeP w p k cs) ∧ w.ownsRow base 26 7 v ks.length css.flatten

section
variable {w w' : World} {base B : Nat} {p : Nat → Prop} {v : Value}
theorem attCells_len (a : Att) : (attCells a).length = 4 := rfl
theorem NodeP.len {n : Node} {cs : List Value} (h : NodeP w p n cs) : cs.length = 7 := by
  obtain ⟨va, vk, hcs, _⟩ := h.form; rw [hcs]; rfl
theorem NodeP.one {n : Node} {cs : List Value} (h : NodeP w p n cs) : ∀ u ∈ cs, u.oneCell' = true := by
  obtain ⟨va, vk, hcs, ⟨A, c, ha, _⟩, ⟨K, d, hk, _⟩⟩ := h.form
  subst hcs ha hk
  simp [Value.oneCell']
theorem AttRow.nil (w : World) (base : Nat) : AttRow w base (.slice none 0 0) [] := World.ownsRow_nil w base _ _
theorem NodeRow.nil (w : World) (base : Nat) (p : Nat → Prop) : NodeRow w base p (.slice none 0 0) [] := ⟨[], rfl, by simp, World.ownsRow_nil w base _ _⟩
theorem AttRow.below {ats : List Att} (h : AttRow w base v ats) (hb : Below w.heap.size w w') : AttRow w' base v ats := ownsRow_below h hb
theorem NodeRow.below {ks : List Node} (h : NodeRow w base p v ks) (hb : Below w.heap.size w w') (hp : ∀ k, p k → k < w.heap.size) : NodeRow w' base p v ks := by
  obtain ⟨css, h1, h2, h3⟩ := h
  exact ⟨css, h1, fun i k cs hk hc => NodeP.keep (fun j hj => hb.block j (hp j hj)) (fun _ h => h) k cs (h2 i k cs hk hc), ownsRow_below h3 hb⟩
theorem NodeRow.heap {ks : List Node} (h : NodeRow w base p v ks) (hb : ∀ k, v.ownBlock = some k → w'.heap[k]? = w.heap[k]?) (hp : ∀ k, p k → w'.heap[k]? = w.heap[k]?) : NodeRow w' base p v ks := by
  obtain ⟨css, h1, h2, h3⟩ := h
  exact ⟨css, h1, fun i k cs hk hc => NodeP.keep hp (fun _ h => h) k cs (h2 i k cs hk hc), ownsRow_heap h3 hb⟩
theorem NodeRow.more {p' : Nat → Prop} {ks : List Node} (h : NodeRow w base p v ks) (hp : ∀ k, p k → p' k) : NodeRow w base p' v ks := by
  obtain ⟨css, h1, h2, h3⟩ := h
  exact ⟨css, h1, fun i k cs hk hc => NodeP.keep (fun _ _ => rfl) hp k cs (h2 i k cs hk hc), h3⟩
theorem NodeRow.lt {ks : List Node} (h : NodeRow w base p v ks) : ∀ k, v.ownBlock = some k → base ≤ k ∧ k < w.heap.size := by
  obtain ⟨css, _, _, h3⟩ := h; exact h3.lt
theorem AttRow.lt {ats : List Att} (h : AttRow w base v ats) : ∀ k, v.ownBlock = some k → base ≤ k ∧ k < w.heap.size := World.ownsRow.lt h
theorem AttRow.slice {ats : List Att} (h : AttRow w base v ats) : ∃ A cap, v = .slice A ats.length cap ∧ ats.length ≤ cap := by
  rcases h.2 with ⟨hv, hn⟩ | ⟨g, cap, cur, hv, _, _, hc, _⟩
  · exact ⟨none, 0, by rw [hv, hn], by omega⟩
  · exact ⟨_, cap, hv, hc⟩
theorem NodeRow.slice {ks : List Node} (h : NodeRow w base p v ks) : ∃ A cap, v = .slice A ks.length cap ∧ ks.length ≤ cap := by
  obtain ⟨css, _, _, h⟩ := h
  rcases h.2 with ⟨hv, hn⟩ | ⟨g, cap, cur, hv, _, _, hc, _⟩
  · exact ⟨none, 0, by rw [hv, hn], by omega⟩
  · exact ⟨_, cap, hv, hc⟩
/-- What it reads as. -/
theorem AttRow.attsIn {ats : List Att} (h : AttRow w base v ats) : AttsIn w w.heap.size v ats := by
  rcases h.2 with ⟨hv, hn⟩ | ⟨g, cap, cur, hv, hg, hh, hc, _⟩
  · have : ats = [] := List.eq_nil_of_length_eq_zero hn
    subst this
    exact ⟨none, 0, hv, by simp, .inl rfl⟩
  · refine ⟨_, cap, hv, hc, .inr ⟨g, 0, rfl, heap_lt hh, fun i a hi j u hu => ?_⟩⟩
    have hj : j < 4 := by have := (List.getElem?_eq_some_iff.1 hu).1; rw [attCells_len] at this; exact this
    have hx := flat_at (c := 4) (css := ats.map attCells) (by simp [attCells_len]) (i := i) (j := j) (cs := attCells a) (by simp [hi]) hj
    have := h.cells (g := g) (by rw [hv]; rfl) (i * 4 + j) u (by rw [hx]; exact hu)
    rw [add_zero_block] at this
    rw [show 0 + i * 4 + j = i * 4 + j by omega]
    exact this
theorem NodeRow.nodesP {p' : Nat → Prop} {ks : List Node} (h : NodeRow w base p v ks) (hp : ∀ k, p k → p' k) (hr : ∀ k, v.ownBlock = some k → p' k) : NodesP w p' v ks := by
  obtain ⟨css, hl, hin, h⟩ := h
  rcases h.2 with ⟨hv, hn⟩ | ⟨g, cap, cur, hv, hg, hh, hc, _⟩
  · have : ks = [] := List.eq_nil_of_length_eq_zero hn
    subst this
    exact ⟨none, 0, hv, by simp, .inl rfl⟩
  · have hlen : ∀ cs ∈ css, cs.length = 7 := fun cs hcs => by
      obtain ⟨i, hi⟩ := List.getElem?_of_mem hcs
      have hik : i < ks.length := by rw [← hl]; exact (List.getElem?_eq_some_iff.1 hi).1
      exact (hin i _ cs (List.getElem?_eq_getElem hik) hi).len
    refine ⟨_, cap, hv, hc, .inr ⟨g, 0, rfl, hr g (by rw [hv]; rfl), KidsP.of_at fun i k hi => ?_⟩⟩
    have hik : i < css.length := by rw [hl]; exact (List.getElem?_eq_some_iff.1 hi).1
    refine ⟨css[i], NodeP.keep (fun _ _ => rfl) hp k _ (hin i k _ hi (List.getElem?_eq_getElem hik)), fun j u hu => ?_⟩
    have hj : j < 7 := by have := (List.getElem?_eq_some_iff.1 hu).1; rw [hlen _ (List.getElem_mem hik)] at this; exact this
    have hx := flat_at (c := 7) (css := css) hlen (i := i) (j := j) (List.getElem?_eq_getElem hik) hj
    have := h.cells (g := g) (by rw [hv]; rfl) (i * 7 + j) u (by rw [hx]; exact hu)
    rw [add_zero_block] at this
    rw [show 0 + i * 7 + j = i * 7 + j by omega]
    exact this
end

/-! Appending one element, which lies in a block of its own. -/
theorem nodes_append_all {P' : (Value → World → Prop) → Prop} (w : World) (base : Nat) (p : Nat → Prop) (v : Value) (ks : List Node) (h : NodeRow w base p v ks) (k : Node) (cs : List Value) (hk : NodeP w p k cs) (hB : ∀ j, p j → j < base) (hbase : base ≤ w.heap.size) (hlen : ks.length < 1000000000000)
    (raw : ∀ (css : List (List Value)), css.length = ks.length → w.ownsRow base 26 7 v ks.length css.flatten → P' (fun v' w' => w'.ownsRow base 26 7 v' (ks.length + 1) (css.flatten ++ cs) ∧ (w.alloc (.cells cs.toArray 26)).grownBy w' v.ownBlock))
    (mono : ∀ {p q : Value → World → Prop}, (∀ v' w', p v' w' → q v' w') → P' p → P' q) : P' (fun v' w' => NodeRow w' base p v' (ks ++ [k]) ∧ Grew w v v' w' ∧ Below base w w') := by
  obtain ⟨css, hl, hin, hown⟩ := h
  refine mono ?_ (raw css hl hown)
  rintro v' w' ⟨h1, h2⟩
  have hlt := hown.lt
  have hbelow : Below base w w' := ((Below.refl _ _).alloc hbase _).trans (row_grown h2 (by simp; omega) (fun k hk => by have := hlt k hk; simp; omega))
  refine ⟨⟨css ++ [cs], by simp [hl], ?_, ?_⟩, ⟨⟨h2.os, h2.tape, h2.output, by have := h2.size; simp at this; omega, fun j hj hne => (h2.block j (by simp; omega) hne).trans (Below.heap_alloc w _ j hj)⟩, by have := h2.size; simp at this; omega⟩, hbelow⟩
  · intro i k' cs' hk' hcs'
    have hkeep : ∀ (n : Node) c, NodeP w p n c → NodeP w' p n c := fun n c hn => NodeP.keep (fun j hj => hbelow.block j (hB j hj)) (fun _ h => h) n c hn
    by_cases hi : i < ks.length
    · rw [List.getElem?_append_left hi] at hk'
      rw [List.getElem?_append_left (by omega)] at hcs'
      exact hkeep _ _ (hin i k' cs' hk' hcs')
    · have hi2 : i = ks.length := by
        have := (List.getElem?_eq_some_iff.1 hk').1
        simp at this; omega
      subst hi2
      rw [List.getElem?_append_right (Nat.le_refl _)] at hk'
      rw [List.getElem?_append_right (by omega), hl] at hcs'
      simp at hk' hcs'
      subst hk' hcs'
      exact hkeep _ _ hk
  · rw [List.flatten_append, List.length_append]
    simpa using h1
theorem nodes_append {ops : Array Oper} {rest : List Oper} {o : Oper} {a : Act} {Q : Exit → Act → World → Prop} (hgd : o.guard = none) (s x : Operand)
    (ho : o.op = .call { callee := .builtin .append, args := #[s, x], argTypes := #[24, 24] })
    (w : World) (base : Nat) (p : Nat → Prop) (v : Value) (ks : List Node) (hs : a.eval s = v) (h : NodeRow w base p v ks) (k : Node) (cs : List Value) (H : Nat) (hH : w.heap.size = H) (hx : a.eval x = .slice (some ⟨H, 0, none⟩) 1 1) (hk : NodeP w p k cs) (hB : ∀ j, p j → j < base) (hbase : base ≤ w.heap.size) (hlen : ks.length < 1000000000000)
    (hK : ∀ g cap w', NodeRow w' base p (.slice (some ⟨g, 0, none⟩) (ks.length + 1) cap) (ks ++ [k]) → Grew w v (.slice (some ⟨g, 0, none⟩) (ks.length + 1) cap) w' → Below base w w' → wpList Tryz.prog ops Q rest (a.put o.dst (.slice (some ⟨g, 0, none⟩) (ks.length + 1) cap)) w') :
    wpList Tryz.prog ops Q (o :: rest) a (w.alloc (.cells cs.toArray 26)) := by
  subst hH
  obtain ⟨i0, hi0, hz0, hz1, hz2⟩ := info_parts infoNode
  refine nodes_append_all (P' := fun p => (∀ g cap w', p (.slice (some ⟨g, 0, none⟩) (ks.length + 1) cap) w' → wpList Tryz.prog ops Q rest (a.put o.dst (.slice (some ⟨g, 0, none⟩) (ks.length + 1) cap)) w') → wpList Tryz.prog ops Q (o :: rest) a (w.alloc (.cells cs.toArray 26))) w base p v ks h k cs hk hB hbase hlen ?_ (fun hpq hp H => hp fun g cap w' h' => H g cap w' (hpq _ _ h')) (fun g cap w' h' => hK g cap w' h'.1 h'.2.1 h'.2.2)
  intro css hl hown H
  refine wpList_append_lies _ hgd s x 24 ho base 26 i0 _ 7 112 Tryz.underlying24 hi0 hz0 hz1 hz2 rfl (by omega) v ks.length css.flatten hs (ownsRow_below hown ((Below.refl _ _).alloc (Nat.le_refl _) _)) ⟨w.heap.size, 0, none⟩ 1 1 cs hx (by rw [hk.len]) ?_ hk.one (by omega) (by unfold maxLen; omega) (by omega) (by simp; omega) _ rfl ?_
  · intro j u hu
    exact World.news_of_block (heap_alloc_new w (.cells cs.toArray 26)) j u (by simpa using hu)
  · intro g cap w1 hown1 hgrow hat hlt
    exact H g cap w1 ⟨hown1, hgrow⟩
theorem atts_append_all {w w' : World} {base : Nat} {v v' : Value} {ats : List Att} (h : AttRow w base v ats) (b : Att) (hbase : base ≤ w.heap.size)
    (h1 : w'.ownsRow base 39 4 v' (ats.length + 1) ((ats.map attCells).flatten ++ attCells b)) (h2 : (w.alloc (.cells (attCells b).toArray 39)).grownBy w' v.ownBlock) : AttRow w' base v' (ats ++ [b]) ∧ Grew w v v' w' ∧ Below base w w' := by
  have hlt := h.lt
  have hbelow : Below base w w' := ((Below.refl _ _).alloc hbase _).trans (row_grown h2 (by simp; omega) (fun k hk => by have := hlt k hk; simp; omega))
  refine ⟨?_, ⟨⟨h2.os, h2.tape, h2.output, by have := h2.size; simp at this; omega, fun j hj hne => (h2.block j (by simp; omega) hne).trans (Below.heap_alloc w _ j hj)⟩, by have := h2.size; simp at this; omega⟩, hbelow⟩
  unfold AttRow
  rw [List.map_append, List.flatten_append, List.length_append]
  simpa using h1
theorem atts_append {ops : Array Oper} {rest : List Oper} {o : Oper} {a : Act} {Q : Exit → Act → World → Prop} (hgd : o.guard = none) (s x : Operand)
    (ho : o.op = .call { callee := .builtin .append, args := #[s, x], argTypes := #[23, 23] })
    (w : World) (base : Nat) (v : Value) (ats : List Att) (hs : a.eval s = v) (h : AttRow w base v ats) (b : Att) (H : Nat) (hH : w.heap.size = H) (hx : a.eval x = .slice (some ⟨H, 0, none⟩) 1 1) (hbase : base ≤ w.heap.size) (hlen : ats.length < 1000000000000)
    (hK : ∀ g cap w', AttRow w' base (.slice (some ⟨g, 0, none⟩) (ats.length + 1) cap) (ats ++ [b]) → Grew w v (.slice (some ⟨g, 0, none⟩) (ats.length + 1) cap) w' → Below base w w' → wpList Tryz.prog ops Q rest (a.put o.dst (.slice (some ⟨g, 0, none⟩) (ats.length + 1) cap)) w') :
    wpList Tryz.prog ops Q (o :: rest) a (w.alloc (.cells #[.string (S b.space), .string (S b.name), .string (S b.value), .int .i64 b.pos] 39)) := by
  subst hH
  obtain ⟨i0, hi0, hz0, hz1, hz2⟩ := info_parts infoAtt
  refine wpList_append_lies _ hgd s x 23 ho base 39 i0 _ 4 56 Tryz.underlying23 hi0 hz0 hz1 hz2 rfl (by omega) v ats.length _ hs (ownsRow_below h ((Below.refl _ _).alloc (Nat.le_refl _) _)) ⟨w.heap.size, 0, none⟩ 1 1 (attCells b) hx rfl ?_ (by simp [attCells, Value.oneCell']) (by omega) (by unfold maxLen; omega) (by omega) (by simp; omega) _ rfl ?_
  · intro j u hu
    exact World.news_of_block (heap_alloc_new w (.cells (attCells b).toArray 39)) j u (by simpa using hu)
  · intro g cap w1 hown1 hgrow hat hlt
    obtain ⟨r1, r2, r3⟩ := atts_append_all h b hbase hown1 hgrow
    exact hK g cap w1 r1 r2 r3
theorem atts_append_step {ops : Array Oper} {o : Oper} {a : Act} {K : Act → World → Prop} {Q : Exit → Act → World → Prop} {E : Prop} (hgd : o.guard = none) (s x : Operand)
    (ho : o.op = .call { callee := .builtin .append, args := #[s, x], argTypes := #[23, 23] })
    (w : World) (base : Nat) (v : Value) (ats : List Att) (hs : a.eval s = v) (h : AttRow w base v ats) (b : Att) (H : Nat) (hH : w.heap.size = H) (hx : a.eval x = .slice (some ⟨H, 0, none⟩) 1 1) (hbase : base ≤ w.heap.size) (hlen : ats.length < 1000000000000)
    (hK : ∀ g cap w', AttRow w' base (.slice (some ⟨g, 0, none⟩) (ats.length + 1) cap) (ats ++ [b]) → Grew w v (.slice (some ⟨g, 0, none⟩) (ats.length + 1) cap) w' → Below base w w' → K (a.put o.dst (.slice (some ⟨g, 0, none⟩) (ats.length + 1) cap)) w') :
    if Region.wanted o (yielded ops a.tmps) = true then Oper.wp Tryz.prog o a (w.alloc (.cells #[.string (S b.space), .string (S b.name), .string (S b.value), .int .i64 b.pos] 39)) K Q else E := by
  subst hH
  obtain ⟨i0, hi0, hz0, hz1, hz2⟩ := info_parts infoAtt
  refine step_append_lies _ hgd s x 23 ho base 39 i0 _ 4 56 Tryz.underlying23 hi0 hz0 hz1 hz2 rfl (by omega) v ats.length _ hs (ownsRow_below h ((Below.refl _ _).alloc (Nat.le_refl _) _)) ⟨w.heap.size, 0, none⟩ 1 1 (attCells b) hx rfl ?_ (by simp [attCells, Value.oneCell']) (by omega) (by unfold maxLen; omega) (by omega) (by simp; omega) _ rfl ?_
  · intro j u hu
    exact World.news_of_block (heap_alloc_new w (.cells (attCells b).toArray 39)) j u (by simpa using hu)
  · intro g cap w1 hown1 hgrow hat hlt
    obtain ⟨r1, r2, r3⟩ := atts_append_all h b hbase hown1 hgrow
    exact hK g cap w1 r1 r2 r3

/-! A struct stored whole into a block, and a result that lies in a block. -/
theorem wp_store_node {ops : Array Oper} {rest : List Oper} {o : Oper} {a : Act} {w : World} {Q : Exit → Act → World → Prop} (hgd : o.guard = none) (x y : Operand) (ho : o.op = .store 26 x y)
    (g : Nat) (cur : Array Value) (k p : Int) (s nm t : ByteArray) (A K : Option Addr) (n c m d : Nat) (hx : a.eval x = .pointer (some ⟨g, 0, none⟩)) (hy : a.eval y = .agg #[.int .i64 k, .string s, .string nm, .slice A n c, .slice K m d, .string t, .int .i64 p])
    (hg : w.heap[g]? = some (.cells cur 26 (0, 0))) (hs : cur.size = 7)
    (h : ∀ w', w'.heap[g]? = some (.cells #[.int .i64 k, .string s, .string nm, .slice A n c, .slice K m d, .string t, .int .i64 p] 26 (0, 0)) → Upd g w w' → wpList Tryz.prog ops Q rest (a.put o.dst undef) w') : wpList Tryz.prog ops Q (o :: rest) a w :=
  wp_store_whole hgd 26 x y ho g 26 cur _ hx hy hg (by rw [hs]; rfl) nodeSize (by simp [Value.oneCell']) h
end Go.Proofs.YtclhdppppgjgfaaGreatDoor
set_option linter.unusedVariables false
namespace Go.Proofs.YtclhdppppgjgfaaGreatDoor
open Go.RowKit

theorem Cur.err {w : World} {b : Nat} {l : Bytes} {n ea er : Int} (h : Cur w b l n ea er) (x y : Int) : Cur ((w.setCell ⟨b, 2, none⟩ (.int .i64 x)).setCell ⟨b, 3, none⟩ (.int .i64 y)) b l n x y := by
  unfold Cur at h ⊢
  simp [World.setCell, Array.getElem?_modify, h]
set_option maxHeartbeats 1000000 in
theorem curFail_any (b : Nat) (l : Bytes) (n ea er x y : Int) (w : World) (hC : Cur w b l n ea er) :
    Calls Tryz.prog 83 #[.pointer (some ⟨b, 0, none⟩), .int .i64 x, .int .i64 y] w fun e w' =>
      e = .returned (.tuple #[]) ∧ Cur w' b l n (if er = 0 then x else ea) (if er = 0 then y else er) ∧ Upd b w w' := by
  have HC := Lib.hid hC
  have c2 := hC.c2
  have c3 := hC.c3
  have f2 := hC.free 2
  have f3 := hC.free 3
  have f4 : (w.setCell ⟨b, 2, none⟩ (.int .i64 x)).frozen? ⟨b, 3, none⟩ = false := (World.frozen?_setCell _ _ _ _).trans f3
  have f5 : (w.setCell ⟨b, 3, none⟩ (.int .i64 y)).frozen? ⟨b, 2, none⟩ = false := (World.frozen?_setCell _ _ _ _).trans f2
  clear hC
  by_cases h : er = 0
  · subst h
    go_enter Tryz.func83, Tryz.ntmps83
    go_wp2
    all_goals go_end0
    all_goals exact ⟨rfl, HC.out.err _ _, (Upd.set_ _ _ _ _).trans (Upd.set_ _ _ _ _)⟩
  · have t : (er == 0) = false := by rw [beq_eq_false_iff_ne]; exact h
    rw [if_neg h, if_neg h]
    clear h
    go_enter Tryz.func83, Tryz.ntmps83
    go_wp2
    all_goals go_end0
    exact ⟨rfl, HC.out, Upd.refl _ _⟩
end Go.Proofs.YtclhdppppgjgfaaGreatDoor
