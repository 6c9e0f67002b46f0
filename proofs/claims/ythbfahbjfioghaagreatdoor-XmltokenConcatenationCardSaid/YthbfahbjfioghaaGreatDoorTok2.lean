/-
  Plain laws of chapter 6: steps of the scans. No program.
-/
import Derived.Test.YthbfahbjfioghaaGreatDoorTok
set_option linter.unusedVariables false
namespace Go.Proofs.YthbfahbjfioghaaGreatDoor

theorem has_one {l : Bytes} {n : Nat} {c : UInt8} : hasAt l n [c] = true ↔ ∃ h : n < l.length, l[n] = c := by
  rw [hasAt_take, beq_iff_eq]
  constructor
  · intro h
    have hl : n < l.length := by
      have := congrArg List.length h
      simp at this; omega
    refine ⟨hl, ?_⟩
    rw [List.drop_eq_getElem_cons hl, List.length_singleton, List.take_succ_cons, List.take_zero] at h
    exact (List.cons.inj h).1
  · rintro ⟨h, e⟩
    rw [List.drop_eq_getElem_cons h]; simp [e]
def optI : Option Nat → Int
  | none => -1
  | some j => (j : Int)
theorem find_step {l t : Bytes} {i : Nat} (hi : i < l.length) (h : hasAt l i t = false) : (findS t (l.drop i)).map (· + i) = (findS t (l.drop (i + 1))).map (· + (i + 1)) := by
  rw [findS_next hi h, Option.map_map]
  congr 1
  funext x
  show x + 1 + i = x + (i + 1)
  omega
theorem find_here {l t : Bytes} {i : Nat} (h : hasAt l i t = true) : (findS t (l.drop i)).map (· + i) = some i := by
  rw [findS_hit h]; simp
theorem find_end {l t : Bytes} {i : Nat} (h : l.length < i + t.length) (ht : t ≠ []) : (findS t (l.drop i)).map (· + i) = none := by
  have := List.length_pos_iff.2 ht
  rw [findS_short (by rw [List.length_drop]; omega)]; rfl
theorem spEnd_yes {l : Bytes} {n : Nat} (hn : n < l.length) (h : isSp l[n] = true) : spEnd l n = spEnd l (n + 1) := by
  unfold spEnd; rw [run_yes hn h]; omega
theorem spEnd_no {l : Bytes} {n : Nat} (hn : n < l.length) (h : isSp l[n] = false) : spEnd l n = n := by
  unfold spEnd; rw [run_no hn h]; omega
theorem spEnd_end (l : Bytes) : spEnd l l.length = l.length := by unfold spEnd; rw [run_end]; omega
theorem valEnd_yes {l : Bytes} {n : Nat} {q : UInt8} (hn : n < l.length) (h : l[n] ≠ q) (h2 : l[n] ≠ 60) : valEnd l q n = valEnd l q (n + 1) := by
  unfold valEnd; rw [run_yes hn (by simp [h, h2])]; omega
theorem valEnd_no {l : Bytes} {n : Nat} {q : UInt8} (hn : n < l.length) (h : l[n] = q ∨ l[n] = 60) : valEnd l q n = n := by
  unfold valEnd; rw [run_no hn (by rcases h with h | h <;> simp [h])]; omega
theorem valEnd_end (l : Bytes) (q : UInt8) : valEnd l q l.length = l.length := by unfold valEnd; rw [run_end]; omega
theorem lines_skip {l : Bytes} {i : Nat} (hi : i + 1 < l.length) (h : l[i].toNat = 13) (h2 : l[i + 1].toNat = 10) : linesB (l.drop i) = linesB (l.drop (i + 1)) := by
  rw [List.drop_eq_getElem_cons (show i < l.length by omega), linesB, if_pos]
  refine ⟨h, ?_⟩
  rw [List.drop_eq_getElem_cons hi]
  simp only [List.head?_cons, Option.some.injEq]
  exact UInt8.toNat_inj.1 h2
theorem lines_cr {l : Bytes} {i : Nat} (hi : i < l.length) (h : l[i].toNat = 13) (h2 : ∀ h : i + 1 < l.length, l[i + 1].toNat ≠ 10) : linesB (l.drop i) = 10 :: linesB (l.drop (i + 1)) := by
  rw [List.drop_eq_getElem_cons hi, linesB, if_neg, if_pos h]
  rintro ⟨_, h3⟩
  by_cases h4 : i + 1 < l.length
  · rw [List.drop_eq_getElem_cons h4] at h3
    simp only [List.head?_cons, Option.some.injEq] at h3
    exact h2 h4 (by rw [h3]; rfl)
  · rw [List.drop_eq_nil_of_le (by omega)] at h3; cases h3
theorem lines_byte {l : Bytes} {i : Nat} (hi : i < l.length) (h : l[i].toNat ≠ 13) : linesB (l.drop i) = l[i] :: linesB (l.drop (i + 1)) := by
  rw [List.drop_eq_getElem_cons hi, linesB, if_neg (fun h2 => h h2.1), if_neg h]
/-- The first m bytes are a name that may go on. -/
def NmAt (x : Bytes) (m : Nat) : Prop := ∀ y, nmS 0 true (x.take m ++ y) = m + nmS 0 (decide (m = 0)) y
theorem NmAt.zero (x : Bytes) : NmAt x 0 := fun y => by simp
theorem NmAt.all {x : Bytes} {m : Nat} (h : NmAt x m) : nameLen x = m + nmS 0 (decide (m = 0)) (x.drop m) := by
  have := h (x.drop m)
  rw [List.take_append_drop] at this
  exact this
theorem NmAt.next {x : Bytes} {m r k : Nat} (h : NmAt x m) (hd : dec (x.drop m) = (r, k)) (hk : k ≠ 0) (hm : m + k ≤ x.length) :
    isQName (x.take (m + k)) = qch (decide (m = 0)) r ∧ (qch (decide (m = 0)) r = true → NmAt x (m + k)) := by
  have hk' : (dec (x.drop m)).2 ≠ 0 := by rw [hd]; exact hk
  obtain ⟨h1, h2⟩ := dec_enc _ hk'
  rw [hd] at h1 h2
  simp only at h1 h2
  have h3 : x.take (m + k) = x.take m ++ enc r := by rw [h2, List.take_add]
  have hlen : (enc r).length = k := by rw [h2, List.length_take, List.length_drop]; omega
  have hy := fun y => enc_dec h1 y
  have hlt : (x.take (m + k)).length = m + k := by rw [List.length_take]; omega
  constructor
  · rw [isQName, hlt, h3]
    have h4 := h (enc r)
    have h5 := hy []
    rw [List.append_nil] at h5
    have hne : (x.take m ++ enc r != []) = true := by
      rw [bne_iff_ne]; intro e
      have := congrArg List.length e
      rw [List.length_append, hlen] at this
      simp at this; omega
    rw [hne, Bool.true_and]
    unfold nameLen
    rw [h4]
    cases hq : qch (decide (m = 0)) r
    · rw [nm_stop (.inr (by rw [h5]; exact hq))]
      rw [beq_eq_false_iff_ne]; omega
    · rw [nm_next (by rw [h5]; simp only; omega) (by rw [h5]; exact hq), h5]
      simp only [hlen]
      rw [List.drop_eq_nil_of_le (by omega), nm_nil]
      simp
  · intro hq y
    rw [h3, List.append_assoc, h, nm_next (by rw [hy]; simp only; omega) (by rw [hy]; exact hq), hy]
    simp only
    rw [List.drop_left, show decide (m + k = 0) = false by simp; omega, hlen]
    omega
theorem NmAt.stop {x : Bytes} {m r k : Nat} (h : NmAt x m) (hd : dec (x.drop m) = (r, k)) (hs : k = 0 ∨ qch (decide (m = 0)) r = false) : nameLen x = m := by
  rw [h.all, nm_stop (by rw [hd]; exact hs)]; rfl
theorem NmAt.end_ {x : Bytes} (h : NmAt x x.length) : nameLen x = x.length := by
  rw [h.all, List.drop_length, nm_nil]; rfl
theorem run_mem {p : UInt8 → Bool} : ∀ {x : Bytes}, ∀ c ∈ x.take (run p x), p c = true
  | [], c, h => by simp at h
  | a :: x, c, h => by
    rw [run] at h
    split at h
    · rename_i ha
      rw [List.take_succ_cons] at h
      rcases List.mem_cons.1 h with rfl | h
      · exact ha
      · exact run_mem c h
    · simp at h
theorem run_head {p : UInt8 → Bool} : ∀ {x : Bytes} {c : UInt8}, (x.drop (run p x)).head? = some c → p c = false
  | [], c, h => by simp at h
  | a :: x, c, h => by
    rw [run] at h
    split at h
    · rw [List.drop_succ_cons] at h
      exact run_head h
    · rename_i ha
      simp only [List.drop_zero, List.head?_cons, Option.some.injEq] at h
      subst h
      cases hp : p a with
      | true => exact absurd hp ha
      | false => rfl
/-- The place of the next '&'. -/
def ampEnd (x : Bytes) (n : Nat) : Nat := n + run (fun c => c != 38) (x.drop n)
theorem ampEnd_le {x : Bytes} {n : Nat} (h : n ≤ x.length) : ampEnd x n ≤ x.length := by
  have := run_le (fun c => c != 38) (x.drop n)
  rw [List.length_drop] at this
  unfold ampEnd; omega
theorem ampEnd_ge (x : Bytes) (n : Nat) : n ≤ ampEnd x n := by unfold ampEnd; omega
theorem ampEnd_yes {x : Bytes} {n : Nat} (hn : n < x.length) (h : x[n] ≠ 38) : ampEnd x n = ampEnd x (n + 1) := by
  unfold ampEnd; rw [run_yes hn (by simp [h])]; omega
theorem ampEnd_no {x : Bytes} {n : Nat} (hn : n < x.length) (h : x[n] = 38) : ampEnd x n = n := by
  unfold ampEnd; rw [run_no hn (by simp [h])]; omega
theorem ampEnd_end (x : Bytes) : ampEnd x x.length = x.length := by unfold ampEnd; rw [run_end]; omega
/-- What the run without '&' gives. -/
theorem cont_amp (v : Bool) (x : Bytes) (n : Nat) (h : n ≤ x.length) : contS v 0 (x.drop n) n = (contS v 0 (x.drop (ampEnd x n)) (ampEnd x n)).map (blanks v (linesB ((x.drop n).take (ampEnd x n - n))) ++ ·) := by
  have h1 : ampEnd x n - n = run (fun c => c != 38) (x.drop n) := by unfold ampEnd; omega
  have h2 := run_le (fun c => c != 38) (x.drop n)
  have h3 := cont_run v ((x.drop n).drop (run (fun c => c != 38) (x.drop n))) (by
    intro h4
    have := run_head h4
    simp at this) ((x.drop n).take (run (fun c => c != 38) (x.drop n))) n (fun b hb => by have := run_mem b hb; simpa using this)
  rw [List.take_append_drop] at h3
  rw [h3, h1, List.length_take, Nat.min_eq_left h2, List.drop_drop]
  rfl
theorem blanks_len (v : Bool) (x : Bytes) : (blanks v x).length = x.length := by unfold blanks; simp
theorem blanks_false (x : Bytes) : blanks false x = x := by unfold blanks; simp
/-- A value's bytes when j of them have been looked at. -/
def blTo (P : Bytes) (j : Nat) : Bytes := blanks true (P.take j) ++ P.drop j
theorem blTo_zero (P : Bytes) : blTo P 0 = P := by simp [blTo, blanks]
theorem blTo_all (P : Bytes) : blTo P P.length = blanks true P := by simp [blTo]
theorem blTo_len (P : Bytes) (j : Nat) : (blTo P j).length = P.length := by
  unfold blTo
  rw [List.length_append, blanks_len, List.length_take, List.length_drop]; omega
theorem blTo_get {P : Bytes} {j : Nat} (h : j < P.length) : (blTo P j)[j]'(by rw [blTo_len]; exact h) = P[j] := by
  unfold blTo
  rw [List.getElem_append_right (by rw [blanks_len, List.length_take]; omega)]
  simp only [blanks_len, List.length_take, List.getElem_drop]
  congr 1
  omega
theorem blTo_form {P : Bytes} {j : Nat} (h : j < P.length) : blTo P j = blanks true (P.take j) ++ P[j] :: P.drop (j + 1) := by
  unfold blTo; rw [List.drop_eq_getElem_cons h]
theorem blTo_next {P : Bytes} {j : Nat} (h : j < P.length) : blTo P (j + 1) = blanks true (P.take j) ++ (if isSp P[j] = true then 32 else P[j]) :: P.drop (j + 1) := by
  unfold blTo
  rw [List.take_succ_eq_append_getElem h]
  unfold blanks
  rw [List.map_append, List.append_assoc]
  congr 1
  simp only [List.map_cons, List.map_nil, true_and, List.singleton_append]
theorem blTo_yes {P : Bytes} {j : Nat} (h : j < P.length) (hs : isSp P[j] = true) : blTo P (j + 1) = (blTo P j).set j 32 := by
  rw [blTo_next h, blTo_form h, if_pos hs]
  have hl : (blanks true (P.take j)).length = j := by rw [blanks_len, List.length_take]; omega
  rw [List.set_append_right _ _ (by omega), hl, Nat.sub_self, List.set_cons_zero]
theorem blTo_no {P : Bytes} {j : Nat} (h : j < P.length) (hs : isSp P[j] = false) : blTo P (j + 1) = blTo P j := by
  rw [blTo_next h, blTo_form h, if_neg (by rw [hs]; decide)]
/-- What content returns. -/
def contR (b : Nat) : Except Nat Bytes → Bytes × Int × Int
  | .error n => ([], n, 12)
  | .ok o => (o, b, 0)
/-- How far content has come. -/
def ConAt (v : Bool) (x o : Bytes) (i : Nat) (R : Except Nat Bytes) : Prop := (contS v 0 (x.drop i) i).map (o ++ ·) = R
theorem ConAt.start {v : Bool} {x : Bytes} {i : Nat} {R : Except Nat Bytes} (h : contS v 0 (x.drop i) i = R) : ConAt v x [] i R := by
  unfold ConAt; rw [h]; cases R <;> rfl
theorem ConAt.bad {v : Bool} {x o : Bytes} {i : Nat} {R : Except Nat Bytes} (h : ConAt v x o i R) (hi : i < x.length) (hc : x[i] = 38) (ht : tailRef (x.drop (i + 1)) = none) : R = .error i := by
  unfold ConAt at h
  rw [cont_bad hi hc ht] at h
  exact h.symm
theorem ConAt.ref {v : Bool} {x o : Bytes} {i r m : Nat} {R : Except Nat Bytes} (h : ConAt v x o i R) (hi : i < x.length) (hc : x[i] = 38) (ht : tailRef (x.drop (i + 1)) = some (r, m)) : ConAt v x (o ++ enc r) (i + m + 2) R := by
  unfold ConAt at *
  rw [cont_ref hi hc ht, map_map_ex] at h
  exact h
theorem ConAt.run {v : Bool} {x o : Bytes} {i : Nat} {R : Except Nat Bytes} (h : ConAt v x o i R) (hi : i ≤ x.length) : ConAt v x (o ++ blanks v (linesB ((x.drop i).take (ampEnd x i - i)))) (ampEnd x i) R := by
  unfold ConAt at *
  rw [cont_amp v x i hi, map_map_ex] at h
  exact h
theorem ConAt.end_ {v : Bool} {x o : Bytes} {R : Except Nat Bytes} (h : ConAt v x o x.length R) : R = .ok o := by
  unfold ConAt at h
  rw [List.drop_length, contS] at h
  rw [← h]; simp [Except.map]
end Go.Proofs.YthbfahbjfioghaaGreatDoor
