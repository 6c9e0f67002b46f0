/-
  Plain functions of chapter 6 (xmltoken): the tokens of a document. No program.
-/
import Derived.Test.YthbfahbjfioghaaGreatDoorSpec06
import Derived.Test.YthbfahbjfioghaaGreatDoorRef05
import Derived.Test.YthbfahbjfioghaaGreatDoorTree
set_option linter.unusedVariables false
namespace Go.Proofs.YthbfahbjfioghaaGreatDoor

structure Tok where
  kind : Int
  name : Bytes
  attrs : List Att
  empty : Bool
  text : Bytes
  pos : Int

/-- A string's part stands at a place. -/
def hasAt (l : Bytes) (n : Nat) (t : Bytes) : Bool := t.isPrefixOf (l.drop n)
theorem hasAt_take {l : Bytes} {n : Nat} {t : Bytes} : hasAt l n t = ((l.drop n).take t.length == t) := by
  unfold hasAt
  rw [Bool.eq_iff_iff, List.isPrefixOf_iff_prefix, List.prefix_iff_eq_take, beq_iff_eq, eq_comm]
theorem hasAt_le {l : Bytes} {n : Nat} {t : Bytes} (h : hasAt l n t = true) : t.length + n ≤ l.length ∨ t = [] := by
  unfold hasAt at h
  rw [List.isPrefixOf_iff_prefix] at h
  have := h.length_le
  rw [List.length_drop] at this
  by_cases h0 : t = []
  · exact .inr h0
  · have := List.length_pos_iff.2 h0
    left; omega
/-- How far away the next one is. -/
def findS (t : Bytes) : Bytes → Option Nat
  | [] => if t = [] then some 0 else none
  | a :: x => if t.isPrefixOf (a :: x) = true then some 0 else (findS t x).map (· + 1)
theorem findS_le {t : Bytes} : ∀ {x : Bytes} {k : Nat}, findS t x = some k → k + t.length ≤ x.length
  | [], k, h => by
    rw [findS] at h
    split at h
    · rename_i e; cases h; subst e; simp
    · cases h
  | a :: x, k, h => by
    rw [findS] at h
    split at h
    · rename_i e
      cases h
      rw [List.isPrefixOf_iff_prefix] at e
      have := e.length_le
      omega
    · cases hf : findS t x with
      | none => rw [hf] at h; cases h
      | some j =>
        rw [hf] at h
        cases h
        have := findS_le hf
        simp only [List.length_cons]
        omega
theorem findS_hit {t x : Bytes} (h : t.isPrefixOf x = true) : findS t x = some 0 := by
  cases x with
  | nil => rw [findS, if_pos (by cases t; rfl; simp at h)]
  | cons a x => rw [findS, if_pos h]
theorem findS_next {l t : Bytes} {n : Nat} (hn : n < l.length) (h : hasAt l n t = false) : findS t (l.drop n) = (findS t (l.drop (n + 1))).map (· + 1) := by
  unfold hasAt at h
  rw [List.drop_eq_getElem_cons hn] at h ⊢
  rw [findS, if_neg (by rw [h]; decide)]
theorem findS_short {t : Bytes} : ∀ {x : Bytes}, x.length < t.length → findS t x = none
  | [], h => by rw [findS, if_neg (by rintro rfl; simp at h)]
  | a :: x, h => by
    simp only [List.length_cons] at h
    rw [findS, if_neg, findS_short (by omega)]
    · rfl
    · intro e
      rw [List.isPrefixOf_iff_prefix] at e
      have := e.length_le
      simp at this; omega

/-- White space. -/
def isSp (c : UInt8) : Bool := decide (c.toNat = 32 ∨ c.toNat = 9 ∨ c.toNat = 10 ∨ c.toNat = 13)
def run (p : UInt8 → Bool) : Bytes → Nat
  | [] => 0
  | c :: x => if p c = true then run p x + 1 else 0
theorem run_le (p : UInt8 → Bool) : ∀ x : Bytes, run p x ≤ x.length
  | [] => Nat.le_refl _
  | c :: x => by
    have := run_le p x
    rw [run]; split <;> simp <;> omega
theorem run_yes {p : UInt8 → Bool} {l : Bytes} {n : Nat} (hn : n < l.length) (h : p l[n] = true) : run p (l.drop n) = run p (l.drop (n + 1)) + 1 := by
  rw [List.drop_eq_getElem_cons hn, run, if_pos h]
theorem run_no {p : UInt8 → Bool} {l : Bytes} {n : Nat} (hn : n < l.length) (h : p l[n] = false) : run p (l.drop n) = 0 := by
  rw [List.drop_eq_getElem_cons hn, run, if_neg (by rw [h]; decide)]
theorem run_end (p : UInt8 → Bool) (l : Bytes) : run p (l.drop l.length) = 0 := by rw [List.drop_length]; rfl
/-- The place behind white space. -/
def spEnd (l : Bytes) (n : Nat) : Nat := n + run isSp (l.drop n)
theorem spEnd_ge (l : Bytes) (n : Nat) : n ≤ spEnd l n := by unfold spEnd; omega
theorem spEnd_le {l : Bytes} {n : Nat} (h : n ≤ l.length) : spEnd l n ≤ l.length := by
  have := run_le isSp (l.drop n)
  rw [List.length_drop] at this
  unfold spEnd; omega

/-- Line ends replaced. -/
def linesB : Bytes → Bytes
  | [] => []
  | c :: x => if c.toNat = 13 ∧ x.head? = some 10 then linesB x else (if c.toNat = 13 then 10 else c) :: linesB x
theorem linesB_len : ∀ x : Bytes, (linesB x).length ≤ x.length
  | [] => Nat.le_refl _
  | c :: x => by
    have := linesB_len x
    rw [linesB]; split <;> simp <;> omega
/-- White space of a value. -/
def blanks (v : Bool) (x : Bytes) : Bytes := x.map fun c => if v = true ∧ isSp c = true then 32 else c
/-- Text with line ends and references replaced; the number of an error is where its reference stands. 'k': bytes of a reference that has been read. -/
def contS (v : Bool) : Nat → Bytes → Nat → Except Nat Bytes
  | _, [], _ => .ok []
  | k + 1, _ :: t, n => contS v k t (n + 1)
  | 0, c :: t, n =>
    if c = 38 then
      match tailRef t with
      | none => .error n
      | some (r, m) => (contS v (m + 1) t (n + 1)).map (enc r ++ ·)
    else if c.toNat = 13 ∧ t.head? = some 10 then contS v 0 t (n + 1)
    else (contS v 0 t (n + 1)).map ((blanks v [if c.toNat = 13 then 10 else c]) ++ ·)
def cont (v : Bool) (l : Bytes) (a b : Nat) : Except Nat Bytes := contS v 0 ((l.take b).drop a) a
theorem contS_skip (v : Bool) : ∀ (k : Nat) (l : Bytes) (n : Nat), k ≤ l.length → contS v k l n = contS v 0 (l.drop k) (n + k)
  | 0, l, n, _ => by simp
  | k + 1, [], n, h => by simp at h
  | k + 1, a :: l, n, h => by
    rw [contS, contS_skip v k l (n + 1) (by simpa using h), List.drop_succ_cons, show n + 1 + k = n + (k + 1) by omega]
theorem cont_bad {v : Bool} {l : Bytes} {n : Nat} (h : n < l.length) (hc : l[n] = 38) (hr : tailRef (l.drop (n + 1)) = none) : contS v 0 (l.drop n) n = .error n := by
  rw [List.drop_eq_getElem_cons h, contS, if_pos hc, hr]
theorem cont_ref {v : Bool} {l : Bytes} {n r m : Nat} (h : n < l.length) (hc : l[n] = 38) (hr : tailRef (l.drop (n + 1)) = some (r, m)) : contS v 0 (l.drop n) n = (contS v 0 (l.drop (n + m + 2)) (n + m + 2)).map (enc r ++ ·) := by
  have hl := tailRef_len hr
  rw [List.drop_eq_getElem_cons h, contS, if_pos hc, hr]
  simp only
  rw [contS_skip v (m + 1) _ _ hl, List.drop_drop, show n + 1 + (m + 1) = n + m + 2 by omega]
/-- A run without '&'. -/
theorem cont_run (v : Bool) (y : Bytes) (hy : y.head? ≠ some 10) : ∀ (x : Bytes) (n : Nat), (∀ b ∈ x, b ≠ 38) → contS v 0 (x ++ y) n = (contS v 0 y (n + x.length)).map (blanks v (linesB x) ++ ·)
  | [], n, _ => by
    simp only [List.nil_append, linesB, blanks, List.map_nil, List.length_nil, Nat.add_zero]
    cases contS v 0 y n <;> rfl
  | c :: x, n, h => by
    have ih := cont_run v y hy x (n + 1) (fun b hb => h b (by simp [hb]))
    rw [List.cons_append, contS, if_neg (h c (by simp)), linesB]
    have hh : (x ++ y).head? = some 10 ↔ x.head? = some 10 := by
      cases x with
      | nil => simpa using hy
      | cons a x => simp
    by_cases h1 : c.toNat = 13 ∧ x.head? = some 10
    · rw [if_pos ⟨h1.1, hh.2 h1.2⟩, if_pos h1, ih, List.length_cons, show n + 1 + x.length = n + (x.length + 1) by omega]
    · rw [if_neg (fun h2 => h1 ⟨h2.1, hh.1 h2.2⟩), if_neg h1, ih, map_map_ex, List.length_cons, show n + 1 + x.length = n + (x.length + 1) by omega]
      congr 1

def missing (l : Bytes) (a n : Nat) : Nat × Nat := if l.length ≤ n then (a, 8) else (n, 7)
/-- The run of a value in quotes. -/
def valEnd (l : Bytes) (q : UInt8) (n : Nat) : Nat := n + run (fun c => c != q && c != 60) (l.drop n)
theorem valEnd_ge (l : Bytes) (q : UInt8) (n : Nat) : n ≤ valEnd l q n := by unfold valEnd; omega
theorem valEnd_le {l : Bytes} {q : UInt8} {n : Nat} (h : n ≤ l.length) : valEnd l q n ≤ l.length := by
  have := run_le (fun c => c != q && c != 60) (l.drop n)
  rw [List.length_drop] at this
  unfold valEnd; omega
def isQuote (l : Bytes) (n : Nat) : Bool := hasAt l n [34] || hasAt l n [39]
/-- An attribute's value behind the opening quote. -/
def valAt (l : Bytes) (a : Nat) (nm : Bytes) (p : Nat) (q : UInt8) (n : Nat) : Except (Nat × Nat) (Att × Nat) :=
  match cont true l n (valEnd l q n) with
  | .error x => .error (x, 12)
  | .ok v =>
    if valEnd l q n = l.length then .error (a, 8)
    else if l.getD (valEnd l q n) 0 = 60 then .error (valEnd l q n, 7)
    else .ok (⟨[], nm, v, p⟩, valEnd l q n + 1)
/-- An attribute at n, in a tag that starts at a. -/
def attAt (l : Bytes) (a n : Nat) : Except (Nat × Nat) (Att × Nat) :=
  if nameLen (l.drop n) = 0 then .error (missing l a n)
  else if hasAt l (spEnd l (n + nameLen (l.drop n))) [61] = false then .error (missing l a (spEnd l (n + nameLen (l.drop n))))
  else if isQuote l (spEnd l (spEnd l (n + nameLen (l.drop n)) + 1)) = false then .error (missing l a (spEnd l (spEnd l (n + nameLen (l.drop n)) + 1)))
  else valAt l a ((l.drop n).take (nameLen (l.drop n))) n (l.getD (spEnd l (spEnd l (n + nameLen (l.drop n)) + 1)) 0) (spEnd l (spEnd l (n + nameLen (l.drop n)) + 1) + 1)
/-- The attributes and the end of a start tag. -/
def tagF (l : Bytes) (a : Nat) : Nat → Nat → List Att → Except (Nat × Nat) (List Att × Bool × Nat)
  | 0, _, _ => .error (0, 0)
  | f + 1, n, bs =>
    if hasAt l (spEnd l n) [62] = true then .ok (bs, false, spEnd l n + 1)
    else if hasAt l (spEnd l n) [47, 62] = true then .ok (bs, true, spEnd l n + 2)
    else if hasAt l (spEnd l n) [47] = true then .error (missing l a (spEnd l n + 1))
    else if spEnd l n = n then .error (missing l a n)
    else match attAt l a (spEnd l n) with
      | .error e => .error e
      | .ok (b, e) => if bs.any (fun c => c.name == b.name) = true then .error (spEnd l n, 10) else tagF l a f e (bs ++ [b])
def tagS (l : Bytes) (a n : Nat) (bs : List Att) : Except (Nat × Nat) (List Att × Bool × Nat) := tagF l a (l.length + 1) n bs
def startAt (l : Bytes) (a : Nat) : Except (Nat × Nat) (Tok × Nat) :=
  if nameLen (l.drop (a + 1)) = 0 then .error (missing l a (a + 1))
  else match tagS l a (a + 1 + nameLen (l.drop (a + 1))) [] with
    | .error e => .error e
    | .ok (bs, em, e) => .ok (⟨1, (l.drop (a + 1)).take (nameLen (l.drop (a + 1))), bs, em, [], a⟩, e)
def endAt (l : Bytes) (a : Nat) : Except (Nat × Nat) (Tok × Nat) :=
  if nameLen (l.drop (a + 2)) = 0 then .error (missing l a (a + 2))
  else if hasAt l (spEnd l (a + 2 + nameLen (l.drop (a + 2)))) [62] = true then .ok (⟨2, (l.drop (a + 2)).take (nameLen (l.drop (a + 2))), [], false, [], a⟩, spEnd l (a + 2 + nameLen (l.drop (a + 2))) + 1)
  else .error (missing l a (spEnd l (a + 2 + nameLen (l.drop (a + 2)))))
/-- What is skipped: its end. -/
def skipAt (l : Bytes) (a k : Nat) (last : Bytes) : Except (Nat × Nat) Nat :=
  match findS last (l.drop (a + k)) with
  | none => .error (a, 8)
  | some j => .ok (a + k + j + last.length)
def sPi : Bytes := [60, 63]
def sPiEnd : Bytes := [63, 62]
def sCom : Bytes := [60, 33, 45, 45]
def sComEnd : Bytes := [45, 45, 62]
def sCd : Bytes := [60, 33, 91, 67, 68, 65, 84, 65, 91]
def sCdEnd : Bytes := [93, 93, 62]
def sDoc : Bytes := [60, 33, 68, 79, 67, 84, 89, 80, 69]
def sBang : Bytes := [60, 33]
def sEnd : Bytes := [60, 47]
def sLt : Bytes := [60]
def zTok (k : Int) : Tok := ⟨k, [], [], false, [], 0⟩
/-- Where text ends. -/
def textEnd (l : Bytes) (a : Nat) : Nat := match findS sLt (l.drop a) with | none => l.length | some j => a + j
/-- A construct; one that is left out is a text of no byte. -/
def consAt (l : Bytes) (a : Nat) : Except (Nat × Nat) (Tok × Nat) :=
  if hasAt l a sPi = true then (skipAt l a 2 sPiEnd).map fun e => (zTok 3, e)
  else if hasAt l a sCom = true then (skipAt l a 4 sComEnd).map fun e => (zTok 3, e)
  else if hasAt l a sCd = true then (skipAt l a 9 sCdEnd).map fun e => (⟨3, [], [], false, linesB ((l.drop (a + 9)).take (e - 3 - (a + 9))), a⟩, e)
  else if hasAt l a sDoc = true then .error (a, 11)
  else if hasAt l a sBang = true then .error (a, 7)
  else if hasAt l a sEnd = true then endAt l a
  else if hasAt l a sLt = true then startAt l a
  else match cont false l a (textEnd l a) with
    | .error x => .error (x, 12)
    | .ok t => .ok (⟨3, [], [], false, t, a⟩, textEnd l a)
def keepTok (t : Tok) : Bool := t.kind != 3 || t.text != []
/-- The tokens from a place on. -/
def tokF (l : Bytes) : Nat → Nat → List Tok → Except (Nat × Nat) (List Tok)
  | 0, _, _ => .error (0, 0)
  | f + 1, n, ts =>
    if n < l.length then
      match consAt l n with
      | .error e => .error e
      | .ok (t, e) => tokF l f e (if keepTok t = true then ts ++ [t] else ts)
    else .ok ts
def tokS (l : Bytes) (n : Nat) (ts : List Tok) : Except (Nat × Nat) (List Tok) := tokF l (l.length + 1) n ts
def sBom : Bytes := [239, 187, 191]
/-- What Tokens returns. -/
def toks (l : Bytes) : List Tok × Nat × Nat :=
  if (check l).2 ≠ 0 then ([], (check l).1, (check l).2)
  else match tokS l (if hasAt l 0 sBom = true then 3 else 0) [] with
    | .error e => ([], e.1, e.2)
    | .ok ts => (ts, l.length, 0)


/-! Where things end. -/
theorem attAt_ok {l : Bytes} {a n : Nat} {b : Att} {e : Nat} (hn : n ≤ l.length) (h : attAt l a n = .ok (b, e)) : n < e ∧ e ≤ l.length ∧ b.pos = n := by
  unfold attAt at h
  have hk := nameLen_le (l.drop n)
  rw [List.length_drop] at hk
  by_cases h1 : nameLen (l.drop n) = 0
  · rw [if_pos h1] at h; cases h
  rw [if_neg h1] at h
  have s1 := spEnd_ge l (n + nameLen (l.drop n))
  generalize nameLen (l.drop n) = k at *
  generalize spEnd l (n + k) = x at *
  by_cases h2 : hasAt l x [61] = false
  · rw [if_pos h2] at h; cases h
  rw [if_neg h2] at h
  have s2 := spEnd_ge l (x + 1)
  generalize spEnd l (x + 1) = y at *
  by_cases h3 : isQuote l y = false
  · rw [if_pos h3] at h; cases h
  rw [if_neg h3] at h
  have hy : y + 1 ≤ l.length := by
    unfold isQuote at h3
    have h4 : hasAt l y [34] = true ∨ hasAt l y [39] = true := by
      cases h5 : hasAt l y [34] <;> cases h6 : hasAt l y [39] <;> simp_all
    rcases h4 with h4 | h4
    all_goals
      have := hasAt_le h4
      simp at this; omega
  unfold valAt at h
  have v1 := valEnd_ge l (l.getD y 0) (y + 1)
  have v2 := valEnd_le (q := l.getD y 0) hy
  generalize valEnd l (l.getD y 0) (y + 1) = z at *
  split at h
  · cases h
  · split at h
    · cases h
    · split at h
      · cases h
      · cases h
        exact ⟨by omega, by omega, rfl⟩
theorem tagF_ok {l : Bytes} {a : Nat} : ∀ {f n : Nat} {bs cs : List Att} {em : Bool} {e : Nat}, n ≤ l.length → tagF l a f n bs = .ok (cs, em, e) → n < e ∧ e ≤ l.length
  | 0, _, _, _, _, _, _, h => by cases h
  | f + 1, n, bs, cs, em, e, hn, h => by
    rw [tagF] at h
    have s1 := spEnd_ge l n
    have s2 := spEnd_le hn
    generalize spEnd l n = x at *
    by_cases h1 : hasAt l x [62] = true
    · rw [if_pos h1] at h
      cases h
      have := hasAt_le h1
      simp at this; omega
    rw [if_neg h1] at h
    by_cases h2 : hasAt l x [47, 62] = true
    · rw [if_pos h2] at h
      cases h
      have := hasAt_le h2
      simp at this; omega
    rw [if_neg h2] at h
    by_cases h3 : hasAt l x [47] = true
    · rw [if_pos h3] at h; cases h
    rw [if_neg h3] at h
    by_cases h4 : x = n
    · rw [if_pos h4] at h; cases h
    rw [if_neg h4] at h
    cases ha : attAt l a x with
    | error y => rw [ha] at h; cases h
    | ok p =>
      obtain ⟨b, y⟩ := p
      rw [ha] at h
      have h5 := attAt_ok s2 ha
      simp only at h
      split at h
      · cases h
      · have := tagF_ok h5.2.1 h
        omega
theorem textEnd_ge (l : Bytes) (a : Nat) (h : a ≤ l.length) : a ≤ textEnd l a ∧ textEnd l a ≤ l.length := by
  unfold textEnd
  cases hf : findS sLt (l.drop a) with
  | none => exact ⟨h, Nat.le_refl _⟩
  | some j =>
    have := findS_le hf
    rw [List.length_drop] at this
    simp only
    simp [sLt] at this; omega
theorem skipAt_ok {l : Bytes} {a k e : Nat} {t : Bytes} (ht : t ≠ []) (h : skipAt l a k t = .ok e) : a + k + t.length ≤ e ∧ e ≤ l.length := by
  unfold skipAt at h
  cases hf : findS t (l.drop (a + k)) with
  | none => rw [hf] at h; cases h
  | some j =>
    rw [hf] at h
    cases h
    have := findS_le hf
    have ht' := List.length_pos_iff.2 ht
    rw [List.length_drop] at this
    omega
theorem startAt_ok {l : Bytes} {a e : Nat} {t : Tok} (h : startAt l a = .ok (t, e)) : a < e ∧ e ≤ l.length ∧ t.kind = 1 ∧ t.pos = a := by
  unfold startAt at h
  have hk := nameLen_le (l.drop (a + 1))
  rw [List.length_drop] at hk
  split at h
  · cases h
  · cases hs : tagS l a (a + 1 + nameLen (l.drop (a + 1))) [] with
    | error y => rw [hs] at h; cases h
    | ok p =>
      obtain ⟨bs, em, y⟩ := p
      rw [hs] at h
      cases h
      have := tagF_ok (by omega) hs
      exact ⟨by omega, by omega, rfl, rfl⟩
theorem endAt_ok {l : Bytes} {a e : Nat} {t : Tok} (h : endAt l a = .ok (t, e)) : a < e ∧ e ≤ l.length ∧ t.kind = 2 ∧ t.pos = a := by
  unfold endAt at h
  split at h
  · cases h
  · split at h
    · rename_i h1
      cases h
      have := spEnd_ge l (a + 2 + nameLen (l.drop (a + 2)))
      have h2 := hasAt_le h1
      simp at h2
      exact ⟨by omega, by omega, rfl, rfl⟩
    · cases h
theorem run_sp_zero {p : UInt8 → Bool} {x : Bytes} : run p x = x.length → ∀ b ∈ x, p b = true := by
  induction x with
  | nil => simp
  | cons c x ih =>
    intro h b hb
    rw [run] at h
    have := run_le p x
    split at h
    · rename_i hc
      simp only [List.length_cons] at h
      rcases List.mem_cons.1 hb with rfl | hb
      · exact hc
      · exact ih (by omega) b hb
    · simp at h
/-- What a construct's end is. -/
theorem consAt_ok {l : Bytes} {a e : Nat} {t : Tok} (ha : a < l.length) (h : consAt l a = .ok (t, e)) : a < e ∧ e ≤ l.length := by
  unfold consAt at h
  have sk : ∀ (k : Nat) (s : Bytes) (g : Nat → Tok × Nat), (∀ e, (g e).2 = e) → s ≠ [] → (skipAt l a k s).map g = .ok (t, e) → a < e ∧ e ≤ l.length := by
    intro k s g hg hs hh
    cases hq : skipAt l a k s with
    | error y => rw [hq] at hh; cases hh
    | ok y =>
      rw [hq] at hh
      have h1 := skipAt_ok hs hq
      have h2 := hg y
      have h3 : g y = (t, e) := by simpa [Except.map] using hh
      rw [h3] at h2
      have := List.length_pos_iff.2 hs
      simp only at h2
      omega
  by_cases h1 : hasAt l a sPi = true
  · rw [if_pos h1] at h; exact sk 2 sPiEnd _ (fun _ => rfl) (by decide) h
  rw [if_neg h1] at h
  by_cases h1 : hasAt l a sCom = true
  · rw [if_pos h1] at h; exact sk 4 sComEnd _ (fun _ => rfl) (by decide) h
  rw [if_neg h1] at h
  by_cases h1 : hasAt l a sCd = true
  · rw [if_pos h1] at h; exact sk 9 sCdEnd _ (fun _ => rfl) (by decide) h
  rw [if_neg h1] at h
  by_cases h1 : hasAt l a sDoc = true
  · rw [if_pos h1] at h; cases h
  rw [if_neg h1] at h
  by_cases h1 : hasAt l a sBang = true
  · rw [if_pos h1] at h; cases h
  rw [if_neg h1] at h
  by_cases h1 : hasAt l a sEnd = true
  · rw [if_pos h1] at h
    have := endAt_ok h
    omega
  rw [if_neg h1] at h
  by_cases h1 : hasAt l a sLt = true
  · rw [if_pos h1] at h
    have := startAt_ok h
    omega
  rw [if_neg h1] at h
  split at h
  · cases h
  · cases h
    have h2 := textEnd_ge l a (by omega)
    refine ⟨?_, h2.2⟩
    unfold textEnd
    cases hf : findS sLt (l.drop a) with
    | none => exact ha
    | some j =>
      simp only
      cases j with
      | zero =>
        exfalso
        apply h1
        unfold hasAt
        cases hd : l.drop a with
        | nil => have := congrArg List.length hd; simp at this; omega
        | cons c x =>
          rw [hd, findS] at hf
          by_cases h3 : sLt.isPrefixOf (c :: x) = true
          · exact h3
          · rw [if_neg h3] at hf
            cases hq : findS sLt x <;> rw [hq] at hf <;> cases hf
      | succ j => omega
end Go.Proofs.YthbfahbjfioghaaGreatDoor
