/-
  Several texts in one file, in build order:
  - Plain functions of chapter 10: a JSON string is read. No program.
  - Plain laws on places in a string: a string behind and ahead of other bytes. No program.
  - Walks of the reference's small functions that chapters 6 and 11 share: Has, IsSpace.
  - Walks of chapter 10, the reference: four digits, a unit, an escape sequence.
  - Walks of chapter 10, the program: unit.
  - Rows of elements of any kind: slices that lie in memory, slices that a call builds itself, appending one element or a whole row.
  - Storing a whole element into a row that the call has built itself.
-/
import Derived.Test.YthlppbpccldikaaDoorH2
import Derived.WalkSpells
import Derived.WalkLawsBesides
import Derived.Lib.ConvBytes
import Derived.Deep.DeepCutAuto
import Derived.Maps.AppendAt
set_option linter.unusedVariables false
namespace Go.Proofs.YthlppbpccldikaaDoor

/-- The number of four hexadecimal digits. -/
def hex4 (l : Bytes) : Option Nat :=
  if 4 ≤ l.length ∧ hexd (l.getD 0 0) < 16 ∧ hexd (l.getD 1 0) < 16 ∧ hexd (l.getD 2 0) < 16 ∧ hexd (l.getD 3 0) < 16 then
    some (((hexd (l.getD 0 0) * 16 + hexd (l.getD 1 0)) * 16 + hexd (l.getD 2 0)) * 16 + hexd (l.getD 3 0))
  else none
def unitJ (l : Bytes) : Option Nat := if 6 ≤ l.length ∧ l.getD 0 0 = 92 ∧ l.getD 1 0 = 117 then hex4 (l.drop 2) else none
/-- An escape sequence: its rune and its length. -/
def seqJ (l : Bytes) : Option (Nat × Nat) :=
  if l.getD 1 0 = 34 ∨ l.getD 1 0 = 92 ∨ l.getD 1 0 = 47 then some ((l.getD 1 0).toNat, 2)
  else if l.getD 1 0 = 98 then some (8, 2)
  else if l.getD 1 0 = 102 then some (12, 2)
  else if l.getD 1 0 = 110 then some (10, 2)
  else if l.getD 1 0 = 114 then some (13, 2)
  else if l.getD 1 0 = 116 then some (9, 2)
  else match unitJ l with
    | none => none
    | some r =>
      if 56320 ≤ r ∧ r ≤ 57343 then none
      else if r < 55296 ∨ 57343 < r then some (r, 6)
      else match unitJ (l.drop 6) with
        | none => none
        | some m => if m < 56320 ∨ 57343 < m then none else some ((r - 55296) * 1024 + (m - 56320) + 65536, 12)
/-- The string behind an opening quote that stands at a; 'k': bytes that have been read. -/
def jstrS (a : Nat) : Nat → Bytes → Nat → Except (Nat × Nat) (Bytes × Nat)
  | _, [], _ => .error (a, 8)
  | k + 1, _ :: t, n => jstrS a k t (n + 1)
  | 0, c :: t, n =>
    if (dec (c :: t)).2 = 0 then .error (n, 5)
    else if (dec (c :: t)).1 < 32 then .error (n, 6)
    else if (dec (c :: t)).1 = 34 then .ok ([], n + 1)
    else if (dec (c :: t)).1 = 92 then
      (if t = [] then .error (a, 8)
      else match seqJ (c :: t) with
        | none => .error (n, 16)
        | some (r, m) => (jstrS a (m - 1) t (n + 1)).map fun p => (enc r ++ p.1, p.2))
    else (jstrS a ((dec (c :: t)).2 - 1) t (n + 1)).map fun p => (enc (dec (c :: t)).1 ++ p.1, p.2)
/-- A string at a place; it begins with a quote. -/
def jstrAt (l : Bytes) (a : Nat) : Except (Nat × Nat) (Bytes × Nat) :=
  if l.length ≤ a ∨ l.getD a 0 ≠ 34 then .error (a, 7) else jstrS a 0 (l.drop (a + 1)) (a + 1)

theorem hex4_le {l : Bytes} {r : Nat} (h : hex4 l = some r) : r < 65536 ∧ 4 ≤ l.length := by
  unfold hex4 at h
  split at h
  · rename_i hh
    cases h
    omega
  · cases h
theorem unitJ_le {l : Bytes} {r : Nat} (h : unitJ l = some r) : r < 65536 ∧ 6 ≤ l.length := by
  unfold unitJ at h
  split at h
  · rename_i hh
    have := hex4_le h
    omega
  · cases h
theorem seqJ_ok {l : Bytes} {r m : Nat} (hl : 2 ≤ l.length) (h : seqJ l = some (r, m)) : okRune r ∧ 2 ≤ m ∧ m ≤ l.length ∧ m ≤ 12 := by
  unfold seqJ at h
  have hu := u8_lt (l.getD 1 0)
  by_cases h1 : l.getD 1 0 = 34 ∨ l.getD 1 0 = 92 ∨ l.getD 1 0 = 47
  · rw [if_pos h1] at h
    cases h
    exact ⟨.inl (by omega), by omega, hl, by omega⟩
  rw [if_neg h1] at h
  by_cases h2 : l.getD 1 0 = 98
  · rw [if_pos h2] at h; cases h; exact ⟨.inl (by decide), by omega, hl, by omega⟩
  rw [if_neg h2] at h
  by_cases h3 : l.getD 1 0 = 102
  · rw [if_pos h3] at h; cases h; exact ⟨.inl (by decide), by omega, hl, by omega⟩
  rw [if_neg h3] at h
  by_cases h4 : l.getD 1 0 = 110
  · rw [if_pos h4] at h; cases h; exact ⟨.inl (by decide), by omega, hl, by omega⟩
  rw [if_neg h4] at h
  by_cases h5 : l.getD 1 0 = 114
  · rw [if_pos h5] at h; cases h; exact ⟨.inl (by decide), by omega, hl, by omega⟩
  rw [if_neg h5] at h
  by_cases h6 : l.getD 1 0 = 116
  · rw [if_pos h6] at h; cases h; exact ⟨.inl (by decide), by omega, hl, by omega⟩
  rw [if_neg h6] at h
  cases hq : unitJ l with
  | none => rw [hq] at h; cases h
  | some u =>
    rw [hq] at h
    have hu2 := unitJ_le hq
    simp only at h
    split at h
    · cases h
    · split at h
      · cases h
        refine ⟨?_, by omega, by omega, by omega⟩
        unfold okRune; omega
      · cases hw : unitJ (l.drop 6) with
        | none => rw [hw] at h; cases h
        | some v =>
          rw [hw] at h
          have hv := unitJ_le hw
          rw [List.length_drop] at hv
          simp only at h
          split at h
          · cases h
          · cases h
            refine ⟨?_, by omega, by omega, by omega⟩
            unfold okRune; omega
theorem jstrS_skip (a : Nat) : ∀ (k : Nat) (l : Bytes) (n : Nat), k ≤ l.length → jstrS a k l n = jstrS a 0 (l.drop k) (n + k)
  | 0, l, n, _ => by simp
  | k + 1, [], n, h => by simp at h
  | k + 1, c :: l, n, h => by
    rw [jstrS, jstrS_skip a k l (n + 1) (by simpa using h), List.drop_succ_cons, show n + 1 + k = n + (k + 1) by omega]
/-- Where the reading of a string stands: what has been read, and the answer. -/
def StrJ (l : Bytes) (a : Nat) (o : Bytes) (i : Nat) (R : Except (Nat × Nat) (Bytes × Nat)) : Prop := (jstrS a 0 (l.drop i) i).map (fun p => (o ++ p.1, p.2)) = R
theorem map_map_str {o x : Bytes} {R : Except (Nat × Nat) (Bytes × Nat)} : (R.map fun p => (x ++ p.1, p.2)).map (fun p => (o ++ p.1, p.2)) = R.map fun p => ((o ++ x) ++ p.1, p.2) := by
  cases R with
  | error e => rfl
  | ok p => simp [Except.map]
section
variable {l o : Bytes} {a i : Nat} {R : Except (Nat × Nat) (Bytes × Nat)}
theorem StrJ.end_ (h : StrJ l a o i R) (hi : l.length ≤ i) : R = .error (a, 8) := by
  unfold StrJ at h
  rw [List.drop_of_length_le hi, jstrS] at h
  exact h.symm
theorem StrJ.bad (h : StrJ l a o i R) (hi : i < l.length) (hd : (dec (l.drop i)).2 = 0) : R = .error (i, 5) := by
  unfold StrJ at h
  rw [List.drop_eq_getElem_cons hi] at h hd
  rw [jstrS, if_pos hd] at h
  exact h.symm
theorem StrJ.ctl (h : StrJ l a o i R) (hi : i < l.length) (hd : (dec (l.drop i)).2 ≠ 0) (hr : (dec (l.drop i)).1 < 32) : R = .error (i, 6) := by
  unfold StrJ at h
  rw [List.drop_eq_getElem_cons hi] at h hd hr
  rw [jstrS, if_neg hd, if_pos hr] at h
  exact h.symm
theorem StrJ.quote (h : StrJ l a o i R) (hi : i < l.length) (hd : (dec (l.drop i)).2 ≠ 0) (hr : (dec (l.drop i)).1 = 34) : R = .ok (o, i + 1) := by
  unfold StrJ at h
  rw [List.drop_eq_getElem_cons hi] at h hd hr
  rw [jstrS, if_neg hd, if_neg (by omega), if_pos hr] at h
  rw [← h]
  simp [Except.map]
theorem StrJ.last (h : StrJ l a o i R) (hi : i + 1 = l.length) (hd : (dec (l.drop i)).2 ≠ 0) (hr : (dec (l.drop i)).1 = 92) : R = .error (a, 8) := by
  unfold StrJ at h
  have hlt : i < l.length := by omega
  rw [List.drop_eq_getElem_cons hlt] at h hd hr
  rw [jstrS, if_neg hd, if_neg (by omega), if_neg (by omega), if_pos hr, if_pos (List.drop_of_length_le (by omega))] at h
  exact h.symm
theorem StrJ.noseq (h : StrJ l a o i R) (hi : i + 1 < l.length) (hd : (dec (l.drop i)).2 ≠ 0) (hr : (dec (l.drop i)).1 = 92) (hs : seqJ (l.drop i) = none) : R = .error (i, 16) := by
  unfold StrJ at h
  have hlt : i < l.length := by omega
  have hne : l.drop (i + 1) ≠ [] := by
    intro e
    have := congrArg List.length e
    rw [List.length_drop, List.length_nil] at this
    omega
  rw [List.drop_eq_getElem_cons hlt] at h hd hr hs
  rw [jstrS, if_neg hd, if_neg (by omega), if_neg (by omega), if_pos hr, if_neg hne, hs] at h
  exact h.symm
theorem StrJ.seq {r m : Nat} (h : StrJ l a o i R) (hi : i + 1 < l.length) (hd : (dec (l.drop i)).2 ≠ 0) (hr : (dec (l.drop i)).1 = 92) (hs : seqJ (l.drop i) = some (r, m)) : StrJ l a (o ++ enc r) (i + m) R := by
  have hm := seqJ_ok (by rw [List.length_drop]; omega) hs
  rw [List.length_drop] at hm
  unfold StrJ at h ⊢
  have hlt : i < l.length := by omega
  have hne : l.drop (i + 1) ≠ [] := by
    intro e
    have := congrArg List.length e
    rw [List.length_drop, List.length_nil] at this
    omega
  rw [List.drop_eq_getElem_cons hlt] at h hd hr hs
  rw [jstrS, if_neg hd, if_neg (by omega), if_neg (by omega), if_pos hr, if_neg hne, hs] at h
  simp only at h
  rw [jstrS_skip a (m - 1) _ _ (by rw [List.length_drop]; omega), List.drop_drop, map_map_str, show i + 1 + (m - 1) = i + m by omega] at h
  exact h
theorem StrJ.rune (h : StrJ l a o i R) (hi : i < l.length) (hd : (dec (l.drop i)).2 ≠ 0) (h1 : ¬ (dec (l.drop i)).1 < 32) (h2 : (dec (l.drop i)).1 ≠ 34) (h3 : (dec (l.drop i)).1 ≠ 92) : StrJ l a (o ++ enc (dec (l.drop i)).1) (i + (dec (l.drop i)).2) R := by
  have hle := (dec_le (l.drop i)).1
  rw [List.length_drop] at hle
  unfold StrJ at h ⊢
  generalize hg : dec (l.drop i) = g at *
  rw [List.drop_eq_getElem_cons hi] at h hg
  rw [jstrS, hg, if_neg hd, if_neg h1, if_neg h2, if_neg h3] at h
  rw [jstrS_skip a (g.2 - 1) _ _ (by rw [List.length_drop]; omega), List.drop_drop, map_map_str, show i + 1 + (g.2 - 1) = i + g.2 by omega] at h
  exact h
end
/-- Where a string ends and how long it is. -/
theorem jstrS_ok (a : Nat) : ∀ (m k : Nat) (l : Bytes) (n : Nat) (s : Bytes) (e : Nat), l.length ≤ m → jstrS a k l n = .ok (s, e) → n < e ∧ e ≤ n + l.length ∧ s.length ≤ 4 * l.length
  | m, _, [], n, s, e, hm, h => by rw [jstrS] at h; cases h
  | 0, _, c :: t, n, s, e, hm, h => by simp at hm
  | m + 1, k + 1, c :: t, n, s, e, hm, h => by
    rw [jstrS] at h
    have := jstrS_ok a m k t (n + 1) s e (by simpa using hm) h
    simp only [List.length_cons]; omega
  | m + 1, 0, c :: t, n, s, e, hm, h => by
    rw [jstrS] at h
    have el : ∀ r, (enc r).length ≤ 4 := fun r => by unfold enc; (repeat' split) <;> simp
    split at h
    · cases h
    · split at h
      · cases h
      · split at h
        · cases h; simp
        · split at h
          · split at h
            · cases h
            · cases hs : seqJ (c :: t) with
              | none => rw [hs] at h; cases h
              | some q =>
                obtain ⟨r, w⟩ := q
                rw [hs] at h
                simp only at h
                cases hr : jstrS a (w - 1) t (n + 1) with
                | error x => rw [hr] at h; cases h
                | ok p =>
                  obtain ⟨s', e'⟩ := p
                  rw [hr] at h
                  cases h
                  have := jstrS_ok a m _ t (n + 1) s' e' (by simpa using hm) hr
                  have := el r
                  simp only [List.length_cons, List.length_append]; omega
          · cases hr : jstrS a ((dec (c :: t)).2 - 1) t (n + 1) with
            | error x => rw [hr] at h; cases h
            | ok p =>
              obtain ⟨s', e'⟩ := p
              rw [hr] at h
              cases h
              have := jstrS_ok a m _ t (n + 1) s' e' (by simpa using hm) hr
              have := el (dec (c :: t)).1
              simp only [List.length_cons, List.length_append]; omega
theorem jstrAt_ok {l : Bytes} {a : Nat} {s : Bytes} {e : Nat} (h : jstrAt l a = .ok (s, e)) : a < e ∧ e ≤ l.length ∧ s.length ≤ 4 * l.length := by
  unfold jstrAt at h
  split at h
  · cases h
  · rename_i hh
    have := jstrS_ok a _ 0 (l.drop (a + 1)) (a + 1) s e (Nat.le_refl _) h
    rw [List.length_drop] at this
    omega
theorem jstrS_err (a N : Nat) : ∀ (m k : Nat) (l : Bytes) (n : Nat) (q : Nat × Nat), l.length ≤ m → a ≤ N → n + l.length ≤ N → jstrS a k l n = .error q → q.1 ≤ N ∧ q.2 ≠ 0
  | m, _, [], n, q, hm, ha, hN, h => by rw [jstrS] at h; cases h; exact ⟨ha, by simp⟩
  | 0, _, c :: t, n, q, hm, ha, hN, h => by simp at hm
  | m + 1, k + 1, c :: t, n, q, hm, ha, hN, h => by
    rw [jstrS] at h
    exact jstrS_err a N m k t (n + 1) q (by simpa using hm) ha (by simp only [List.length_cons] at hN; omega) h
  | m + 1, 0, c :: t, n, q, hm, ha, hN, h => by
    rw [jstrS] at h
    simp only [List.length_cons] at hN
    split at h
    · cases h; exact ⟨by simp only; omega, by simp⟩
    · split at h
      · cases h; exact ⟨by simp only; omega, by simp⟩
      · split at h
        · cases h
        · split at h
          · split at h
            · cases h; exact ⟨ha, by simp⟩
            · cases hs : seqJ (c :: t) with
              | none => rw [hs] at h; cases h; exact ⟨by simp only; omega, by simp⟩
              | some p =>
                obtain ⟨r, w⟩ := p
                rw [hs] at h
                simp only at h
                cases hr : jstrS a (w - 1) t (n + 1) with
                | error x =>
                  rw [hr] at h; cases h
                  exact jstrS_err a N m _ t (n + 1) _ (by simpa using hm) ha (by omega) hr
                | ok p => rw [hr] at h; cases h
          · cases hr : jstrS a ((dec (c :: t)).2 - 1) t (n + 1) with
            | error x =>
              rw [hr] at h; cases h
              exact jstrS_err a N m _ t (n + 1) _ (by simpa using hm) ha (by omega) hr
            | ok p => rw [hr] at h; cases h
theorem jstrAt_err {l : Bytes} {a : Nat} {q : Nat × Nat} (ha : a ≤ l.length) (h : jstrAt l a = .error q) : q.1 ≤ l.length ∧ q.2 ≠ 0 := by
  unfold jstrAt at h
  split at h
  · cases h; exact ⟨ha, by simp⟩
  · rename_i hh
    exact jstrS_err a l.length _ 0 _ (a + 1) q (Nat.le_refl _) ha (by rw [List.length_drop]; omega) h
end Go.Proofs.YthlppbpccldikaaDoor
set_option linter.unusedVariables false
namespace Go.Proofs.YthlppbpccldikaaDoor

theorem has_one {l : Bytes} {n : Nat} {c : UInt8} : hasAt l n [c] = true ↔ ∃ h : n < l.length, l[n] = c := by
  rw [hasAt_take, beq_iff_eq]
  constructor
  · intro h
    have hl : n < l.length := by
      have := congrArg List.length h
      simp at this; omega
    refine ⟨hl, ?_⟩
    rw [List.drop_eq_getElem_cons hl, List.length_singleton, List.take_succ_cons, List.take_zero] at h
    exact (List.cons.inj h).1
  · rintro ⟨h, e⟩
    rw [List.drop_eq_getElem_cons h]; simp [e]
theorem drop_sh (p l : Bytes) (n : Nat) : (p ++ l).drop (p.length + n) = l.drop n := by
  rw [← List.drop_drop, List.drop_left]
theorem take_sh (p l : Bytes) (n : Nat) : (p ++ l).take (p.length + n) = p ++ l.take n := by
  rw [List.take_append, List.take_of_length_le (by omega)]; simp
theorem drop_app {l : Bytes} {n : Nat} (h : n ≤ l.length) (y : Bytes) : (l ++ y).drop n = l.drop n ++ y := List.drop_append_of_le_length h
theorem dec_low {a : UInt8} (h : a.toNat < 128) (t : Bytes) : dec (a :: t) = (a.toNat, 1) := by
  simp [dec, h]
theorem dec_app {l : Bytes} (h : (dec l).2 ≠ 0) (y : Bytes) : dec (l ++ y) = dec l := by
  have h1 := dec_enc l h
  have h2 := (dec_le l).1
  have e : l ++ y = enc (dec l).1 ++ (l.drop (dec l).2 ++ y) := by rw [h1.2, ← List.append_assoc, List.take_append_drop]
  have e2 : (enc (dec l).1).length = (dec l).2 := by rw [h1.2, List.length_take]; omega
  have e3 := enc_dec h1.1 (l.drop (dec l).2 ++ y)
  rw [← e, e2] at e3
  exact e3
theorem run_app {p : UInt8 → Bool} (y : Bytes) : ∀ {x : Bytes}, run p x < x.length → run p (x ++ y) = run p x
  | [], h => by simp at h
  | c :: x, h => by
    rw [List.cons_append, run, run]
    split
    · rename_i hc
      rw [run, if_pos hc] at h
      rw [run_app y (by simpa using h)]
    · rfl
theorem spEnd_app {l : Bytes} {n : Nat} (y : Bytes) (h : spEnd l n < l.length) : spEnd (l ++ y) n = spEnd l n := by
  have := spEnd_ge l n
  unfold spEnd at h this ⊢
  rw [drop_app (by omega), run_app y (by rw [List.length_drop]; omega)]
theorem getD_app {l : Bytes} {n : Nat} (y : Bytes) (h : n < l.length) : (l ++ y).getD n 0 = l.getD n 0 := by
  rw [List.getD_eq_getElem?_getD, List.getD_eq_getElem?_getD, List.getElem?_append_left h]
theorem hasAt_app {l : Bytes} {n : Nat} {t : Bytes} (y : Bytes) (h : n + t.length ≤ l.length) : hasAt (l ++ y) n t = hasAt l n t := by
  rw [hasAt_take, hasAt_take, drop_app (by omega), List.take_append_of_le_length (by rw [List.length_drop]; omega)]
theorem hasAt_yes {l : Bytes} {n : Nat} {t : Bytes} (y : Bytes) (ht : t ≠ []) (h : hasAt l n t = true) : hasAt (l ++ y) n t = true := by
  rcases hasAt_le h with h1 | h1
  · rw [hasAt_app y (by omega)]; exact h
  · exact absurd h1 ht
theorem hasAt_sh (p l : Bytes) (n : Nat) (t : Bytes) : hasAt (p ++ l) (p.length + n) t = hasAt l n t := by unfold hasAt; rw [drop_sh]
theorem spEnd_sh (p l : Bytes) (n : Nat) : spEnd (p ++ l) (p.length + n) = p.length + spEnd l n := by unfold spEnd; rw [drop_sh, Nat.add_assoc]
theorem getD_sh (p l : Bytes) (n : Nat) : (p ++ l).getD (p.length + n) 0 = l.getD n 0 := by
  rw [List.getD_eq_getElem?_getD, List.getD_eq_getElem?_getD, List.getElem?_append_right (by omega), Nat.add_sub_cancel_left]
theorem drop_add {l x y : Bytes} {n : Nat} (h : l.drop n = x ++ y) : l.drop (n + x.length) = y := by
  rw [← List.drop_drop, h, List.drop_left]
theorem drop_one {l y : Bytes} {c : UInt8} {n : Nat} (h : l.drop n = c :: y) : l.drop (n + 1) = y := drop_add (x := [c]) h
theorem drop_len {l x : Bytes} {n : Nat} (h : l.drop n = x) (hx : x ≠ []) : l.length = n + x.length := by
  have := congrArg List.length h
  rw [List.length_drop] at this
  have := List.length_pos_iff.2 hx
  omega
theorem hasAt_drop {l y t : Bytes} {n : Nat} (h : l.drop n = y) : hasAt l n t = t.isPrefixOf y := by unfold hasAt; rw [h]
theorem getD_drop {l y : Bytes} {c : UInt8} {n : Nat} (h : l.drop n = c :: y) : l.getD n 0 = c := by
  have : l[n]? = some c := by
    have := congrArg (fun z : Bytes => z[0]?) h
    simpa using this
  rw [List.getD_eq_getElem?_getD, this]; rfl
theorem spEnd_at {l y : Bytes} {c : UInt8} {n : Nat} (h : l.drop n = c :: y) (hc : isSp c = false) : spEnd l n = n := by
  unfold spEnd
  rw [h, run, if_neg (by rw [hc]; decide)]; rfl
theorem spEnd_yes {l : Bytes} {n : Nat} (hn : n < l.length) (h : isSp l[n] = true) : spEnd l n = spEnd l (n + 1) := by
  unfold spEnd; rw [run_yes hn h]; omega
theorem spEnd_no {l : Bytes} {n : Nat} (hn : n < l.length) (h : isSp l[n] = false) : spEnd l n = n := by
  unfold spEnd; rw [run_no hn h]; omega
theorem spEnd_end (l : Bytes) : spEnd l l.length = l.length := by unfold spEnd; rw [run_end]; omega
end Go.Proofs.YthlppbpccldikaaDoor
set_option linter.unusedVariables false
namespace Go.Proofs.YthlppbpccldikaaDoor
open Go.RowKit


end Go.Proofs.YthlppbpccldikaaDoor
set_option linter.unusedVariables false
namespace Go.Proofs.YthlppbpccldikaaDoor
open Go.RowKit

def optI : Option Nat → Int
  | none => -1
  | some r => r
/-- As hex4, digit by digit. -/
def hexF : Nat → Bytes → Nat → Option Nat
  | 0, _, v => some v
  | _ + 1, [], _ => none
  | k + 1, c :: t, v => if hexd c < 16 then hexF k t (v * 16 + hexd c) else none
theorem hex4_F (l : Bytes) (h : 4 ≤ l.length) : hexF 4 l 0 = hex4 l := by
  obtain ⟨a, b, c, d, t, rfl⟩ : ∃ a b c d t, l = a :: b :: c :: d :: t := by
    match l, h with
    | a :: b :: c :: d :: t, _ => exact ⟨a, b, c, d, t, rfl⟩
  by_cases h1 : hexd a < 16 <;> by_cases h2 : hexd b < 16 <;> by_cases h3 : hexd c < 16 <;> by_cases h4 : hexd d < 16 <;> simp [hexF, hex4, h1, h2, h3, h4]
theorem hexF_step {l : Bytes} {i k v : Nat} {R : Option Nat} (h : hexF (k + 1) (l.drop i) v = R) (hi : i < l.length) (hd : hexd l[i] < 16) : hexF k (l.drop (i + 1)) (v * 16 + hexd l[i]) = R := by
  rw [List.drop_eq_getElem_cons hi, hexF, if_pos hd] at h
  exact h
theorem hexF_bad {l : Bytes} {i k v : Nat} {R : Option Nat} (h : hexF (k + 1) (l.drop i) v = R) (hi : i < l.length) (hd : ¬ hexd l[i] < 16) : R = none := by
  rw [List.drop_eq_getElem_cons hi, hexF, if_neg hd] at h
  exact h.symm
theorem hexd_cases (c : UInt8) : (48 ≤ c.toNat ∧ c.toNat ≤ 57 ∧ hexd c + 48 = c.toNat) ∨ (97 ≤ c.toNat ∧ c.toNat ≤ 102 ∧ hexd c + 87 = c.toNat) ∨ (65 ≤ c.toNat ∧ c.toNat ≤ 70 ∧ hexd c + 55 = c.toNat) ∨ (¬ (48 ≤ c.toNat ∧ c.toNat ≤ 57) ∧ ¬ (97 ≤ c.toNat ∧ c.toNat ≤ 102) ∧ ¬ (65 ≤ c.toNat ∧ c.toNat ≤ 70) ∧ ¬ hexd c < 16) := by
  unfold hexd
  (repeat' split) <;> omega
theorem hex4_short {l : Bytes} {a : Nat} (h : l.length < a + 4) : hex4 (l.drop a) = none := by
  unfold hex4; rw [if_neg (by rw [List.length_drop]; omega)]

theorem unitJ_no {l : Bytes} (h : ¬ (6 ≤ l.length ∧ l.getD 0 0 = 92 ∧ l.getD 1 0 = 117)) : unitJ l = none := by unfold unitJ; rw [if_neg h]
theorem unitJ_yes {l : Bytes} (h : 6 ≤ l.length ∧ l.getD 0 0 = 92 ∧ l.getD 1 0 = 117) : unitJ l = hex4 (l.drop 2) := by unfold unitJ; rw [if_pos h]
def seqI : Option (Nat × Nat) → Nat × Nat
  | none => (0, 0)
  | some p => p
theorem seqJ_esc {l : Bytes} {r : Nat} (c : UInt8) (h : l.getD 1 0 = c) (k : (c = 34 ∨ c = 92 ∨ c = 47) ∧ r = c.toNat ∨ c = 98 ∧ r = 8 ∨ c = 102 ∧ r = 12 ∨ c = 110 ∧ r = 10 ∨ c = 114 ∧ r = 13 ∨ c = 116 ∧ r = 9) : seqJ l = some (r, 2) := by
  unfold seqJ
  rw [h]
  rcases k with ⟨e | e | e, d⟩ | ⟨e, d⟩ | ⟨e, d⟩ | ⟨e, d⟩ | ⟨e, d⟩ | ⟨e, d⟩ <;> subst e <;> subst d <;> rfl
/-- What an escape of units gives. -/
def seqU (l : Bytes) : Option (Nat × Nat) :=
  match unitJ l with
    | none => none
    | some r =>
      if 56320 ≤ r ∧ r ≤ 57343 then none
      else if r < 55296 ∨ 57343 < r then some (r, 6)
      else match unitJ (l.drop 6) with
        | none => none
        | some m => if m < 56320 ∨ 57343 < m then none else some ((r - 55296) * 1024 + (m - 56320) + 65536, 12)
theorem seqJ_U {l : Bytes} {c : UInt8} (h : l.getD 1 0 = c) (h0 : c ≠ 34 ∧ c ≠ 92 ∧ c ≠ 47 ∧ c ≠ 98 ∧ c ≠ 102 ∧ c ≠ 110 ∧ c ≠ 114 ∧ c ≠ 116) : seqJ l = seqU l := by
  unfold seqJ seqU
  obtain ⟨h1, h2, h3, h4, h5, h6, h7, h8⟩ := h0
  rw [h, if_neg (by rintro (q | q | q) <;> contradiction), if_neg h4, if_neg h5, if_neg h6, if_neg h7, if_neg h8] <;> rfl
end Go.Proofs.YthlppbpccldikaaDoor
set_option linter.unusedVariables false
namespace Go.Proofs.YthlppbpccldikaaDoor
open Go.RowKit

theorem i32_or_nat (x y : Nat) (hx : x < 65536) (hy : y < 65536) : bits .or .i32 (x : Int) (y : Int) = ((x ||| y : Nat) : Int) := by
  have h : x ||| y < 2 ^ 16 := Nat.or_lt_two_pow (n := 16) (by omega) (by omega)
  have e1 : (BitVec.ofInt 32 (x : Int)).toNat = x := by simp; omega
  have e2 : (BitVec.ofInt 32 (y : Int)).toNat = y := by simp; omega
  unfold bits
  show IntKind.i32.wrap (((BitVec.ofInt 32 (x : Int) ||| BitVec.ofInt 32 (y : Int)).toNat : Nat) : Int) = _
  rw [BitVec.toNat_or, e1, e2]
  unfold IntKind.wrap
  simp [IntKind.bits, IntKind.signed]
  omega
theorem i32_hex (v d : Nat) (hv : v < 4096) (hd : d < 16) : bits .or .i32 ((v : Int) * 16) (d : Int) = ((v * 16 + d : Nat) : Int) := by
  have e : ((v : Int) * 16) = ((v * 16 : Nat) : Int) := by omega
  rw [e, i32_or_nat _ _ (by omega) (by omega)]
  have := Nat.two_pow_add_eq_or_of_lt (i := 4) (b := d) (by omega) v
  rw [show v * 16 = 2 ^ 4 * v by omega, ← this]
/-- A byte with its letter made small. -/
def lowH (n : Nat) : Nat := if 65 ≤ n ∧ n ≤ 70 then n + 32 else n
theorem indexH : ∀ n < 256, Lib.indexByte [48, 49, 50, 51, 52, 53, 54, 55, 56, 57, 97, 98, 99, 100, 101, 102] (UInt8.ofNat (lowH n)) = if hexd (UInt8.ofNat n) < 16 then (hexd (UInt8.ofNat n) : Int) else -1 := by decide +kernel
set_option maxHeartbeats 4000000 in
set_option maxRecDepth 100000 in
theorem unit10_any (l : Bytes) (w : World) (hl : l.length ≤ 1000000000) :
    Calls Tryd.prog 68 #[.string (S l)] w fun e w' => e = .returned (.tuple #[.int .i32 (((unitJ l).getD 0 : Nat) : Int), .bool (unitJ l).isSome]) ∧ Below w.heap.size w w' := by
  by_cases hs : l.length < 6
  · rw [unitJ_no (by omega)]
    go_enter Tryd.func68, Tryd.ntmps68
    go_wp2
    go_ret2
    exact ⟨rfl, Below.refl _ _⟩
  · have h1 : 0 < l.length := by omega
    have h2 : 1 < l.length := by omega
    have e0 : l.getD 0 0 = l[0] := by rw [List.getD_eq_getElem?_getD, List.getElem?_eq_getElem h1]; rfl
    have e1 : l.getD 1 0 = l[1] := by rw [List.getD_eq_getElem?_getD, List.getElem?_eq_getElem h2]; rfl
    have et : List.take 2 l = [l[0], l[1]] := by
      match l, h2 with
      | a :: b :: t, _ => rfl
    by_cases hc : l[0] = 92 ∧ l[1] = 117
    · have t2 : (List.take 2 l == [92, 117]) = true := by rw [et, hc.1, hc.2]; rfl
      rw [unitJ_yes ⟨by omega, by rw [e0]; exact hc.1, by rw [e1]; exact hc.2⟩, ← hex4_F _ (by rw [List.length_drop]; omega)]
      have hcv := Lib.run_convert_string_bytes (P := Tryd.prog) w 9 34 5 (S (List.take 4 (List.drop 2 l))) (u := .string) Tryd.underlying9 Tryd.underlying34 Tryd.underlying5
      have hB : Below w.heap.size w (Lib.bytesWorld w 5 (S (List.take 4 (List.drop 2 l)))) := ⟨rfl, rfl, rfl, by rw [Lib.bytesWorld_size]; omega, fun k hk => Lib.bytesWorld_at_old w _ _ k hk⟩
      have hcell := fun j (hj : j < 4) => Lib.bytesWorld_cell w 5 (S (List.take 4 (List.drop 2 l))) j (by simp [S, ByteArray.size]; omega)
      have hsz : (S (List.take 4 (List.drop 2 l))).size = 4 := by simp [S, ByteArray.size]; omega
      rw [hsz] at hcv
      generalize Lib.bytesWorld w 5 (S (List.take 4 (List.drop 2 l))) = WB at *
      have hs' : ¬ (l.length : Int) < 6 := by omega
      have h6 : 6 ≤ l.length := by omega
      have hge : ∀ j (hj : j < 4), (List.take 4 (List.drop 2 l)).getD j 0 = l[2 + j]'(by omega) := fun j hj => by
        rw [List.getD_eq_getElem?_getD, List.getElem?_take, if_pos hj, List.getElem?_drop, List.getElem?_eq_getElem (by omega)]
        rfl
      have HCE : Hid (∀ j (hj : j < 4), WB.cell? ⟨w.heap.size, j, none⟩ = some (.int .u8 (l[2 + j]'(by omega)).toNat)) := fun j hj => by
        rw [← hge j hj]
        exact hcell j hj
      have HB := Lib.hid hB
      have hix := fun (c : Nat) (hc : c < 256) => indexH c hc
      have HIX := Lib.hid hix
      obtain ⟨R, hR⟩ : ∃ R, hexF 4 (List.drop 2 l) 0 = R := ⟨_, rfl⟩
      rw [hR]
      have HR := Lib.hid hR
      clear e0 e1 et hc hge hcell hB hix hR hsz
      go_enter Tryd.func68, Tryd.ntmps68
      go_upto_region 5 with fail
      have d1 : decide ((l.length : Int) < 6) = false := by simpa using hs'
      try simp only [d1, t2, Bool.not_true, Bool.or_false]
      go_loop [4, 20] (fun v4 i20 => ∃ i v : Nat, i ≤ 4 ∧ v4 = .int .i32 v ∧ i20 = .int .i64 i ∧ v < 16 ^ i ∧ hexF (4 - i) (l.drop (2 + i)) v = R) (fun _ i20 => 4 - (intOf i20).toNat)
      case atStart => exact ⟨0, 0, Nat.zero_le _, rfl, rfl, by decide, HR.out⟩
      case round =>
        obtain ⟨i, v, hil, rfl, rfl, hv, hi⟩ := hrel
        by_cases hlt : i < 4
        · have hv2 : v < 4096 := Nat.lt_of_lt_of_le hv (Nat.pow_le_pow_right (by decide) (show i ≤ 3 by omega))
          have hv3 : ∀ d < 16, v * 16 + d < 16 ^ (i + 1) := fun d hd => by rw [Nat.pow_succ]; omega
          rw [show 4 - i = (4 - (i + 1)) + 1 by omega] at hi
          have hin : 2 + i < l.length := by omega
          have HI := Lib.hid hi
          have HV := Lib.hid hv3
          have hce := HCE.out i hlt
          have hq := u8_lt l[2 + i]
          have hih := HIX.out l[2 + i].toNat hq
          rw [UInt8.ofNat_toNat] at hih
          obtain ⟨c, hcd⟩ : ∃ c : Nat, l[2 + i].toNat = c := ⟨_, rfl⟩
          obtain ⟨d, hdd⟩ : ∃ d, hexd l[2 + i] = d := ⟨_, rfl⟩
          rw [hcd] at hce hq
          rw [hcd, hdd] at hih
          have HD := Lib.hid hdd
          have HIH := Lib.hid hih
          clear hdd hi hv hv3 HR hih hcd
          have hway : (65 ≤ c ∧ c ≤ 70) ∨ c < 65 ∨ (¬ c < 65 ∧ 70 < c) := by omega
          have hlow : ∃ c2, lowH c = c2 ∧ c2 < 256 ∧ ((65 ≤ c ∧ c ≤ 70 → c2 = c + 32) ∧ (¬ (65 ≤ c ∧ c ≤ 70) → c2 = c)) := ⟨lowH c, rfl, by unfold lowH; split <;> omega, by unfold lowH; constructor <;> intro h; rw [if_pos h]; rw [if_neg h]⟩
          obtain ⟨c2, hc2, hc3, hc4, hc5⟩ := hlow
          have hidx : ∀ W, Calls Tryd.prog 78 #[.string ⟨#[48, 49, 50, 51, 52, 53, 54, 55, 56, 57, 97, 98, 99, 100, 101, 102]⟩, .int .u8 (c2 : Int)] W fun e w' => e = .returned (.int .i64 (if d < 16 then (d : Int) else -1)) ∧ w' = W := fun W => by
            refine (Tryd.strings_IndexByte _ (c2 : Int) W).mono ?_
            rintro e w' ⟨rfl, rfl⟩
            refine ⟨?_, rfl⟩
            have := HIH.out
            rw [hc2] at this
            rw [← this]
            rfl
          have HX := Lib.hid hidx
          clear hidx HIH
          by_cases hd : d < 16
          · rw [if_pos hd] at HX
            have HO := Lib.hid (i32_hex v d hv2 hd)
            rcases hway with ⟨h1, h2⟩ | h1 | ⟨h1, h2⟩
            · obtain rfl : c2 = c + 32 := hc4 ⟨h1, h2⟩
              clear hc4 hc5 hc2
              go_wp2_with (go_at_call 78; refine (HX.out _).mono ?_; rintro e w' ⟨rfl, hw'⟩; subst hw')
              go_round
              case rel => exact ⟨i + 1, v * 16 + d, by omega, val_int HO.out, by go_num, HV.out d hd, by have := hexF_step HI.out hin (by rw [HD.out]; exact hd); rw [HD.out] at this; exact this⟩
              case measure => simp [intOf]; omega
            · obtain rfl : c2 = c := hc5 (by omega)
              clear hc4 hc5 hc2
              go_wp2_with (go_at_call 78; refine (HX.out _).mono ?_; rintro e w' ⟨rfl, hw'⟩; subst hw')
              go_round
              case rel => exact ⟨i + 1, v * 16 + d, by omega, val_int HO.out, by go_num, HV.out d hd, by have := hexF_step HI.out hin (by rw [HD.out]; exact hd); rw [HD.out] at this; exact this⟩
              case measure => simp [intOf]; omega
            · obtain rfl : c2 = c := hc5 (by omega)
              clear hc4 hc5 hc2
              go_wp2_with (go_at_call 78; refine (HX.out _).mono ?_; rintro e w' ⟨rfl, hw'⟩; subst hw')
              go_round
              case rel => exact ⟨i + 1, v * 16 + d, by omega, val_int HO.out, by go_num, HV.out d hd, by have := hexF_step HI.out hin (by rw [HD.out]; exact hd); rw [HD.out] at this; exact this⟩
              case measure => simp [intOf]; omega
          · rw [if_neg hd] at HX
            rcases hway with ⟨h1, h2⟩ | h1 | ⟨h1, h2⟩
            · obtain rfl : c2 = c + 32 := hc4 ⟨h1, h2⟩
              clear hc4 hc5 hc2
              go_wp2_with (go_at_call 78; refine (HX.out _).mono ?_; rintro e w' ⟨rfl, hw'⟩; subst hw')
              go_ret2
              exact ⟨by rw [hexF_bad HI.out hin (by rw [HD.out]; exact hd)]; rfl, HB.out⟩
            · obtain rfl : c2 = c := hc5 (by omega)
              clear hc4 hc5 hc2
              go_wp2_with (go_at_call 78; refine (HX.out _).mono ?_; rintro e w' ⟨rfl, hw'⟩; subst hw')
              go_ret2
              exact ⟨by rw [hexF_bad HI.out hin (by rw [HD.out]; exact hd)]; rfl, HB.out⟩
            · obtain rfl : c2 = c := hc5 (by omega)
              clear hc4 hc5 hc2
              go_wp2_with (go_at_call 78; refine (HX.out _).mono ?_; rintro e w' ⟨rfl, hw'⟩; subst hw')
              go_ret2
              exact ⟨by rw [hexF_bad HI.out hin (by rw [HD.out]; exact hd)]; rfl, HB.out⟩
        · obtain rfl : i = 4 := by omega
          have HI := Lib.hid hi
          clear hi
          go_wp2
          go_ret2
          exact ⟨by rw [← HI.out]; rfl, HB.out⟩
    · rw [unitJ_no (by rw [e0, e1]; rintro ⟨_, q⟩; exact hc q)]
      have t2 : (List.take 2 l == [92, 117]) = false := by
        rw [beq_eq_false_iff_ne, et]
        intro q
        simp only [List.cons.injEq, and_true] at q
        exact hc q
      have hs' : ¬ (l.length : Int) < 6 := by omega
      clear e0 e1 et hc
      go_enter Tryd.func68, Tryd.ntmps68
      go_wp2_with fail
      go_ret2
      exact ⟨rfl, Below.refl _ _⟩
end Go.Proofs.YthlppbpccldikaaDoor
set_option linter.unusedVariables false
namespace Go.Proofs.YthlppbpccldikaaDoor
open Go.RowKit

/-- A kind of element: its type, the slices' type, cells, bytes, and what its cells are. -/
structure Elt (α : Type) where
  T : TypeId
  TS : TypeId
  c : Nat
  bytes : Nat
  zero : Value
  El : World → (Nat → Prop) → α → List Value → Prop
structure Elt.Ok {α : Type} (E : Elt α) : Prop where
  info : (Tryd.prog.info? E.T).map (fun i => (i.zero, i.size, i.bytes)) = some (some E.zero, E.c, E.bytes)
  list : Tryd.prog.underlying E.TS = some (.slice E.T)
  zc : E.zero.cells.size = E.c
  pos : 0 < E.c
  small : E.bytes ≤ 1400
  keep : ∀ {w w' : World} {p p' : Nat → Prop} {a : α} {cs : List Value}, E.El w p a cs → (∀ k, p k → w'.heap[k]? = w.heap[k]?) → (∀ k, p k → p' k) → E.El w' p' a cs
  len : ∀ {w : World} {p : Nat → Prop} {a : α} {cs : List Value}, E.El w p a cs → cs.length = E.c
  one : ∀ {w : World} {p : Nat → Prop} {a : α} {cs : List Value}, E.El w p a cs → ∀ u ∈ cs, u.oneCell' = true

/-- The value v is a slice of these elements; all lies in blocks that satisfy p. -/
def ElsP {α : Type} (E : Elt α) (w : World) (p : Nat → Prop) (v : Value) (l : List α) : Prop :=
  ∃ A cap, v = .slice A l.length cap ∧ l.length ≤ cap ∧ (l = [] ∨ ∃ b off, A = some ⟨b, off, none⟩ ∧ p b ∧ ∀ (i : Nat) a, l[i]? = some a → ∃ cs, E.El w p a cs ∧ w.rangeAt b (off + i * E.c) cs)
/-- A slice that the call has built itself, in a block of its own from 'base' on; what its elements hold lies in blocks that satisfy p. -/
def ElRow {α : Type} (E : Elt α) (w : World) (base : Nat) (p : Nat → Prop) (v : Value) (l : List α) : Prop :=
  ∃ css : List (List Value), css.length = l.length ∧ (∀ (i : Nat) a cs, l[i]? = some a → css[i]? = some cs → E.El w p a cs) ∧ w.ownsRow base E.T E.c v l.length css.flatten

section
variable {α : Type} {E : Elt α} {w w' : World} {p p' : Nat → Prop} {v : Value} {l : List α} {base : Nat}
theorem ElsP.keep (hE : E.Ok) (h : ElsP E w p v l) (hb : ∀ k, p k → w'.heap[k]? = w.heap[k]?) (hp : ∀ k, p k → p' k) : ElsP E w' p' v l := by
  obtain ⟨A, cap, hv, hc, h⟩ := h
  refine ⟨A, cap, hv, hc, h.imp id ?_⟩
  rintro ⟨b, off, hA, hlt, hr⟩
  refine ⟨b, off, hA, hp b hlt, fun i a hi => ?_⟩
  obtain ⟨cs, h1, h2⟩ := hr i a hi
  exact ⟨cs, hE.keep h1 hb hp, rangeAt_keep h2 (hb b hlt)⟩
theorem ElsP.nil (E : Elt α) (w : World) (p : Nat → Prop) : ElsP E w p (.slice none 0 0) [] := ⟨none, 0, rfl, Nat.le_refl _, .inl rfl⟩
theorem ElsP.slice (h : ElsP E w p v l) : ∃ A cap, v = .slice A l.length cap ∧ l.length ≤ cap := by
  obtain ⟨A, cap, hv, hc, _⟩ := h; exact ⟨A, cap, hv, hc⟩
theorem ElsP.at_ {A : Option Addr} {n cap i : Nat} (h : ElsP E w p (.slice A n cap) l) (hi : i < l.length) :
    ∃ b off cs, A = some ⟨b, off, none⟩ ∧ p b ∧ w.rangeAt b (off + i * E.c) cs ∧ E.El w p l[i] cs := by
  obtain ⟨A', cap', hv, _, h⟩ := h
  cases hv
  rcases h with h | ⟨b, off, hA, hlt, hr⟩
  · subst h; simp at hi
  · obtain ⟨cs, h1, h2⟩ := hr i _ (List.getElem?_eq_getElem hi)
    exact ⟨b, off, cs, hA, hlt, h2, h1⟩
theorem ElRow.nil (E : Elt α) (w : World) (base : Nat) (p : Nat → Prop) : ElRow E w base p (.slice none 0 0) [] := ⟨[], rfl, by simp, World.ownsRow_nil w base _ _⟩
theorem ElRow.fresh (E : Elt α) (w : World) (base : Nat) (p : Nat → Prop) (hb : base ≤ w.heap.size) : ElRow E (w.alloc (.cells #[] E.T)) base p (.slice (some ⟨w.heap.size, 0, none⟩) 0 0) [] :=
  ⟨[], rfl, by simp, by simp, .inr ⟨w.heap.size, 0, #[], rfl, hb, heap_alloc_new w _, Nat.le_refl _, by decide, by simp, by simp⟩⟩
theorem ElRow.below (hE : E.Ok) (h : ElRow E w base p v l) (hb : Below w.heap.size w w') (hp : ∀ k, p k → k < w.heap.size) : ElRow E w' base p v l := by
  obtain ⟨css, h1, h2, h3⟩ := h
  exact ⟨css, h1, fun i k cs hk hc => hE.keep (h2 i k cs hk hc) (fun j hj => hb.block j (hp j hj)) (fun _ h => h), ownsRow_below h3 hb⟩
theorem ElRow.heap (hE : E.Ok) (h : ElRow E w base p v l) (hb : ∀ k, v.ownBlock = some k → w'.heap[k]? = w.heap[k]?) (hp : ∀ k, p k → w'.heap[k]? = w.heap[k]?) : ElRow E w' base p v l := by
  obtain ⟨css, h1, h2, h3⟩ := h
  exact ⟨css, h1, fun i k cs hk hc => hE.keep (h2 i k cs hk hc) hp (fun _ h => h), ownsRow_heap h3 hb⟩
theorem ElRow.more (hE : E.Ok) (h : ElRow E w base p v l) (hp : ∀ k, p k → p' k) : ElRow E w base p' v l := by
  obtain ⟨css, h1, h2, h3⟩ := h
  exact ⟨css, h1, fun i k cs hk hc => hE.keep (h2 i k cs hk hc) (fun _ _ => rfl) hp, h3⟩
theorem ElRow.base_ {base' : Nat} (h : ElRow E w base p v l) (hb : base' ≤ base) : ElRow E w base' p v l := by
  obtain ⟨css, h1, h2, h3⟩ := h
  exact ⟨css, h1, h2, ownsRow_base h3 hb⟩
theorem ElRow.lt (h : ElRow E w base p v l) : ∀ k, v.ownBlock = some k → base ≤ k ∧ k < w.heap.size := by
  obtain ⟨css, _, _, h3⟩ := h; exact h3.lt
theorem ElRow.slice (h : ElRow E w base p v l) : ∃ A cap, v = .slice A l.length cap ∧ l.length ≤ cap := by
  obtain ⟨css, _, _, h⟩ := h
  rcases h.2 with ⟨hv, hn⟩ | ⟨g, cap, cur, hv, _, _, hc, _⟩
  · exact ⟨none, 0, by rw [hv, hn], by omega⟩
  · exact ⟨_, cap, hv, hc⟩
theorem ElRow.elsP (hE : E.Ok) (h : ElRow E w base p v l) (hp : ∀ k, p k → p' k) (hr : ∀ k, v.ownBlock = some k → p' k) : ElsP E w p' v l := by
  obtain ⟨css, hl, hin, h⟩ := h
  rcases h.2 with ⟨hv, hn⟩ | ⟨g, cap, cur, hv, hg, hh, hc, _⟩
  · have : l = [] := List.eq_nil_of_length_eq_zero hn
    subst this
    exact ⟨none, 0, hv, by simp, .inl rfl⟩
  · have hlen : ∀ cs ∈ css, cs.length = E.c := fun cs hcs => by
      obtain ⟨i, hi⟩ := List.getElem?_of_mem hcs
      have hik : i < l.length := by rw [← hl]; exact (List.getElem?_eq_some_iff.1 hi).1
      exact hE.len (hin i _ cs (List.getElem?_eq_getElem hik) hi)
    refine ⟨_, cap, hv, hc, .inr ⟨g, 0, rfl, hr g (by rw [hv]; rfl), fun i k hi => ?_⟩⟩
    have hik : i < css.length := by rw [hl]; exact (List.getElem?_eq_some_iff.1 hi).1
    refine ⟨css[i], hE.keep (hin i k _ hi (List.getElem?_eq_getElem hik)) (fun _ _ => rfl) hp, fun j u hu => ?_⟩
    have hj : j < E.c := by have := (List.getElem?_eq_some_iff.1 hu).1; rw [hlen _ (List.getElem_mem hik)] at this; exact this
    have hx := flat_at (c := E.c) (css := css) hlen (i := i) (j := j) (List.getElem?_eq_getElem hik) hj
    have := h.cells (g := g) (by rw [hv]; rfl) (i * E.c + j) u (by rw [hx]; exact hu)
    rw [add_zero_block] at this
    rw [show 0 + i * E.c + j = i * E.c + j by omega]
    exact this
/-- The block of a row that is not empty. -/
theorem ElRow.ptr {A : Option Addr} {n c : Nat} (h : ElRow E w base p (.slice A n c) l) (hne : 1 ≤ l.length) : ∃ g, A = some ⟨g, 0, none⟩ ∧ base ≤ g ∧ g < w.heap.size := by
  obtain ⟨css, _, _, hown⟩ := h
  rcases hown.2 with ⟨_, h0⟩ | ⟨g, cap, cur, hv, hg, hh, _⟩
  · omega
  · cases hv; exact ⟨g, rfl, hg, heap_lt hh⟩
theorem ElRow.free {g n c : Nat} (h : ElRow E w base p (.slice (some ⟨g, 0, none⟩) n c) l) (j : Nat) : w.frozen? ⟨g, j, none⟩ = false := by
  obtain ⟨css, _, _, hown⟩ := h
  rcases hown.2 with ⟨hv, h0⟩ | ⟨g', cap, cur, hv, hg, hh, _⟩
  · cases hv
  · cases hv; exact Lib.frozen_of_heap hh j
theorem ElRow.at_ (hE : E.Ok) {g n c : Nat} (h : ElRow E w base p (.slice (some ⟨g, 0, none⟩) n c) l) {i : Nat} (hi : i < l.length) : ∃ cs, E.El w p l[i] cs ∧ w.rangeAt g (i * E.c) cs := by
  obtain ⟨css, hl, hin, hown⟩ := h
  have hic : i < css.length := by omega
  have hlen : ∀ cs ∈ css, cs.length = E.c := fun cs hcs => by
    obtain ⟨i, hi⟩ := List.getElem?_of_mem hcs
    have hik : i < l.length := by rw [← hl]; exact (List.getElem?_eq_some_iff.1 hi).1
    exact hE.len (hin i _ cs (List.getElem?_eq_getElem hik) hi)
  refine ⟨css[i], hin i _ _ (List.getElem?_eq_getElem hi) (List.getElem?_eq_getElem hic), fun j u hu => ?_⟩
  have hj : j < E.c := by have := (List.getElem?_eq_some_iff.1 hu).1; rw [hlen _ (List.getElem_mem hic)] at this; exact this
  have := hown.cells (g := g) rfl (i * E.c + j) u (by rw [flat_at hlen (List.getElem?_eq_getElem hic) hj]; exact hu)
  rw [add_zero_block] at this
  exact this
/-- The cells of a slice, one behind the other. -/
theorem ElsP.css (hE : E.Ok) {ad : Addr} {n c : Nat} (h : ElsP E w p (.slice (some ad) n c) l) : ∃ css : List (List Value), css.length = l.length ∧ (∀ (i : Nat) a cs, l[i]? = some a → css[i]? = some cs → E.El w p a cs) ∧ ∀ j u, css.flatten[j]? = some u → w.cell? (ad.add j) = some u := by
  obtain ⟨A', cap', hv, hcl, h⟩ := h
  rcases h with h | ⟨b, off, hA, hlt, hr⟩
  · subst h; exact ⟨[], rfl, by simp, by simp⟩
  · cases hv
    cases hA
    clear hlt hcl
    have hadd : ∀ j, (⟨b, off, none⟩ : Addr).add j = ⟨b, off + j, none⟩ := fun j => by unfold Addr.add; split <;> simp_all
    simp only [hadd]
    clear hadd
    induction l generalizing off with
    | nil => exact ⟨[], rfl, by simp, by simp⟩
    | cons x l ih =>
      obtain ⟨cs, h1, h2⟩ := hr 0 x rfl
      obtain ⟨css, h3, h4, h5⟩ := ih (off + E.c) (fun i a hi => by
        obtain ⟨cs, q1, q2⟩ := hr (i + 1) a (by simpa using hi)
        exact ⟨cs, q1, by rw [show off + E.c + i * E.c = off + (i + 1) * E.c by rw [Nat.succ_mul]; omega]; exact q2⟩)
      refine ⟨cs :: css, by simp [h3], ?_, ?_⟩
      · intro i a c' ha hc
        cases i with
        | zero => simp at ha hc; subst ha hc; exact h1
        | succ i => exact h4 i a c' (by simpa using ha) (by simpa using hc)
      · intro j u hu
        have hl := hE.len h1
        rw [List.flatten_cons] at hu
        by_cases hj : j < E.c
        · rw [List.getElem?_append_left (by omega)] at hu
          have := h2 j u hu
          rw [show off + 0 * E.c + j = off + j by omega] at this
          exact this
        · rw [List.getElem?_append_right (by omega), hl] at hu
          have := h5 _ u hu
          rw [show off + E.c + (j - E.c) = off + j by omega] at this
          exact this
theorem el_flat (hE : E.Ok) {css : List (List Value)} (hl : css.length = l.length) (hin : ∀ (i : Nat) a cs, l[i]? = some a → css[i]? = some cs → E.El w p a cs) : css.flatten.length = l.length * E.c ∧ ∀ u ∈ css.flatten, u.oneCell' = true := by
  have hm : ∀ cs ∈ css, ∃ a, E.El w p a cs := fun cs hcs => by
    obtain ⟨i, hi⟩ := List.getElem?_of_mem hcs
    have hik : i < l.length := by rw [← hl]; exact (List.getElem?_eq_some_iff.1 hi).1
    exact ⟨_, hin i _ cs (List.getElem?_eq_getElem hik) hi⟩
  refine ⟨by rw [flat_len (c := E.c) (fun cs hcs => by obtain ⟨a, h⟩ := hm cs hcs; exact hE.len h), hl], fun u hu => ?_⟩
  obtain ⟨cs, hcs, hu⟩ := List.mem_flatten.1 hu
  obtain ⟨a, h⟩ := hm cs hcs
  exact hE.one h u hu
end

/-! Appending. -/
theorem el_grew {w w' : World} {v v' : Value} {o : Obj} (h2 : (w.alloc o).grownBy w' v.ownBlock) : Grew w v v' w' :=
  ⟨⟨h2.os, h2.tape, h2.output, by have := h2.size; simp at this; omega, fun j hj hne => (h2.block j (by simp; omega) hne).trans (Below.heap_alloc w _ j hj)⟩, by have := h2.size; simp at this; omega⟩
theorem el_append_row {α : Type} {E : Elt α} (hE : E.Ok) {w w' : World} {base : Nat} {p : Nat → Prop} {v' : Value} {l : List α} {css : List (List Value)} (hl : css.length = l.length) (hin : ∀ (i : Nat) a cs, l[i]? = some a → css[i]? = some cs → E.El w p a cs)
    {k : α} {cs : List Value} (hk : E.El w p k cs) (hkeep : ∀ j, p j → w'.heap[j]? = w.heap[j]?) (h1 : w'.ownsRow base E.T E.c v' (l.length + 1) (css.flatten ++ cs)) : ElRow E w' base p v' (l ++ [k]) := by
  refine ⟨css ++ [cs], by simp [hl], ?_, ?_⟩
  · intro i k' cs' hk' hcs'
    by_cases hi : i < l.length
    · rw [List.getElem?_append_left hi] at hk'
      rw [List.getElem?_append_left (by omega)] at hcs'
      exact hE.keep (hin i k' cs' hk' hcs') hkeep (fun _ h => h)
    · have hi2 : i = l.length := by
        have := (List.getElem?_eq_some_iff.1 hk').1
        simp at this; omega
      subst hi2
      rw [List.getElem?_append_right (Nat.le_refl _)] at hk'
      rw [List.getElem?_append_right (by omega), hl] at hcs'
      simp at hk' hcs'
      subst hk' hcs'
      exact hE.keep hk hkeep (fun _ h => h)
  · rw [List.flatten_append, List.length_append]
    simpa using h1
theorem els_append {α : Type} {E : Elt α} (hE : E.Ok) {ops : Array Oper} {rest : List Oper} {o : Oper} {a : Act} {Q : Exit → Act → World → Prop} (hgd : o.guard = none) (s x : Operand)
    (ho : o.op = .call { callee := .builtin .append, args := #[s, x], argTypes := #[E.TS, E.TS] })
    (w : World) (base : Nat) (p : Nat → Prop) (v : Value) (l : List α) (hs : a.eval s = v) (h : ElRow E w base p v l) (t : α) (cs : List Value) (H : Nat) (hH : w.heap.size = H) (hx : a.eval x = .slice (some ⟨H, 0, none⟩) 1 1) (ht : E.El w p t cs) (hB : ∀ j, p j → v.ownBlock ≠ some j) (hB2 : ∀ j, p j → j < w.heap.size) (hbase : base ≤ w.heap.size) (hlen : l.length < 10000000000)
    (hK : ∀ g cap w', (v.ownBlock = some g ∨ w.heap.size ≤ g) → g < w'.heap.size → ElRow E w' base p (.slice (some ⟨g, 0, none⟩) (l.length + 1) cap) (l ++ [t]) → Grew w v (.slice (some ⟨g, 0, none⟩) (l.length + 1) cap) w' → Below base w w' → wpList Tryd.prog ops Q rest (a.put o.dst (.slice (some ⟨g, 0, none⟩) (l.length + 1) cap)) w') :
    wpList Tryd.prog ops Q (o :: rest) a (w.alloc (.cells cs.toArray E.T)) := by
  subst hH
  obtain ⟨i0, hi0, hz0, hz1, hz2⟩ := info_parts hE.info
  obtain ⟨css, hl, hin, hown⟩ := h
  have hsm := hE.small
  have hby : (l.length + 1) * E.bytes ≤ 140737488355328 := Nat.le_trans (Nat.mul_le_mul_left _ hsm) (by omega)
  refine wpList_append_lies _ hgd s x E.TS ho base E.T i0 _ E.c E.bytes hE.list hi0 hz0 hz1 hz2 hE.zc hE.pos v l.length css.flatten hs (ownsRow_below hown ((Below.refl _ _).alloc (Nat.le_refl _) _)) ⟨w.heap.size, 0, none⟩ 1 1 cs hx (by rw [hE.len ht, Nat.one_mul]) ?_ (hE.one ht) (by omega) (by unfold maxLen; omega) hby (by simp; omega) _ rfl ?_
  · intro j u hu
    exact World.news_of_block (heap_alloc_new w (.cells cs.toArray E.T)) j u (by simpa using hu)
  · intro g cap w' h1 h2 hat hlt'
    have hlt := hown.lt
    have hbelow : Below base w w' := ((Below.refl _ _).alloc hbase _).trans (row_grown h2 (by simp; omega) (fun k hk => by have := hlt k hk; simp; omega))
    exact hK g cap w' (hat.imp id (fun e => by rw [e]; simp)) hlt' (el_append_row hE hl hin ht (fun j hj => (h2.block j (by simp; have := hB2 j hj; omega) (fun e => hB j hj e.symm)).trans (Below.heap_alloc w _ j (hB2 j hj))) h1) (el_grew h2) hbelow
theorem els_append_step {α : Type} {E : Elt α} (hE : E.Ok) {ops : Array Oper} {o : Oper} {a : Act} {K : Act → World → Prop} {Q : Exit → Act → World → Prop} {Z : Prop} (hgd : o.guard = none) (s x : Operand)
    (ho : o.op = .call { callee := .builtin .append, args := #[s, x], argTypes := #[E.TS, E.TS] })
    (w : World) (base : Nat) (p : Nat → Prop) (v : Value) (l : List α) (hs : a.eval s = v) (h : ElRow E w base p v l) (t : α) (cs : List Value) (H : Nat) (hH : w.heap.size = H) (hx : a.eval x = .slice (some ⟨H, 0, none⟩) 1 1) (ht : E.El w p t cs) (hB : ∀ j, p j → v.ownBlock ≠ some j) (hB2 : ∀ j, p j → j < w.heap.size) (hbase : base ≤ w.heap.size) (hlen : l.length < 10000000000)
    (hK : ∀ g cap w', (v.ownBlock = some g ∨ w.heap.size ≤ g) → g < w'.heap.size → ElRow E w' base p (.slice (some ⟨g, 0, none⟩) (l.length + 1) cap) (l ++ [t]) → Grew w v (.slice (some ⟨g, 0, none⟩) (l.length + 1) cap) w' → Below base w w' → K (a.put o.dst (.slice (some ⟨g, 0, none⟩) (l.length + 1) cap)) w') :
    if Region.wanted o (yielded ops a.tmps) = true then Oper.wp Tryd.prog o a (w.alloc (.cells cs.toArray E.T)) K Q else Z := by
  subst hH
  obtain ⟨i0, hi0, hz0, hz1, hz2⟩ := info_parts hE.info
  obtain ⟨css, hl, hin, hown⟩ := h
  have hsm := hE.small
  have hby : (l.length + 1) * E.bytes ≤ 140737488355328 := Nat.le_trans (Nat.mul_le_mul_left _ hsm) (by omega)
  refine step_append_lies _ hgd s x E.TS ho base E.T i0 _ E.c E.bytes hE.list hi0 hz0 hz1 hz2 hE.zc hE.pos v l.length css.flatten hs (ownsRow_below hown ((Below.refl _ _).alloc (Nat.le_refl _) _)) ⟨w.heap.size, 0, none⟩ 1 1 cs hx (by rw [hE.len ht, Nat.one_mul]) ?_ (hE.one ht) (by omega) (by unfold maxLen; omega) hby (by simp; omega) _ rfl ?_
  · intro j u hu
    exact World.news_of_block (heap_alloc_new w (.cells cs.toArray E.T)) j u (by simpa using hu)
  · intro g cap w' h1 h2 hat hlt'
    have hlt := hown.lt
    have hbelow : Below base w w' := ((Below.refl _ _).alloc hbase _).trans (row_grown h2 (by simp; omega) (fun k hk => by have := hlt k hk; simp; omega))
    exact hK g cap w' (hat.imp id (fun e => by rw [e]; simp)) hlt' (el_append_row hE hl hin ht (fun j hj => (h2.block j (by simp; have := hB2 j hj; omega) (fun e => hB j hj e.symm)).trans (Below.heap_alloc w _ j (hB2 j hj))) h1) (el_grew h2) hbelow

/-- Appending all elements of a slice. -/
theorem run_append_els {α : Type} {E : Elt α} (hE : E.Ok) (w : World) (ty : TypeId) (base : Nat) (p : Nat → Prop) (v : Value) (xs : List α) (hx : ElRow E w base p v xs) (A : Option Addr) (n c : Nat) (l : List α) (h : ElsP E w p (.slice A n c) l) (hbase : base ≤ w.heap.size) (hl : xs.length + l.length < 10000000000)
    (hB : ∀ j, p j → v.ownBlock ≠ some j) (hB2 : ∀ j, p j → j < w.heap.size) :
    ∃ v' w', (Builtin.append_ #[E.TS, E.TS] ty #[v, .slice A n c]).run Tryd.prog w = .ok v' w' ∧ ElRow E w' base p v' (xs ++ l) ∧ Grew w v v' w' ∧ Below base w w' ∧ (v'.ownBlock = v.ownBlock ∨ v'.ownBlock = some w.heap.size) := by
  obtain ⟨i0, hi0, hz0, hz1, hz2⟩ := info_parts hE.info
  have hnl : n = l.length := by obtain ⟨A', c', hv, _⟩ := h; cases hv; rfl
  subst hnl
  have hsm := hE.small
  have hby : (xs.length + l.length) * E.bytes ≤ 140737488355328 := Nat.le_trans (Nat.mul_le_mul_left _ hsm) (by omega)
  cases A with
  | none =>
    have hn : l = [] := by
      obtain ⟨A', c', hv, _, h⟩ := h
      rcases h with h | ⟨b, off, hA, _⟩
      · exact h
      · cases hv; cases hA
    subst hn
    refine ⟨v, w, ?_, by rw [List.append_nil]; exact hx, ⟨⟨rfl, rfl, rfl, Nat.le_refl _, fun _ _ _ => rfl⟩, Nat.le_refl _⟩, Below.refl _ _, .inl rfl⟩
    obtain ⟨css, _, _, hx⟩ := hx
    rcases hx.2 with ⟨rfl, hn⟩ | ⟨g, cap, cur, rfl, _, _, hnc, _⟩
    · simp [Builtin.append_, run_underlying hE.list, sizeOf, typeInfo, hi0, Builtin.lenOf, Builtin.firstCells]
    · simp [Builtin.append_, run_underlying hE.list, sizeOf, typeInfo, hi0, Builtin.lenOf, Builtin.firstCells, hnc, storeCells]
  | some ad =>
    obtain ⟨css, hl1, hin1, hown⟩ := hx
    obtain ⟨dss, hl2, hin2, hcells⟩ := h.css hE
    obtain ⟨v', w', h1, h2, h3, _, h5⟩ := run_append_own_at (P := Tryd.prog) w base E.TS ty E.T i0 _ E.c E.bytes hE.list hi0 hz0 hz1 hz2 hE.zc hE.pos v xs.length _ hown ad l.length c dss.flatten (el_flat hE hl2 hin2).1 hcells (el_flat hE hl2 hin2).2 (by unfold maxLen; omega) hby hbase
    have hkeep : ∀ j, p j → w'.heap[j]? = w.heap[j]? := fun j hj => h3.block j (hB2 j hj) (fun e => hB j hj e.symm)
    refine ⟨v', w', h1, ⟨css ++ dss, by simp [hl1, hl2], ?_, ?_⟩, ⟨h3, h3.size⟩, row_grown h3 hbase hown.lt, h5⟩
    · intro i a cs ha hc
      by_cases hi : i < xs.length
      · rw [List.getElem?_append_left hi] at ha
        rw [List.getElem?_append_left (by omega)] at hc
        exact hE.keep (hin1 i a cs ha hc) hkeep (fun _ h => h)
      · rw [List.getElem?_append_right (by omega)] at ha
        rw [List.getElem?_append_right (by omega), hl1] at hc
        exact hE.keep (hin2 _ a cs ha hc) hkeep (fun _ h => h)
    · rw [List.flatten_append, List.length_append]
      exact h2
theorem els_append_all {α : Type} {E : Elt α} (hE : E.Ok) {ops : Array Oper} {rest : List Oper} {o : Oper} {a : Act} {Q : Exit → Act → World → Prop} (hgd : o.guard = none) (d s : Operand)
    (ho : o.op = .call { callee := .builtin .append, args := #[d, s], argTypes := #[E.TS, E.TS] })
    (w : World) (base : Nat) (p : Nat → Prop) (v : Value) (xs : List α) (hd : a.eval d = v) (hx : ElRow E w base p v xs) (A : Option Addr) (n c : Nat) (l : List α) (hs : a.eval s = .slice A n c) (h : ElsP E w p (.slice A n c) l) (hbase : base ≤ w.heap.size) (hl : xs.length + l.length < 10000000000)
    (hB : ∀ j, p j → v.ownBlock ≠ some j) (hB2 : ∀ j, p j → j < w.heap.size)
    (hK : ∀ v' w', ElRow E w' base p v' (xs ++ l) → Grew w v v' w' → Below base w w' → (v'.ownBlock = v.ownBlock ∨ v'.ownBlock = some w.heap.size) → wpList Tryd.prog ops Q rest (a.put o.dst v') w') : wpList Tryd.prog ops Q (o :: rest) a w := by
  refine wpList_plain hgd fun K hK' => ?_
  obtain ⟨v', w', hrun, h1, h2, h3, h4⟩ := run_append_els hE w o.type base p v xs hx A n c l h hbase hl hB hB2
  unfold Oper.wp
  simp [execOp, ho, resolve, invoke, builtin, hd, hs, hrun, Result.andThen]
  exact hK' _ _ (hK v' w' h1 h2 h3 h4)
theorem ElRow.loose {α : Type} {E : Elt α} {w : World} {base : Nat} {p : Nat → Prop} {v : Value} {l : List α} {b : Nat} (h : ElRow E w base p v l) (hb : v.ownBlock = some b) : Loose w b := by
  obtain ⟨css, _, _, h3⟩ := h
  exact ownsRow_loose h3 hb
end Go.Proofs.YthlppbpccldikaaDoor
set_option linter.unusedVariables false
namespace Go.Proofs.YthlppbpccldikaaDoor
open Go.RowKit

theorem flat_set {c : Nat} : ∀ {css : List (List Value)}, (∀ cs ∈ css, cs.length = c) → ∀ {i : Nat} (cs : List Value), i < css.length → (css.set i cs).flatten = css.flatten.take (i * c) ++ cs ++ css.flatten.drop (i * c + c)
  | [], _, i, cs, hi => by simp at hi
  | x :: css, h, 0, cs, hi => by
    have hx := h x (by simp)
    rw [List.set_cons_zero, List.flatten_cons, List.flatten_cons, Nat.zero_mul, List.take_zero, List.nil_append, Nat.zero_add, ← hx, List.drop_left]
  | x :: css, h, i + 1, cs, hi => by
    have hx := h x (by simp)
    have e1 : (x ++ css.flatten).take (i * c + c) = x ++ css.flatten.take (i * c) := by rw [show i * c + c = x.length + i * c by omega, List.take_length_add_append]
    have e2 : (x ++ css.flatten).drop (i * c + c + c) = css.flatten.drop (i * c + c) := by rw [show i * c + c + c = x.length + (i * c + c) by omega, List.drop_length_add_append]
    rw [List.set_cons_succ, List.flatten_cons, List.flatten_cons, flat_set (fun y hy => h y (by simp [hy])) cs (by simpa using hi), Nat.succ_mul, e1, e2]
    simp only [List.append_assoc]
theorem take_splice (A D cs : List Value) (s : Nat) (h : s + cs.length ≤ A.length) : (((A ++ D).take s ++ cs) ++ (A ++ D).drop (s + cs.length)).take A.length = A.take s ++ cs ++ A.drop (s + cs.length) := by
  rw [List.take_append_of_le_length (by omega : s ≤ A.length), List.drop_append_of_le_length h, ← List.append_assoc, List.take_append_of_le_length (by simp; omega), List.take_of_length_le (by simp; omega)]
/-- A whole element is stored. -/
theorem run_el_store {α : Type} {E : Elt α} (hE : E.Ok) {w : World} {base : Nat} {p : Nat → Prop} {g n cap : Nat} {l : List α} (h : ElRow E w base p (.slice (some ⟨g, 0, none⟩) n cap) l) {i : Nat} (hi : i < l.length) {a : α} {cs : List Value} (ha : E.El w p a cs) (hp : ∀ k, p k → k ≠ g) :
    ∃ w', (storeVar E.T ⟨g, i * E.c, none⟩ (.agg cs.toArray)).run Tryd.prog w = .ok () w' ∧ ElRow E w' base p (.slice (some ⟨g, 0, none⟩) n cap) (l.set i a) ∧ Upd g w w' ∧ w'.heap.size = w.heap.size := by
  obtain ⟨css, hl, hin, hown⟩ := h
  have hlen : ∀ cs ∈ css, cs.length = E.c := fun cs hcs => by
    obtain ⟨i, hi⟩ := List.getElem?_of_mem hcs
    have hik : i < l.length := by rw [← hl]; exact (List.getElem?_eq_some_iff.1 hi).1
    exact hE.len (hin i _ cs (List.getElem?_eq_getElem hik) hi)
  have hfl := flat_len hlen
  obtain ⟨hx, hown⟩ := hown
  rcases hown with ⟨hv, hn⟩ | ⟨g', cap', cur, hv, hg, hh, hc, hm, hcs, htk⟩
  · cases hv
  · have hgg : g = g' := by injection hv with e1; injection e1 with e1; injection e1
    have hnl : n = l.length := by injection hv
    have hcc : cap = cap' := by injection hv
    subst hgg hcc
    have hlc := hE.len ha
    have hle : i * E.c + E.c ≤ l.length * E.c := by rw [← Nat.succ_mul]; exact Nat.mul_le_mul_right _ hi
    have hle2 : l.length * E.c ≤ cap * E.c := Nat.mul_le_mul_right _ hc
    have hst := run_storeCells_at Tryd.prog g (i * E.c) E.T cs 0 cur w hh (by rw [hlc, hcs]; omega) (hE.one ha)
    obtain ⟨i0, hi0, hz0, hz1, hz2⟩ := info_parts hE.info
    have hsc : (storeVar E.T ⟨g, i * E.c, none⟩ (.agg cs.toArray)).run Tryd.prog w = .ok () (w.setRow g (cur.toList.take (i * E.c + 0) ++ cs ++ cur.toList.drop (i * E.c + 0 + cs.length)).toArray) := by
      have hs' : cs.length = i0.size := by rw [hlc, hz1]
      simp [storeVar, sizeOf, typeInfo, hi0, Value.cells, hs']
      rw [hs'] at hst
      simpa using hst
    refine ⟨_, hsc, ⟨css.set i cs, by simp [hl], ?_, ?_⟩, upd_setRow w g _, by simp [World.setRow]⟩
    · intro j b ds hb hd
      have hkeep : ∀ k, p k → (w.setRow g (cur.toList.take (i * E.c + 0) ++ cs ++ cur.toList.drop (i * E.c + 0 + cs.length)).toArray).heap[k]? = w.heap[k]? := fun k hk => setRow_other w g k _ (hp k hk)
      by_cases hj : i = j
      · subst hj
        rw [List.getElem?_set_self (by omega)] at hd
        rw [List.getElem?_set_self hi] at hb
        cases hb; cases hd
        exact hE.keep ha hkeep (fun _ h => h)
      · rw [List.getElem?_set_ne hj] at hb hd
        exact hE.keep (hin j b ds hb hd) hkeep (fun _ h => h)
    · rw [List.length_set]
      refine ⟨?_, .inr ⟨g, cap, _, by rw [hnl], hg, setRow_heap w g cur _ E.T (0, 0) hh, hc, hm, ?_, ?_⟩⟩
      · rw [flat_len (fun ds hd => ?_), List.length_set, hl]
        rcases List.mem_or_eq_of_mem_set hd with h | rfl
        · exact hlen ds h
        · exact hlc
      · simp only [List.size_toArray, List.length_append, List.length_take, List.length_drop, Array.length_toList, hcs, hlc]
        omega
      · have hcur : cur.toList = css.flatten ++ cur.toList.drop (l.length * E.c) := by rw [← htk, List.take_append_drop]
        rw [flat_set hlen cs (by omega)]
        simp only [Nat.add_zero, hlc]
        have hf : css.flatten.length = l.length * E.c := by rw [hfl, hl]
        rw [hcur, ← hf, ← hlc]
        exact take_splice _ _ cs _ (by rw [hlc, hf]; exact hle)
theorem step_el_store {α : Type} {E : Elt α} (hE : E.Ok) {ops : Array Oper} {o : Oper} {a : Act} {K : Act → World → Prop} {Q : Exit → Act → World → Prop} {Z : Prop} (hgd : o.guard = none) (x y : Operand) (ho : o.op = .store E.T x y)
    (w : World) (base : Nat) (p : Nat → Prop) (g n cap : Nat) (l : List α) (h : ElRow E w base p (.slice (some ⟨g, 0, none⟩) n cap) l) (i : Nat) (hi : i < l.length) (t : α) (cs : List Value) (ht : E.El w p t cs) (hp : ∀ k, p k → k ≠ g)
    (hx : a.eval x = .pointer (some ⟨g, i * E.c, none⟩)) (hy : a.eval y = .agg cs.toArray)
    (hK : ∀ w', ElRow E w' base p (.slice (some ⟨g, 0, none⟩) n cap) (l.set i t) → Upd g w w' → w'.heap.size = w.heap.size → K (a.put o.dst undef) w') :
    if Region.wanted o (yielded ops a.tmps) = true then Oper.wp Tryd.prog o a w K Q else Z := by
  have hw : Region.wanted o (yielded ops a.tmps) = true := by simp [Region.wanted, hgd]
  rw [if_pos hw]
  obtain ⟨w', hrun, h1, h2, h3⟩ := run_el_store hE h hi ht hp
  unfold Oper.wp execOp
  simp only [ho, hx, hy, Instr.storeAt, Instr.sureAddr, Sem.run_bind, Sem.run_pure, Result.andThen_ok, hrun]
  exact hK w' h1 h2 h3
end Go.Proofs.YthlppbpccldikaaDoor
