/-
  Plain functions of chapter 5 (xmlescape): references and their replacement. No program.
-/
import Derived.Test.YthbfahbjfioghaaGreatDoorSpec01
import Derived.Test.YthbfahbjfioghaaGreatDoorSpec05
set_option linter.unusedVariables false
namespace Go.Proofs.YthbfahbjfioghaaGreatDoor

/-- The value of a hexadecimal digit, or 16. -/
def hexd (c : UInt8) : Nat :=
  if 48 ≤ c.toNat ∧ c.toNat ≤ 57 then c.toNat - 48
  else if 97 ≤ c.toNat ∧ c.toNat ≤ 102 then c.toNat - 87
  else if 65 ≤ c.toNat ∧ c.toNat ≤ 70 then c.toNat - 55
  else 16
theorem hexd_le (c : UInt8) : hexd c ≤ 16 := by
  unfold hexd; repeat' split
  all_goals omega
/-- The number with these digits, read on from v. -/
def valS (base : Nat) : Nat → Bytes → Option Nat
  | v, [] => some v
  | v, c :: l => if hexd c < base then valS base (v * base + hexd c) l else none
/-- The rune that digits stand for. -/
def numRef (base : Nat) (l : Bytes) : Option Nat := if l = [] then none else (valS base 0 l).bind fun v => if isChar v then some v else none
def bLt : Bytes := [108, 116]
def bGt : Bytes := [103, 116]
def bAmp : Bytes := [97, 109, 112]
def bApos : Bytes := [97, 112, 111, 115]
def bQuot : Bytes := [113, 117, 111, 116]
/-- The rune that the text between '&' and ';' stands for. -/
def nameRef (x : Bytes) : Option Nat :=
  if x = bLt then some 60 else if x = bGt then some 62 else if x = bAmp then some 38 else if x = bApos then some 39 else if x = bQuot then some 34
  else match x with
    | 35 :: 120 :: h => numRef 16 h
    | 35 :: d => numRef 10 d
    | _ => none
/-- What lies ahead of the first ';'. -/
def upto (c : UInt8) : Bytes → Option Bytes
  | [] => none
  | a :: l => if a = c then some [] else (upto c l).map (a :: ·)
/-- The reference at the head of a text behind its '&': its rune, and the length of its name. -/
def tailRef (t : Bytes) : Option (Nat × Nat) := (upto 59 t).bind fun x => (nameRef x).map fun r => (r, x.length)
/-- What Reference returns. -/
def refAt (l : Bytes) (at_ : Int) : Int × Int × Int :=
  if 0 ≤ at_ ∧ at_ < l.length ∧ l[at_.toNat]? = some 38 then
    match tailRef (l.drop (at_.toNat + 1)) with
    | some (r, n) => (r, at_ + n + 2, 0)
    | none => (0, 0, 12)
  else (0, 0, 12)
/-- A text with its references replaced; or where the first wrong one stands. The first number: how many bytes belong to a reference that has been read. -/
def unescS : Nat → Bytes → Nat → Except Nat Bytes
  | _, [], _ => .ok []
  | k + 1, _ :: t, n => unescS k t (n + 1)
  | 0, c :: t, n =>
    if c = 38 then
      match tailRef t with
      | none => .error n
      | some (r, m) => (unescS (m + 1) t (n + 1)).map (enc r ++ ·)
    else (unescS 0 t (n + 1)).map ([c] ++ ·)
def unesc (l : Bytes) : Except Nat Bytes := unescS 0 l 0

theorem valS_append (base : Nat) : ∀ (x y : Bytes) (v : Nat), valS base v (x ++ y) = (valS base v x).bind fun u => valS base u y
  | [], _, _ => rfl
  | c :: x, y, v => by
    rw [List.cons_append, valS, valS]
    split
    · exact valS_append base x y _
    · rfl
theorem isChar_cap {v : Nat} : isChar (min v 1114112 : Nat) = isChar v := by
  by_cases h : v ≤ 1114112
  · rw [Nat.min_eq_left h]
  · rw [Nat.min_eq_right (by omega), isChar_no (by omega), isChar_no (by omega)]
theorem isChar_cap2 {v : Nat} : isChar (min v 2000000 : Nat) = isChar v := by
  by_cases h : v ≤ 2000000
  · rw [Nat.min_eq_left h]
  · rw [Nat.min_eq_right (by omega), isChar_no (by omega), isChar_no (by omega)]
theorem cap_step (cap base d v : Nat) (hb : 1 ≤ base) : min (min v cap * base + d) cap = min (v * base + d) cap := by
  by_cases h : v ≤ cap
  · rw [Nat.min_eq_left h]
  · have h1 : cap ≤ v := by omega
    rw [Nat.min_eq_right h1]
    have h2 : cap ≤ cap * base := Nat.le_mul_of_pos_right cap hb
    have h3 : v ≤ v * base := Nat.le_mul_of_pos_right v hb
    omega
theorem isChar_ok {v : Nat} (h : isChar v = true) : okRune v := by
  rw [isChar_iff] at h; unfold okRune; omega
theorem numRef_char {base : Nat} {l : Bytes} {r : Nat} (h : numRef base l = some r) : isChar r = true := by
  unfold numRef at h
  split at h
  · cases h
  · cases hv : valS base 0 l with
    | none => rw [hv] at h; cases h
    | some v =>
      rw [hv] at h
      simp only [Option.bind_some] at h
      split at h
      · cases h; assumption
      · cases h
theorem nameRef_char {x : Bytes} {r : Nat} (h : nameRef x = some r) : isChar r = true := by
  unfold nameRef at h
  by_cases h1 : x = bLt
  · rw [if_pos h1] at h; cases h; decide
  rw [if_neg h1] at h
  by_cases h2 : x = bGt
  · rw [if_pos h2] at h; cases h; decide
  rw [if_neg h2] at h
  by_cases h3 : x = bAmp
  · rw [if_pos h3] at h; cases h; decide
  rw [if_neg h3] at h
  by_cases h4 : x = bApos
  · rw [if_pos h4] at h; cases h; decide
  rw [if_neg h4] at h
  by_cases h5 : x = bQuot
  · rw [if_pos h5] at h; cases h; decide
  rw [if_neg h5] at h
  split at h
  · exact numRef_char h
  · exact numRef_char h
  · cases h
theorem upto_some {c : UInt8} : ∀ {l x : Bytes}, upto c l = some x → ∃ r, l = x ++ c :: r ∧ ∀ b ∈ x, b ≠ c
  | [], x, h => by cases h
  | a :: l, x, h => by
    rw [upto] at h
    split at h
    · rename_i e
      cases h; subst e
      exact ⟨l, rfl, by simp⟩
    · rename_i e
      cases hu : upto c l with
      | none => rw [hu] at h; cases h
      | some y =>
        rw [hu] at h
        cases h
        obtain ⟨r, h1, h2⟩ := upto_some hu
        exact ⟨r, by rw [h1]; rfl, fun b hb => by
          rcases List.mem_cons.1 hb with rfl | hb
          · exact e
          · exact h2 b hb⟩
theorem upto_of {c : UInt8} : ∀ {x r : Bytes}, (∀ b ∈ x, b ≠ c) → upto c (x ++ c :: r) = some x
  | [], r, _ => by simp [upto]
  | a :: x, r, h => by
    rw [List.cons_append, upto, if_neg (h a (by simp)), upto_of (fun b hb => h b (by simp [hb]))]; rfl
theorem upto_none {c : UInt8} : ∀ {l : Bytes}, (∀ b ∈ l, b ≠ c) → upto c l = none
  | [], _ => rfl
  | a :: l, h => by rw [upto, if_neg (h a (by simp)), upto_none (fun b hb => h b (by simp [hb]))]; rfl
theorem tailRef_len {t : Bytes} {r m : Nat} (h : tailRef t = some (r, m)) : m + 1 ≤ t.length := by
  unfold tailRef at h
  cases hu : upto 59 t with
  | none => rw [hu] at h; cases h
  | some x =>
    rw [hu] at h
    simp only [Option.bind_some] at h
    cases hn : nameRef x with
    | none => rw [hn] at h; cases h
    | some q =>
      rw [hn] at h
      simp only [Option.map_some, Option.some.injEq, Prod.mk.injEq] at h
      obtain ⟨r', h1, _⟩ := upto_some hu
      rw [h1, ← h.2]; simp
theorem tailRef_char {t : Bytes} {r m : Nat} (h : tailRef t = some (r, m)) : isChar r = true := by
  unfold tailRef at h
  cases hu : upto 59 t with
  | none => rw [hu] at h; cases h
  | some x =>
    rw [hu] at h
    simp only [Option.bind_some] at h
    cases hn : nameRef x with
    | none => rw [hn] at h; cases h
    | some q =>
      rw [hn] at h
      simp only [Option.map_some, Option.some.injEq, Prod.mk.injEq] at h
      rw [← h.1]; exact nameRef_char hn
theorem unescS_skip : ∀ (k : Nat) (l : Bytes) (n : Nat), k ≤ l.length → unescS k l n = unescS 0 (l.drop k) (n + k)
  | 0, l, n, _ => by simp
  | k + 1, [], n, h => by simp at h
  | k + 1, a :: l, n, h => by
    rw [unescS, unescS_skip k l (n + 1) (by simpa using h), List.drop_succ_cons, show n + 1 + k = n + (k + 1) by omega]
/-- At an ordinary byte. -/
theorem unesc_byte {l : Bytes} {n : Nat} (h : n < l.length) (hc : l[n] ≠ 38) : unescS 0 (l.drop n) n = (unescS 0 (l.drop (n + 1)) (n + 1)).map ([l[n]] ++ ·) := by
  rw [List.drop_eq_getElem_cons h, unescS, if_neg hc]
/-- At a reference. -/
theorem unesc_bad {l : Bytes} {n : Nat} (h : n < l.length) (hc : l[n] = 38) (hr : tailRef (l.drop (n + 1)) = none) : unescS 0 (l.drop n) n = .error n := by
  rw [List.drop_eq_getElem_cons h, unescS, if_pos hc, hr]
theorem unesc_ref {l : Bytes} {n r m : Nat} (h : n < l.length) (hc : l[n] = 38) (hr : tailRef (l.drop (n + 1)) = some (r, m)) : unescS 0 (l.drop n) n = (unescS 0 (l.drop (n + m + 2)) (n + m + 2)).map (enc r ++ ·) := by
  have hl := tailRef_len hr
  rw [List.drop_eq_getElem_cons h, unescS, if_pos hc, hr]
  simp only
  rw [unescS_skip (m + 1) _ _ hl, List.drop_drop, show n + 1 + (m + 1) = n + m + 2 by omega]
theorem refAt_in {l : Bytes} {n : Nat} (h : n < l.length) (hc : l[n] = 38) : refAt l n = match tailRef (l.drop (n + 1)) with | some (r, m) => ((r : Int), (n : Int) + m + 2, 0) | none => (0, 0, 12) := by
  unfold refAt
  rw [if_pos ⟨by omega, by omega, by simp [h, hc]⟩, Int.toNat_natCast]
theorem map_map_ex {a b : Bytes} {x : Except Nat Bytes} : (x.map (b ++ ·)).map (a ++ ·) = x.map ((a ++ b) ++ ·) := by
  cases x with
  | error e => rfl
  | ok y => simp [Except.map]
end Go.Proofs.YthbfahbjfioghaaGreatDoor
