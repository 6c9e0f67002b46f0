/-
  Chapter 12, plain: the canonical text of a JSON value; two valid values with the same text are equal apart from offsets. No function of the program.
-/
import Derived.Test.YtadkgjbidhfefaaGreatDoorSpec12
import Derived.Lib.ItoaNum
set_option linter.unusedVariables false
namespace Go.Proofs.YtadkgjbidhfefaaGreatDoor

def hxJ (n : UInt8) : UInt8 := if n < 10 then 48 + n else 87 + n
/-- What stands for a byte in a quoted string. -/
def escJ (c : UInt8) : Bytes :=
  if c = 34 then [92, 34] else if c = 92 then [92, 92] else if c = 8 then [92, 98] else if c = 9 then [92, 116] else if c = 10 then [92, 110] else if c = 12 then [92, 102] else if c = 13 then [92, 114]
  else if c < 32 then [92, 117, 48, 48, hxJ (c / 16), hxJ (c % 16)] else [c]
/-- A quoted string. -/
def jq (s : Bytes) : Bytes := 34 :: (s.flatMap escJ ++ [34])
mutual
/-- The canonical text. -/
def jtx : JV → Bytes
  | .mk k b n s is ms _ =>
    if k = 1 then (if b = true then [116, 114, 117, 101] else [102, 97, 108, 115, 101])
    else if k = 2 then Lib.itoa n
    else if k = 3 then jq s
    else if k = 4 then 91 :: (jtxL true is ++ [93])
    else if k = 5 then 123 :: (jtxM true ms ++ [125])
    else [110, 117, 108, 108]
def jtxL : Bool → List JV → Bytes
  | _, [] => []
  | f, v :: l => (if f = true then [] else [44]) ++ (jtx v ++ jtxL false l)
def jtxM : Bool → List JM → Bytes
  | _, [] => []
  | f, .mk k v _ :: l => (if f = true then [] else [44]) ++ (jq k ++ (58 :: (jtx v ++ jtxM false l)))
end
theorem jtx_form (v : JV) : jtx v = if v.kind = 1 then (if v.b = true then [116, 114, 117, 101] else [102, 97, 108, 115, 101]) else if v.kind = 2 then Lib.itoa v.n else if v.kind = 3 then jq v.s else if v.kind = 4 then 91 :: (jtxL true v.items ++ [93]) else if v.kind = 5 then 123 :: (jtxM true v.mems ++ [125]) else [110, 117, 108, 108] := by
  cases v; rw [jtx]; rfl

/-! Numbers. -/
def isDg (c : UInt8) : Bool := decide (48 ≤ c) && decide (c ≤ 57)
def dvalJ (l : Bytes) : Nat := l.foldl (fun a c => 10 * a + (c.toNat - 48)) 0
theorem dig_dg (d : Nat) (h : d < 10) : isDg (UInt8.ofNat (48 + d)) = true ∧ (UInt8.ofNat (48 + d)).toNat - 48 = d := by
  revert h; revert d; decide
theorem decD_dg (u : Nat) : (∀ c ∈ Lib.decDigits u, isDg c = true) ∧ dvalJ (Lib.decDigits u) = u := by
  induction u using Nat.strongRecOn with
  | ind u ih =>
    rw [Lib.decDigits]
    split
    · rename_i h
      obtain ⟨h1, h2⟩ := dig_dg u h
      exact ⟨fun c hc => by rw [List.mem_singleton.1 hc]; exact h1, (by show 10 * 0 + ((UInt8.ofNat (48 + u)).toNat - 48) = u; rw [h2]; omega)⟩
    · rename_i h
      obtain ⟨h1, h2⟩ := ih (u / 10) (by omega)
      obtain ⟨h3, h4⟩ := dig_dg (u % 10) (by omega)
      refine ⟨fun c hc => ?_, ?_⟩
      · rcases List.mem_append.1 hc with hc | hc
        · exact h1 c hc
        · rw [List.mem_singleton.1 hc]; exact h3
      · unfold dvalJ at h2 ⊢
        rw [List.foldl_append, h2]
        simp only [List.foldl_cons, List.foldl_nil, h4]
        omega
theorem decD_ne (u : Nat) : Lib.decDigits u ≠ [] := by
  rw [Lib.decDigits]
  split <;> simp
theorem nDig_le : ∀ (k u : Nat), u < 10 ^ (k + 1) → Lib.nDigits u ≤ k + 1
  | 0, u, h => by rw [Lib.nDigits_small (by simpa using h)]; omega
  | k + 1, u, h => by
    by_cases h1 : u < 10
    · rw [Lib.nDigits_small h1]; omega
    · rw [Lib.nDigits_big h1]
      have := nDig_le k (u / 10) (by rw [Nat.pow_succ] at h; omega)
      omega
theorem itoa_len (n : Int) (h0 : -9223372036854775808 ≤ n) (h1 : n ≤ 9223372036854775807) : (Lib.itoa n).length ≤ 20 := by
  have e19 : (10 : Nat) ^ (18 + 1) = 10000000000000000000 := by decide
  unfold Lib.itoa
  split
  · rw [List.length_cons, Lib.decDigits_length]
    have := nDig_le 18 n.natAbs (by rw [e19]; omega)
    omega
  · rw [Lib.decDigits_length]
    have := nDig_le 18 n.toNat (by rw [e19]; omega)
    omega
/-- The rest of a text does not go on with a digit. -/
def stopJ : Bytes → Bool | [] => true | c :: _ => !isDg c
theorem dg_split : ∀ {l l' r r' : Bytes}, (∀ c ∈ l, isDg c = true) → (∀ c ∈ l', isDg c = true) → stopJ r = true → stopJ r' = true → l ++ r = l' ++ r' → l = l' ∧ r = r'
  | [], [], r, r', _, _, _, _, h => ⟨rfl, by simpa using h⟩
  | [], c :: l', r, r', _, h2, h3, _, h => by
    simp only [List.nil_append, List.cons_append] at h
    subst h
    have := h2 c (by simp)
    simp [stopJ, this] at h3
  | c :: l, [], r, r', h1, _, _, h4, h => by
    simp only [List.nil_append, List.cons_append] at h
    subst h
    have := h1 c (by simp)
    simp [stopJ, this] at h4
  | c :: l, d :: l', r, r', h1, h2, h3, h4, h => by
    simp only [List.cons_append, List.cons.injEq] at h
    obtain ⟨e1, e2⟩ := dg_split (fun x hx => h1 x (by simp [hx])) (fun x hx => h2 x (by simp [hx])) h3 h4 h.2
    exact ⟨by rw [h.1, e1], e2⟩
theorem decD_inj {u v : Nat} (h : Lib.decDigits u = Lib.decDigits v) : u = v := by rw [← (decD_dg u).2, h, (decD_dg v).2]
theorem itoa_split {n m : Int} {r r' : Bytes} (h1 : stopJ r = true) (h2 : stopJ r' = true) (h : Lib.itoa n ++ r = Lib.itoa m ++ r') : n = m ∧ r = r' := by
  have h45 : isDg 45 = false := by decide
  have hcase : ∀ (u : Nat) (t t' : Bytes), Lib.decDigits u ++ t = 45 :: t' → False := fun u t t' e => by
    cases hd : Lib.decDigits u with
    | nil => exact decD_ne u hd
    | cons c l =>
      rw [hd] at e
      simp only [List.cons_append, List.cons.injEq] at e
      have := (decD_dg u).1 c (by rw [hd]; simp)
      rw [e.1, h45] at this
      cases this
  unfold Lib.itoa at h
  split at h
  · split at h
    · simp only [List.cons_append, List.cons.injEq, true_and] at h
      obtain ⟨e1, e2⟩ := dg_split (decD_dg _).1 (decD_dg _).1 h1 h2 h
      exact ⟨by have := decD_inj e1; omega, e2⟩
    · exact (hcase _ _ _ h.symm).elim
  · split at h
    · exact (hcase _ _ _ h).elim
    · obtain ⟨e1, e2⟩ := dg_split (decD_dg _).1 (decD_dg _).1 h1 h2 h
      exact ⟨by have := decD_inj e1; omega, e2⟩
theorem itoa_head (n : Int) : ∃ c l, Lib.itoa n = c :: l ∧ (c = 45 ∨ isDg c = true) := by
  unfold Lib.itoa
  split
  · exact ⟨_, _, rfl, .inl rfl⟩
  · cases hd : Lib.decDigits n.toNat with
    | nil => exact (decD_ne _ hd).elim
    | cons c l => exact ⟨c, l, rfl, .inr ((decD_dg _).1 c (by rw [hd]; simp))⟩

/-! Strings. -/
def hvJ (c : UInt8) : UInt8 := if c < 58 then c - 48 else c - 87
def unescJ : Bytes → UInt8 × Bytes
  | 92 :: 117 :: _ :: _ :: a :: b :: r => (hvJ a * 16 + hvJ b, r)
  | 92 :: d :: r => (if d = 98 then 8 else if d = 116 then 9 else if d = 110 then 10 else if d = 102 then 12 else if d = 114 then 13 else d, r)
  | c :: r => (c, r)
  | [] => (0, [])
theorem hex_back : ∀ n < 32, hvJ (hxJ (UInt8.ofNat n / 16)) * 16 + hvJ (hxJ (UInt8.ofNat n % 16)) = UInt8.ofNat n := by decide
theorem unesc_esc (c : UInt8) (r : Bytes) : unescJ (escJ c ++ r) = (c, r) := by
  unfold escJ
  split
  · rename_i h; subst h; rfl
  · split
    · rename_i h; subst h; rfl
    · split
      · rename_i h; subst h; rfl
      · split
        · rename_i h; subst h; rfl
        · split
          · rename_i h; subst h; rfl
          · split
            · rename_i h; subst h; rfl
            · split
              · rename_i h; subst h; rfl
              · split
                · rename_i h
                  have h2 := hex_back c.toNat (by simpa [UInt8.lt_iff_toNat_lt] using h)
                  rw [UInt8.ofNat_toNat] at h2
                  show (hvJ (hxJ (c / 16)) * 16 + hvJ (hxJ (c % 16)), r) = (c, r)
                  rw [h2]
                · rename_i h92 _ _ _ _ _ _
                  show unescJ (c :: r) = (c, r)
                  unfold unescJ
                  split
                  · rename_i h; simp only [List.cons.injEq] at h; exact (h92 h.1).elim
                  · rename_i h; simp only [List.cons.injEq] at h; exact (h92 h.1).elim
                  · rename_i h; simp only [List.cons.injEq] at h; rw [h.1, h.2]
                  · rename_i h; cases h
theorem esc_split {c d : UInt8} {r r' : Bytes} (h : escJ c ++ r = escJ d ++ r') : c = d ∧ r = r' := by
  have h1 := unesc_esc c r
  rw [h, unesc_esc d r'] at h1
  cases h1
  exact ⟨rfl, rfl⟩
theorem esc_head (c : UInt8) : ∃ d l, escJ c = d :: l ∧ d ≠ 34 := by
  unfold escJ
  split
  · exact ⟨_, _, rfl, by decide⟩
  · rename_i h34
    repeat' split
    all_goals first | exact ⟨_, _, rfl, by decide⟩ | exact ⟨_, _, rfl, h34⟩
theorem body_split : ∀ {s t r r' : Bytes}, s.flatMap escJ ++ (34 :: r) = t.flatMap escJ ++ (34 :: r') → s = t ∧ r = r'
  | [], [], r, r', h => ⟨rfl, by simpa using h⟩
  | [], d :: t, r, r', h => by
    obtain ⟨x, l, hx, hn⟩ := esc_head d
    rw [List.flatMap_cons, hx] at h
    simp only [List.flatMap_nil, List.nil_append, List.cons_append, List.cons.injEq] at h
    exact (hn h.1.symm).elim
  | c :: s, [], r, r', h => by
    obtain ⟨x, l, hx, hn⟩ := esc_head c
    rw [List.flatMap_cons, hx] at h
    simp only [List.flatMap_nil, List.nil_append, List.cons_append, List.cons.injEq] at h
    exact (hn h.1).elim
  | c :: s, d :: t, r, r', h => by
    rw [List.flatMap_cons, List.flatMap_cons, List.append_assoc, List.append_assoc] at h
    obtain ⟨e1, e2⟩ := esc_split h
    obtain ⟨e3, e4⟩ := body_split e2
    exact ⟨by rw [e1, e3], e4⟩
theorem jq_split {s t r r' : Bytes} (h : jq s ++ r = jq t ++ r') : s = t ∧ r = r' := by
  unfold jq at h
  simp only [List.cons_append, List.cons.injEq, true_and, List.append_assoc, List.nil_append] at h
  exact body_split h
theorem esc_len (c : UInt8) : 1 ≤ (escJ c).length ∧ (escJ c).length ≤ 6 := by
  unfold escJ
  repeat' split
  all_goals simp
theorem jq_len (s : Bytes) : (jq s).length ≤ 6 * s.length + 2 := by
  unfold jq
  have : (s.flatMap escJ).length ≤ 6 * s.length := by
    induction s with
    | nil => simp
    | cons c s ih => rw [List.flatMap_cons, List.length_append, List.length_cons]; have := (esc_len c).2; omega
  simp only [List.length_cons, List.length_append, List.length_nil]
  omega

/-! Lengths. -/
mutual
theorem jtx_len : ∀ (v : JV), JFit v → (jtx v).length + 6 ≤ 30 * jful v
  | .mk k b n s is ms p, h => by
    rw [JFit] at h
    rw [jtx, jful]
    have h1 := jtxL_len true is h.2.1
    have h2 := jtxM_len true ms h.2.2
    have h3 := itoa_len n h.1.2.2.1 h.1.2.2.2
    have h4 := jq_len s
    repeat' split
    all_goals first | (simp only [List.length_cons, List.length_append, List.length_nil]; omega) | omega
theorem jtxL_len : ∀ (f : Bool) (l : List JV), JFitL l → (jtxL f l).length ≤ 30 * jfulL l
  | f, [], h => by rw [jtxL]; simp
  | f, v :: l, h => by
    rw [JFitL] at h
    rw [jtxL, jfulL]
    have h1 := jtx_len v h.1
    have h2 := jtxL_len false l h.2
    simp only [List.length_append]
    split <;> simp only [List.length_cons, List.length_nil] <;> omega
theorem jtxM_len : ∀ (f : Bool) (l : List JM), JFitM l → (jtxM f l).length ≤ 30 * jfulM l
  | f, [], h => by rw [jtxM]; simp
  | f, .mk k v p :: l, h => by
    rw [JFitM] at h
    rw [jtxM, jfulM]
    have h1 := jtx_len v h.1
    have h2 := jtxM_len false l h.2
    have h3 := jq_len k
    simp only [List.length_append, List.length_cons]
    split <;> simp only [List.length_cons, List.length_nil] <;> omega
end
end Go.Proofs.YtadkgjbidhfefaaGreatDoor
