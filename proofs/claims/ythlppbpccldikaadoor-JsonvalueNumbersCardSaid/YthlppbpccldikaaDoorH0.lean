/-
  Several texts in one file, in build order:
  - Plain facts on UTF-8: what a list of bytes decodes to at its head, what a number encodes to, and that the two agree. No program.
-/
import GoSem.Core.Utf8
import Derived.Laws.Strings
set_option linter.unusedVariables false
namespace Go.Proofs.YthlppbpccldikaaDoor

abbrev Bytes := List UInt8

/-- A Go string of these bytes. -/
def S (l : Bytes) : ByteArray := ⟨l.toArray⟩

/-- The rune at the head and its length; length 0: none starts here. -/
def dec : Bytes → Nat × Nat
  | [] => (0, 0)
  | a :: t =>
    if a.toNat < 128 then (a.toNat, 1) else
    match t with
    | [] => (0, 0)
    | b :: t =>
      if a.toNat / 32 = 6 then
        (if b.toNat / 64 = 2 ∧ 128 ≤ a.toNat % 32 * 64 + b.toNat % 64 then (a.toNat % 32 * 64 + b.toNat % 64, 2) else (0, 0))
      else
      match t with
      | [] => (0, 0)
      | c :: t =>
        if a.toNat / 16 = 14 then
          (if b.toNat / 64 = 2 ∧ c.toNat / 64 = 2 ∧ 2048 ≤ a.toNat % 16 * 4096 + b.toNat % 64 * 64 + c.toNat % 64 ∧
              (a.toNat % 16 * 4096 + b.toNat % 64 * 64 + c.toNat % 64 < 55296 ∨ 57344 ≤ a.toNat % 16 * 4096 + b.toNat % 64 * 64 + c.toNat % 64) then
            (a.toNat % 16 * 4096 + b.toNat % 64 * 64 + c.toNat % 64, 3) else (0, 0))
        else
        match t with
        | [] => (0, 0)
        | d :: _ =>
          if a.toNat / 8 = 30 ∧ b.toNat / 64 = 2 ∧ c.toNat / 64 = 2 ∧ d.toNat / 64 = 2 ∧
              65536 ≤ a.toNat % 8 * 262144 + b.toNat % 64 * 4096 + c.toNat % 64 * 64 + d.toNat % 64 ∧
              a.toNat % 8 * 262144 + b.toNat % 64 * 4096 + c.toNat % 64 * 64 + d.toNat % 64 ≤ 1114111 then
            (a.toNat % 8 * 262144 + b.toNat % 64 * 4096 + c.toNat % 64 * 64 + d.toNat % 64, 4)
          else (0, 0)

/-- A number that stands for a rune. -/
def okRune (r : Nat) : Prop := r < 55296 ∨ (57344 ≤ r ∧ r ≤ 1114111)
instance (r : Nat) : Decidable (okRune r) := by unfold okRune; exact inferInstance

/-- The encoding of a rune; empty for a number that is none. -/
def enc (r : Nat) : Bytes :=
  if ¬ okRune r then []
  else if r < 128 then [UInt8.ofNat r]
  else if r < 2048 then [UInt8.ofNat (192 + r / 64), UInt8.ofNat (128 + r % 64)]
  else if r < 65536 then [UInt8.ofNat (224 + r / 4096), UInt8.ofNat (128 + r / 64 % 64), UInt8.ofNat (128 + r % 64)]
  else [UInt8.ofNat (240 + r / 262144), UInt8.ofNat (128 + r / 4096 % 64), UInt8.ofNat (128 + r / 64 % 64), UInt8.ofNat (128 + r % 64)]

theorem u8_eq {a : UInt8} {n : Nat} (h : a.toNat = n) : UInt8.ofNat n = a := by
  subst h; exact UInt8.ofNat_toNat
theorem u8_lt (a : UInt8) : a.toNat < 256 := a.toNat_lt
theorem u8_of {n : Nat} (h : n < 256) : (UInt8.ofNat n).toNat = n := by
  rw [UInt8.toNat_ofNat']; exact Nat.mod_eq_of_lt h

theorem dec_le (l : Bytes) : (dec l).2 ≤ l.length ∧ (dec l).2 ≤ 4 := by
  unfold dec
  repeat' split
  all_goals simp

/-- What is decoded is a rune, and its encoding is what was read. -/
theorem dec_enc (l : Bytes) (h : (dec l).2 ≠ 0) : okRune (dec l).1 ∧ enc (dec l).1 = l.take (dec l).2 := by
  match l with
  | [] => exact absurd rfl h
  | a :: t =>
    have ha := u8_lt a
    unfold dec at h ⊢
    by_cases h1 : a.toNat < 128
    · simp only [h1, if_true] at h ⊢
      have ho : okRune a.toNat := by unfold okRune; omega
      exact ⟨ho, by simp [enc, ho, h1]⟩
    · simp only [h1, if_false] at h ⊢
      match t with
      | [] => exact absurd rfl h
      | b :: t =>
        have hb := u8_lt b
        dsimp only at h ⊢
        by_cases h2 : a.toNat / 32 = 6
        · simp only [h2, if_true] at h ⊢
          by_cases h3 : b.toNat / 64 = 2 ∧ 128 ≤ a.toNat % 32 * 64 + b.toNat % 64
          · rw [if_pos h3] at h ⊢
            obtain ⟨h3, h4⟩ := h3
            have ho : okRune (a.toNat % 32 * 64 + b.toNat % 64) := by unfold okRune; omega
            refine ⟨ho, ?_⟩
            dsimp only
            unfold enc
            rw [if_neg (by simpa using ho), if_neg (by omega), if_pos (by omega)]
            rw [u8_eq (a := a) (by omega), u8_eq (a := b) (by omega)]
            rfl
          · rw [if_neg h3] at h; exact absurd rfl h
        · simp only [h2, if_false] at h ⊢
          match t with
          | [] => exact absurd rfl h
          | c :: t =>
            have hc := u8_lt c
            dsimp only at h ⊢
            by_cases h5 : a.toNat / 16 = 14
            · simp only [h5, if_true] at h ⊢
              by_cases h6 : b.toNat / 64 = 2 ∧ c.toNat / 64 = 2 ∧ 2048 ≤ a.toNat % 16 * 4096 + b.toNat % 64 * 64 + c.toNat % 64 ∧
                (a.toNat % 16 * 4096 + b.toNat % 64 * 64 + c.toNat % 64 < 55296 ∨ 57344 ≤ a.toNat % 16 * 4096 + b.toNat % 64 * 64 + c.toNat % 64)
              · rw [if_pos h6] at h ⊢
                obtain ⟨h6, h7, h8, h9⟩ := h6
                have ho : okRune (a.toNat % 16 * 4096 + b.toNat % 64 * 64 + c.toNat % 64) := by unfold okRune; omega
                refine ⟨ho, ?_⟩
                dsimp only
                unfold enc
                rw [if_neg (by simpa using ho), if_neg (by omega), if_neg (by omega), if_pos (by omega)]
                rw [u8_eq (a := a) (by omega), u8_eq (a := b) (by omega), u8_eq (a := c) (by omega)]
                rfl
              · rw [if_neg h6] at h; exact absurd rfl h
            · simp only [h5, if_false] at h ⊢
              match t with
              | [] => exact absurd rfl h
              | d :: t =>
                have hd := u8_lt d
                dsimp only at h ⊢
                by_cases h10 : a.toNat / 8 = 30 ∧ b.toNat / 64 = 2 ∧ c.toNat / 64 = 2 ∧ d.toNat / 64 = 2 ∧
                    65536 ≤ a.toNat % 8 * 262144 + b.toNat % 64 * 4096 + c.toNat % 64 * 64 + d.toNat % 64 ∧
                    a.toNat % 8 * 262144 + b.toNat % 64 * 4096 + c.toNat % 64 * 64 + d.toNat % 64 ≤ 1114111
                · rw [if_pos h10] at h ⊢
                  obtain ⟨e1, e2, e3, e4, e5, e6⟩ := h10
                  have ho : okRune (a.toNat % 8 * 262144 + b.toNat % 64 * 4096 + c.toNat % 64 * 64 + d.toNat % 64) := by unfold okRune; omega
                  refine ⟨ho, ?_⟩
                  dsimp only
                  unfold enc
                  rw [if_neg (by simpa using ho), if_neg (by omega), if_neg (by omega), if_neg (by omega)]
                  rw [u8_eq (a := a) (by omega), u8_eq (a := b) (by omega), u8_eq (a := c) (by omega), u8_eq (a := d) (by omega)]
                  rfl
                · rw [if_neg h10] at h; exact absurd rfl h

/-- What is encoded is decoded. -/
theorem enc_dec {r : Nat} (h : okRune r) (t : Bytes) : dec (enc r ++ t) = (r, (enc r).length) := by
  unfold enc
  rw [if_neg (by simpa using h)]
  have h' := h
  unfold okRune at h'
  by_cases h1 : r < 128
  · rw [if_pos h1]
    simp only [List.cons_append, List.nil_append, dec, u8_of (show r < 256 by omega), h1, if_true]
    rfl
  · rw [if_neg h1]
    by_cases h2 : r < 2048
    · rw [if_pos h2]
      simp only [List.cons_append, List.nil_append, dec, u8_of (show 192 + r / 64 < 256 by omega), u8_of (show 128 + r % 64 < 256 by omega)]
      rw [if_neg (by omega), if_pos (by omega), if_pos (by omega)]
      simp only [List.length_cons, List.length_nil, Prod.mk.injEq, and_true]
      omega
    · rw [if_neg h2]
      by_cases h3 : r < 65536
      · rw [if_pos h3]
        simp only [List.cons_append, List.nil_append, dec, u8_of (show 224 + r / 4096 < 256 by omega), u8_of (show 128 + r / 64 % 64 < 256 by omega), u8_of (show 128 + r % 64 < 256 by omega)]
        rw [if_neg (by omega), if_neg (by omega), if_pos (by omega), if_pos (by omega)]
        simp only [List.length_cons, List.length_nil, Prod.mk.injEq, and_true]
        omega
      · rw [if_neg h3]
        simp only [List.cons_append, List.nil_append, dec, u8_of (show 240 + r / 262144 < 256 by omega), u8_of (show 128 + r / 4096 % 64 < 256 by omega), u8_of (show 128 + r / 64 % 64 < 256 by omega), u8_of (show 128 + r % 64 < 256 by omega)]
        rw [if_neg (by omega), if_neg (by omega), if_neg (by omega), if_pos (by omega)]
        simp only [List.length_cons, List.length_nil, Prod.mk.injEq, and_true]
        omega

theorem enc_len (r : Nat) (h : okRune r) : 1 ≤ (enc r).length ∧ (enc r).length ≤ 4 := by
  unfold enc
  rw [if_neg (by simpa using h)]
  repeat' split
  all_goals simp

/-- The model's own decoder. -/
theorem utf8_dec (l : Bytes) (h : l ≠ []) : Utf8.decode (S l) 0 = if (dec l).2 = 0 then (65533, 1) else dec l := by
  have hg : ∀ (m : Bytes) (k : Nat), (S m).get! k = m.getD k 0 := by
    intro m k
    simp [S, ByteArray.get!, getElem!_def, List.getD]
    rfl
  have hs : ∀ m : Bytes, (S m).size = m.length := by intro m; simp [S, ByteArray.size]
  match l with
  | [] => exact absurd rfl h
  | a :: t =>
    have ha := u8_lt a
    unfold Utf8.decode dec
    simp only [hg, hs, Nat.zero_add, List.getD_cons_zero]
    by_cases h1 : a.toNat < 128
    · simp [h1]
    · simp only [h1, if_false]
      match t with
      | [] => simp [Utf8.runeError]
      | b :: t =>
        have hb := u8_lt b
        by_cases h2 : a.toNat / 32 = 6
        · have h2' : (a.toNat / 16 == 14) = false := by simp; omega
          have h2'' : (a.toNat / 8 == 30) = false := by simp; omega
          by_cases h3 : b.toNat / 64 = 2
          · by_cases h4 : 128 ≤ a.toNat % 32 * 64 + b.toNat % 64 <;> simp [h2, h3, h4, Utf8.runeError]
          · simp [h2, h3, h2', h2'', Utf8.runeError]
        · match t with
          | [] => simp [h2, Utf8.runeError]
          | c :: t =>
            have hc := u8_lt c
            by_cases h5 : a.toNat / 16 = 14
            · have h5'' : (a.toNat / 8 == 30) = false := by simp; omega
              by_cases h3 : b.toNat / 64 = 2
              · by_cases h6 : c.toNat / 64 = 2
                · by_cases h4 : 2048 ≤ a.toNat % 16 * 4096 + b.toNat % 64 * 64 + c.toNat % 64
                  · by_cases h7 : a.toNat % 16 * 4096 + b.toNat % 64 * 64 + c.toNat % 64 < 55296 ∨ 57344 ≤ a.toNat % 16 * 4096 + b.toNat % 64 * 64 + c.toNat % 64
                    · have hv : Utf8.valid ((a.toNat % 16 * 4096 + b.toNat % 64 * 64 + c.toNat % 64 : Nat) : Int) = true := by
                        unfold Utf8.valid; simp; omega
                      simp [h2, h5, h3, h6, h4, h7, hv, -Int.natCast_add, -Int.natCast_mul, -Int.natCast_emod]
                    · have hv : Utf8.valid ((a.toNat % 16 * 4096 + b.toNat % 64 * 64 + c.toNat % 64 : Nat) : Int) = false := by
                        unfold Utf8.valid; simp; omega
                      simp [h2, h5, h3, h6, h4, h7, hv, Utf8.runeError, -Int.natCast_add, -Int.natCast_mul, -Int.natCast_emod]
                  · simp [h2, h5, h3, h6, h4, Utf8.runeError]
                · simp [h2, h5, h3, h6, h5'', Utf8.runeError]
              · simp [h2, h5, h3, h5'', Utf8.runeError]
            · match t with
              | [] => simp [h2, h5, Utf8.runeError]
              | d :: t =>
                by_cases h8 : a.toNat / 8 = 30 ∧ b.toNat / 64 = 2 ∧ c.toNat / 64 = 2 ∧ d.toNat / 64 = 2
                · obtain ⟨e1, e2, e3, e4⟩ := h8
                  by_cases h9 : 65536 ≤ a.toNat % 8 * 262144 + b.toNat % 64 * 4096 + c.toNat % 64 * 64 + d.toNat % 64
                  · by_cases h10 : a.toNat % 8 * 262144 + b.toNat % 64 * 4096 + c.toNat % 64 * 64 + d.toNat % 64 ≤ 1114111
                    · have hv : Utf8.valid ((a.toNat % 8 * 262144 + b.toNat % 64 * 4096 + c.toNat % 64 * 64 + d.toNat % 64 : Nat) : Int) = true := by
                        unfold Utf8.valid; simp; omega
                      simp [h2, h5, e1, e2, e3, e4, h9, h10, hv, -Int.natCast_add, -Int.natCast_mul, -Int.natCast_emod]
                    · have hv : Utf8.valid ((a.toNat % 8 * 262144 + b.toNat % 64 * 4096 + c.toNat % 64 * 64 + d.toNat % 64 : Nat) : Int) = false := by
                        unfold Utf8.valid; simp; omega
                      simp [h2, h5, e1, e2, e3, e4, h9, h10, hv, Utf8.runeError, -Int.natCast_add, -Int.natCast_mul, -Int.natCast_emod]
                  · simp [h2, h5, e1, e2, e3, e4, h9, Utf8.runeError]
                · by_cases e1 : a.toNat / 8 = 30
                  · by_cases e2 : b.toNat / 64 = 2
                    · by_cases e3 : c.toNat / 64 = 2
                      · have e4 : ¬ d.toNat / 64 = 2 := fun e4 => h8 ⟨e1, e2, e3, e4⟩
                        simp [h2, h5, e1, e2, e3, e4, Utf8.runeError]
                      · simp [h2, h5, e1, e2, e3, Utf8.runeError]
                    · simp [h2, h5, e1, e2, Utf8.runeError]
                  · simp [h2, h5, e1, Utf8.runeError]
end Go.Proofs.YthlppbpccldikaaDoor
