/-
  Several texts in one file, in build order:
  - Plain facts on UTF-8: what a list of bytes decodes to at its head, what a number encodes to, and that the two agree. No program.
  - Plain functions of chapter 1 (text): which numbers are characters, which may stand in names; what a list of bytes checks as. No program.
  - DERIVED: THE SHELF's CONTRACTS AT THIS DUMP, IN PLAIN WORDS (tools/lay-plain.mjs out of 'TryzShelf.lean', which tools/lay-shelf.mjs wrote): THE SAME DECLARATIONS UNDER THE SAME NAMES: 'import', 'namespace', 'open', 'def', 'theorem' AND NOTHING ELSE: no command of the shelf's: FOR A HAND-IN. Each laying: the table of numbers ('.._ren') and one theorem, a field a fact of the dump's own or the kernel's comparison; each contract: ONE APPLICATION.
  - A strings.Builder that a call has made itself: copyCheck, WriteByte, WriteString, String over this translation (after the shelf's proofs of the forms _k; here copyCheck's last branch is a refusal).
-/
import GoSem.Core.Utf8
import Derived.Laws.Strings
import Derived.Shelf.Strings.Builder1
import Derived.Shelf.Strings.Builder2
import Derived.Shelf.Small.Utf8
import Derived.Shelf.Small.Strs
import Derived.Shelf.Small.Wraps
import Derived.Shelf.Strings.BuilderF
import Derived.Shelf.Strings.BuilderK
import Derived.Shelf.Strings.BuilderRune
import Derived.Shelf.Utf8.AppendRune
import Derived.Shelf.Utf8.AppendRunePlain
import Derived.Shelf.Strings.Search1
import Derived.Shelf.Strings.Search2
import Derived.Shelf.Strings.Search3
import Derived.Shelf.Strings.Cut
import Derived.Shelf.Strings.Count
import Derived.Shelf.LaysM
import Derived.Shelf.Strings.Shaped
import Derived.Shelf.Strings.Prefix
import Derived.Shelf.Strings.Split
import Derived.Shelf.Strings.Replace
import Derived.Shelf.Strings.SplitShaped
import Derived.Shelf.Bits.Mul64
import Derived.Shelf.Strings.Repeat
import Derived.Shelf.Unicode.DecodeSlow
import Derived.Shelf.Unicode.DecodeAny
import Derived.Test.YtclhdppppgjgfaaGreatDoorProg
import Derived.WalkKit
import Derived.Lib.Hide
import Derived.Outline
set_option linter.unusedVariables false
namespace Go.Proofs.YtclhdppppgjgfaaGreatDoor

abbrev Bytes := List UInt8

/-- A Go string of these bytes. -/
def S (l : Bytes) : ByteArray := ⟨l.toArray⟩

/-- The rune at the head and its length; length 0: none starts here. -/
def dec : Bytes → Nat × Nat
  | [] => (0, 0)
  | a :: t =>
    if a.toNat < 128 then (a.toNat, 1) else
    match t with
    | [] => (0, 0)
    | b :: t =>
      if a.toNat / 32 = 6 then
        (if b.toNat / 64 = 2 ∧ 128 ≤ a.toNat % 32 * 64 + b.toNat % 64 then (a.toNat % 32 * 64 + b.toNat % 64, 2) else (0, 0))
      else
      match t with
      | [] => (0, 0)
      | c :: t =>
        if a.toNat / 16 = 14 then
          (if b.toNat / 64 = 2 ∧ c.toNat / 64 = 2 ∧ 2048 ≤ a.toNat % 16 * 4096 + b.toNat % 64 * 64 + c.toNat % 64 ∧
              (a.toNat % 16 * 4096 + b.toNat % 64 * 64 + c.toNat % 64 < 55296 ∨ 57344 ≤ a.toNat % 16 * 4096 + b.toNat % 64 * 64 + c.toNat % 64) then
            (a.toNat % 16 * 4096 + b.toNat % 64 * 64 + c.toNat % 64, 3) else (0, 0))
        else
        match t with
        | [] => (0, 0)
        | d :: _ =>
          if a.toNat / 8 = 30 ∧ b.toNat / 64 = 2 ∧ c.toNat / 64 = 2 ∧ d.toNat / 64 = 2 ∧
              65536 ≤ a.toNat % 8 * 262144 + b.toNat % 64 * 4096 + c.toNat % 64 * 64 + d.toNat % 64 ∧
              a.toNat % 8 * 262144 + b.toNat % 64 * 4096 + c.toNat % 64 * 64 + d.toNat % 64 ≤ 1114111 then
            (a.toNat % 8 * 262144 + b.toNat % 64 * 4096 + c.toNat % 64 * 64 + d.toNat % 64, 4)
          else (0, 0)

/-- A number that stands for a rune. -/
def okRune (r : Nat) : Prop := r < 55296 ∨ (57344 ≤ r ∧ r ≤ 1114111)
instance (r : Nat) : Decidable (okRune r) := by unfold okRune; exact inferInstance

/-- The encoding of a rune; empty for a number that is none. -/
def enc (r : Nat) : Bytes :=
  if ¬ okRune r then []
  else if r < 128 then [UInt8.ofNat r]
  else if r < 2048 then [UInt8.ofNat (192 + r / 64), UInt8.ofNat (128 + r % 64)]
  else if r < 65536 then [UInt8.ofNat (224 + r / 4096), UInt8.ofNat (128 + r / 64 % 64), UInt8.ofNat (128 + r % 64)]
  else [UInt8.ofNat (240 + r / 262144), UInt8.ofNat (128 + r / 4096 % 64), UInt8.ofNat (128 + r / 64 % 64), UInt8.ofNat (128 + r % 64)]

theorem u8_eq {a : UInt8} {n : Nat} (h : a.toNat = n) : UInt8.ofNat n = a := by
  subst h; exact UInt8.ofNat_toNat
theorem u8_lt (a : UInt8) : a.toNat < 256 := a.toNat_lt
theorem u8_of {n : Nat} (h : n < 256) : (UInt8.ofNat n).toNat = n := by
  rw [UInt8.toNat_ofNat']; exact Nat.mod_eq_of_lt h

theorem dec_le (l : Bytes) : (dec l).2 ≤ l.length ∧ (dec l).2 ≤ 4 := by
  unfold dec
  repeat' split
  all_goals simp

/-- What is decoded is a rune, and its encoding is what was read. -/
theorem dec_enc (l : Bytes) (h : (dec l).2 ≠ 0) : okRune (dec l).1 ∧ enc (dec l).1 = l.take (dec l).2 := by
  match l with
  | [] => exact absurd rfl h
  | a :: t =>
    have ha := u8_lt a
    unfold dec at h ⊢
    by_cases h1 : a.toNat < 128
    · simp only [h1, if_true] at h ⊢
      have ho : okRune a.toNat := by unfold okRune; omega
      exact ⟨ho, by simp [enc, ho, h1]⟩
    · simp only [h1, if_false] at h ⊢
      match t with
      | [] => exact absurd rfl h
      | b :: t =>
        have hb := u8_lt b
        dsimp only at h ⊢
        by_cases h2 : a.toNat / 32 = 6
        · simp only [h2, if_true] at h ⊢
          by_cases h3 : b.toNat / 64 = 2 ∧ 128 ≤ a.toNat % 32 * 64 + b.toNat % 64
          · rw [if_pos h3] at h ⊢
            obtain ⟨h3, h4⟩ := h3
            have ho : okRune (a.toNat % 32 * 64 + b.toNat % 64) := by unfold okRune; omega
            refine ⟨ho, ?_⟩
            dsimp only
            unfold enc
            rw [if_neg (by simpa using ho), if_neg (by omega), if_pos (by omega)]
            rw [u8_eq (a := a) (by omega), u8_eq (a := b) (by omega)]
            rfl
          · rw [if_neg h3] at h; exact absurd rfl h
        · simp only [h2, if_false] at h ⊢
          match t with
          | [] => exact absurd rfl h
          | c :: t =>
            have hc := u8_lt c
            dsimp only at h ⊢
            by_cases h5 : a.toNat / 16 = 14
            · simp only [h5, if_true] at h ⊢
              by_cases h6 : b.toNat / 64 = 2 ∧ c.toNat / 64 = 2 ∧ 2048 ≤ a.toNat % 16 * 4096 + b.toNat % 64 * 64 + c.toNat % 64 ∧
                (a.toNat % 16 * 4096 + b.toNat % 64 * 64 + c.toNat % 64 < 55296 ∨ 57344 ≤ a.toNat % 16 * 4096 + b.toNat % 64 * 64 + c.toNat % 64)
              · rw [if_pos h6] at h ⊢
                obtain ⟨h6, h7, h8, h9⟩ := h6
                have ho : okRune (a.toNat % 16 * 4096 + b.toNat % 64 * 64 + c.toNat % 64) := by unfold okRune; omega
                refine ⟨ho, ?_⟩
                dsimp only
                unfold enc
                rw [if_neg (by simpa using ho), if_neg (by omega), if_neg (by omega), if_pos (by omega)]
                rw [u8_eq (a := a) (by omega), u8_eq (a := b) (by omega), u8_eq (a := c) (by omega)]
                rfl
              · rw [if_neg h6] at h; exact absurd rfl h
            · simp only [h5, if_false] at h ⊢
              match t with
              | [] => exact absurd rfl h
              | d :: t =>
                have hd := u8_lt d
                dsimp only at h ⊢
                by_cases h10 : a.toNat / 8 = 30 ∧ b.toNat / 64 = 2 ∧ c.toNat / 64 = 2 ∧ d.toNat / 64 = 2 ∧
                    65536 ≤ a.toNat % 8 * 262144 + b.toNat % 64 * 4096 + c.toNat % 64 * 64 + d.toNat % 64 ∧
                    a.toNat % 8 * 262144 + b.toNat % 64 * 4096 + c.toNat % 64 * 64 + d.toNat % 64 ≤ 1114111
                · rw [if_pos h10] at h ⊢
                  obtain ⟨e1, e2, e3, e4, e5, e6⟩ := h10
                  have ho : okRune (a.toNat % 8 * 262144 + b.toNat % 64 * 4096 + c.toNat % 64 * 64 + d.toNat % 64) := by unfold okRune; omega
                  refine ⟨ho, ?_⟩
                  dsimp only
                  unfold enc
                  rw [if_neg (by simpa using ho), if_neg (by omega), if_neg (by omega), if_neg (by omega)]
                  rw [u8_eq (a := a) (by omega), u8_eq (a := b) (by omega), u8_eq (a := c) (by omega), u8_eq (a := d) (by omega)]
                  rfl
                · rw [if_neg h10] at h; exact absurd rfl h

/-- What is encoded is decoded. -/
theorem enc_dec {r : Nat} (h : okRune r) (t : Bytes) : dec (enc r ++ t) = (r, (enc r).length) := by
  unfold enc
  rw [if_neg (by simpa using h)]
  have h' := h
  unfold okRune at h'
  by_cases h1 : r < 128
  · rw [if_pos h1]
    simp only [List.cons_append, List.nil_append, dec, u8_of (show r < 256 by omega), h1, if_true]
    rfl
  · rw [if_neg h1]
    by_cases h2 : r < 2048
    · rw [if_pos h2]
      simp only [List.cons_append, List.nil_append, dec, u8_of (show 192 + r / 64 < 256 by omega), u8_of (show 128 + r % 64 < 256 by omega)]
      rw [if_neg (by omega), if_pos (by omega), if_pos (by omega)]
      simp only [List.length_cons, List.length_nil, Prod.mk.injEq, and_true]
      omega
    · rw [if_neg h2]
      by_cases h3 : r < 65536
      · rw [if_pos h3]
        simp only [List.cons_append, List.nil_append, dec, u8_of (show 224 + r / 4096 < 256 by omega), u8_of (show 128 + r / 64 % 64 < 256 by omega), u8_of (show 128 + r % 64 < 256 by omega)]
        rw [if_neg (by omega), if_neg (by omega), if_pos (by omega), if_pos (by omega)]
        simp only [List.length_cons, List.length_nil, Prod.mk.injEq, and_true]
        omega
      · rw [if_neg h3]
        simp only [List.cons_append, List.nil_append, dec, u8_of (show 240 + r / 262144 < 256 by omega), u8_of (show 128 + r / 4096 % 64 < 256 by omega), u8_of (show 128 + r / 64 % 64 < 256 by omega), u8_of (show 128 + r % 64 < 256 by omega)]
        rw [if_neg (by omega), if_neg (by omega), if_neg (by omega), if_pos (by omega)]
        simp only [List.length_cons, List.length_nil, Prod.mk.injEq, and_true]
        omega

theorem enc_len (r : Nat) (h : okRune r) : 1 ≤ (enc r).length ∧ (enc r).length ≤ 4 := by
  unfold enc
  rw [if_neg (by simpa using h)]
  repeat' split
  all_goals simp

/-- The model's own decoder. -/
theorem utf8_dec (l : Bytes) (h : l ≠ []) : Utf8.decode (S l) 0 = if (dec l).2 = 0 then (65533, 1) else dec l := by
  have hg : ∀ (m : Bytes) (k : Nat), (S m).get! k = m.getD k 0 := by
    intro m k
    simp [S, ByteArray.get!, getElem!_def, List.getD]
    rfl
  have hs : ∀ m : Bytes, (S m).size = m.length := by intro m; simp [S, ByteArray.size]
  match l with
  | [] => exact absurd rfl h
  | a :: t =>
    have ha := u8_lt a
    unfold Utf8.decode dec
    simp only [hg, hs, Nat.zero_add, List.getD_cons_zero]
    by_cases h1 : a.toNat < 128
    · simp [h1]
    · simp only [h1, if_false]
      match t with
      | [] => simp [Utf8.runeError]
      | b :: t =>
        have hb := u8_lt b
        by_cases h2 : a.toNat / 32 = 6
        · have h2' : (a.toNat / 16 == 14) = false := by simp; omega
          have h2'' : (a.toNat / 8 == 30) = false := by simp; omega
          by_cases h3 : b.toNat / 64 = 2
          · by_cases h4 : 128 ≤ a.toNat % 32 * 64 + b.toNat % 64 <;> simp [h2, h3, h4, Utf8.runeError]
          · simp [h2, h3, h2', h2'', Utf8.runeError]
        · match t with
          | [] => simp [h2, Utf8.runeError]
          | c :: t =>
            have hc := u8_lt c
            by_cases h5 : a.toNat / 16 = 14
            · have h5'' : (a.toNat / 8 == 30) = false := by simp; omega
              by_cases h3 : b.toNat / 64 = 2
              · by_cases h6 : c.toNat / 64 = 2
                · by_cases h4 : 2048 ≤ a.toNat % 16 * 4096 + b.toNat % 64 * 64 + c.toNat % 64
                  · by_cases h7 : a.toNat % 16 * 4096 + b.toNat % 64 * 64 + c.toNat % 64 < 55296 ∨ 57344 ≤ a.toNat % 16 * 4096 + b.toNat % 64 * 64 + c.toNat % 64
                    · have hv : Utf8.valid ((a.toNat % 16 * 4096 + b.toNat % 64 * 64 + c.toNat % 64 : Nat) : Int) = true := by
                        unfold Utf8.valid; simp; omega
                      simp [h2, h5, h3, h6, h4, h7, hv, -Int.natCast_add, -Int.natCast_mul, -Int.natCast_emod]
                    · have hv : Utf8.valid ((a.toNat % 16 * 4096 + b.toNat % 64 * 64 + c.toNat % 64 : Nat) : Int) = false := by
                        unfold Utf8.valid; simp; omega
                      simp [h2, h5, h3, h6, h4, h7, hv, Utf8.runeError, -Int.natCast_add, -Int.natCast_mul, -Int.natCast_emod]
                  · simp [h2, h5, h3, h6, h4, Utf8.runeError]
                · simp [h2, h5, h3, h6, h5'', Utf8.runeError]
              · simp [h2, h5, h3, h5'', Utf8.runeError]
            · match t with
              | [] => simp [h2, h5, Utf8.runeError]
              | d :: t =>
                by_cases h8 : a.toNat / 8 = 30 ∧ b.toNat / 64 = 2 ∧ c.toNat / 64 = 2 ∧ d.toNat / 64 = 2
                · obtain ⟨e1, e2, e3, e4⟩ := h8
                  by_cases h9 : 65536 ≤ a.toNat % 8 * 262144 + b.toNat % 64 * 4096 + c.toNat % 64 * 64 + d.toNat % 64
                  · by_cases h10 : a.toNat % 8 * 262144 + b.toNat % 64 * 4096 + c.toNat % 64 * 64 + d.toNat % 64 ≤ 1114111
                    · have hv : Utf8.valid ((a.toNat % 8 * 262144 + b.toNat % 64 * 4096 + c.toNat % 64 * 64 + d.toNat % 64 : Nat) : Int) = true := by
                        unfold Utf8.valid; simp; omega
                      simp [h2, h5, e1, e2, e3, e4, h9, h10, hv, -Int.natCast_add, -Int.natCast_mul, -Int.natCast_emod]
                    · have hv : Utf8.valid ((a.toNat % 8 * 262144 + b.toNat % 64 * 4096 + c.toNat % 64 * 64 + d.toNat % 64 : Nat) : Int) = false := by
                        unfold Utf8.valid; simp; omega
                      simp [h2, h5, e1, e2, e3, e4, h9, h10, hv, Utf8.runeError, -Int.natCast_add, -Int.natCast_mul, -Int.natCast_emod]
                  · simp [h2, h5, e1, e2, e3, e4, h9, Utf8.runeError]
                · by_cases e1 : a.toNat / 8 = 30
                  · by_cases e2 : b.toNat / 64 = 2
                    · by_cases e3 : c.toNat / 64 = 2
                      · have e4 : ¬ d.toNat / 64 = 2 := fun e4 => h8 ⟨e1, e2, e3, e4⟩
                        simp [h2, h5, e1, e2, e3, e4, Utf8.runeError]
                      · simp [h2, h5, e1, e2, e3, Utf8.runeError]
                    · simp [h2, h5, e1, e2, Utf8.runeError]
                  · simp [h2, h5, e1, Utf8.runeError]
end Go.Proofs.YtclhdppppgjgfaaGreatDoor
set_option linter.unusedVariables false
namespace Go.Proofs.YtclhdppppgjgfaaGreatDoor

def isChar (r : Int) : Bool := decide (r = 9 ∨ r = 10 ∨ r = 13 ∨ (32 ≤ r ∧ r ≤ 55295) ∨ (57344 ≤ r ∧ r ≤ 65533) ∨ (65536 ≤ r ∧ r ≤ 1114111))
theorem isChar_yes {r : Int} (h : r = 9 ∨ r = 10 ∨ r = 13 ∨ (32 ≤ r ∧ r ≤ 55295) ∨ (57344 ≤ r ∧ r ≤ 65533) ∨ (65536 ≤ r ∧ r ≤ 1114111)) : isChar r = true := decide_eq_true h
theorem isChar_no {r : Int} (h : ¬ (r = 9 ∨ r = 10 ∨ r = 13 ∨ (32 ≤ r ∧ r ≤ 55295) ∨ (57344 ≤ r ∧ r ≤ 65533) ∨ (65536 ≤ r ∧ r ≤ 1114111))) : isChar r = false := decide_eq_false h
theorem isChar_iff {r : Int} : isChar r = true ↔ (r = 9 ∨ r = 10 ∨ r = 13 ∨ (32 ≤ r ∧ r ≤ 55295) ∨ (57344 ≤ r ∧ r ≤ 65533) ∨ (65536 ≤ r ∧ r ≤ 1114111)) := by unfold isChar; simp

def startRanges : List (Int × Int) := [(65, 90), (95, 95), (97, 122), (192, 214), (216, 246), (248, 767), (880, 893), (895, 8191), (8204, 8205), (8304, 8591), (11264, 12271), (12289, 55295), (63744, 64975), (65008, 65533), (65536, 983039)]
def moreRanges : List (Int × Int) := [(45, 46), (48, 57), (183, 183), (768, 879), (8255, 8256)]
def inRanges (l : List (Int × Int)) (r : Int) : Bool := l.any fun p => decide (p.1 ≤ r ∧ r ≤ p.2)
def nameStart (r : Int) : Bool := inRanges startRanges r
def nameChar (r : Int) : Bool := inRanges moreRanges r || nameStart r

def nsLetter (r : Int) : Bool := decide ((65 ≤ r ∧ r ≤ 90) ∨ (97 ≤ r ∧ r ≤ 122) ∨ r = 95)
def nsLow (r : Int) : Bool := decide ((192 ≤ r ∧ r ≤ 767 ∧ r ≠ 215 ∧ r ≠ 247) ∨ (880 ≤ r ∧ r ≤ 8191 ∧ r ≠ 894))
def nsMiddle (r : Int) : Bool := decide (r = 8204 ∨ r = 8205 ∨ (8304 ≤ r ∧ r ≤ 8591) ∨ (11264 ≤ r ∧ r ≤ 12271) ∨ (12289 ≤ r ∧ r ≤ 55295))
def nsHigh (r : Int) : Bool := decide ((63744 ≤ r ∧ r ≤ 64975) ∨ (65008 ≤ r ∧ r ≤ 65533) ∨ (65536 ≤ r ∧ r ≤ 983039))
theorem nameStart_eq (r : Int) : nameStart r = (nsLetter r || nsLow r || nsMiddle r || nsHigh r) := by
  rw [Bool.eq_iff_iff]
  simp only [nameStart, inRanges, startRanges, nsLetter, nsLow, nsMiddle, nsHigh, List.any_cons, List.any_nil, Bool.or_eq_true, decide_eq_true_eq, Bool.or_false]
  omega
theorem more_iff (r : Int) : inRanges moreRanges r = true ↔ ((48 ≤ r ∧ r ≤ 57) ∨ r = 45 ∨ r = 46 ∨ r = 183 ∨ (768 ≤ r ∧ r ≤ 879) ∨ r = 8255 ∨ r = 8256) := by
  simp only [inRanges, moreRanges, List.any_cons, List.any_nil, Bool.or_eq_true, decide_eq_true_eq, Bool.or_false]
  omega
theorem nameChar_of_start {r : Int} (h : nameStart r = true) : nameChar r = true := by simp [nameChar, h]
theorem nameStart_pos {r : Int} (h : nameStart r = true) : 65 ≤ r ∧ r ≤ 983039 ∧ isChar r = true := by
  simp only [nameStart, inRanges, startRanges, List.any_cons, List.any_nil, Bool.or_eq_true, decide_eq_true_eq, Bool.or_false] at h
  rw [isChar_iff]
  omega

/-- Offset and error of the first byte that is no part of an XML character. -/
def chkS : Nat → Bytes → Nat → Nat × Nat
  | _, [], at_ => (at_, 0)
  | k + 1, _ :: t, at_ => chkS k t (at_ + 1)
  | 0, a :: t, at_ =>
    if (dec (a :: t)).2 = 0 then (at_, 5)
    else if isChar (dec (a :: t)).1 then chkS ((dec (a :: t)).2 - 1) t (at_ + 1)
    else (at_, 6)
def check (l : Bytes) : Nat × Nat := chkS 0 l 0

theorem chkS_skip : ∀ (k : Nat) (l : Bytes) (at_ : Nat), k ≤ l.length → chkS k l at_ = chkS 0 (l.drop k) (at_ + k)
  | 0, l, at_, _ => by simp
  | k + 1, [], _, h => by simp at h
  | k + 1, a :: t, at_, h => by
    rw [chkS, chkS_skip k t (at_ + 1) (by simpa using h)]
    simp only [List.drop_succ_cons]
    rw [show at_ + 1 + k = at_ + (k + 1) by omega]
theorem chk_bad {l : Bytes} {at_ : Nat} (h0 : l ≠ []) (h : (dec l).2 = 0) : chkS 0 l at_ = (at_, 5) := by
  cases l with
  | nil => exact absurd rfl h0
  | cons a t => simp [chkS, h]
theorem chk_char {l : Bytes} {at_ : Nat} (h0 : l ≠ []) (h : (dec l).2 ≠ 0) (hc : isChar (dec l).1 = false) : chkS 0 l at_ = (at_, 6) := by
  cases l with
  | nil => exact absurd rfl h0
  | cons a t => simp [chkS, h, hc]
theorem chk_next {l : Bytes} {at_ : Nat} (h0 : l ≠ []) (h : (dec l).2 ≠ 0) (hc : isChar (dec l).1 = true) : chkS 0 l at_ = chkS 0 (l.drop (dec l).2) (at_ + (dec l).2) := by
  cases l with
  | nil => exact absurd rfl h0
  | cons a t =>
    have hl := (dec_le (a :: t)).1
    rw [chkS, if_neg h, if_pos hc, chkS_skip _ _ _ (by simp at hl; omega)]
    obtain ⟨k, hk⟩ : ∃ k, (dec (a :: t)).2 = k + 1 := ⟨(dec (a :: t)).2 - 1, by omega⟩
    rw [hk]
    simp only [Nat.add_sub_cancel, List.drop_succ_cons]
    rw [show at_ + 1 + k = at_ + (k + 1) by omega]

/-! The reference's way to decode: encode what each length would yield. -/
def rp0 (l : Bytes) (n : Nat) : Nat :=
  if n = 2 then (l.getD 0 0).toNat % 32 else if n = 3 then (l.getD 0 0).toNat % 16 else if n = 4 then (l.getD 0 0).toNat % 8 else (l.getD 0 0).toNat
def rp (l : Bytes) (n : Nat) : Nat → Nat
  | 0 => rp0 l n
  | i + 1 => rp l n i * 64 + (l.getD (i + 1) 0).toNat % 64
def rv (l : Bytes) (n : Nat) : Nat := rp l n (n - 1)
theorem rp_le (l : Bytes) (n i : Nat) (h : i ≤ 3) : rp l n i < 67108864 := by
  have h0 : rp0 l n < 256 := by have := u8_lt (l.getD 0 0); unfold rp0; repeat' split
                                all_goals omega
  match i, h with
  | 0, _ => simp only [rp]; omega
  | 1, _ => simp only [rp]; omega
  | 2, _ => simp only [rp]; omega
  | 3, _ => simp only [rp]; omega
def encI (r : Int) : Bytes := if r < 0 then [] else enc r.toNat
theorem encI_nat (n : Nat) : encI (n : Int) = enc n := by simp [encI, Int.not_lt.2 (Int.natCast_nonneg n)]

theorem ref_hit {l : Bytes} {n : Nat} (h1 : 1 ≤ n) (h2 : n ≤ l.length) (h : enc (rv l n) = l.take n) : dec l = (rv l n, n) := by
  have ho : okRune (rv l n) := by
    by_cases ho : okRune (rv l n)
    · exact ho
    · exfalso
      have : enc (rv l n) = [] := by simp [enc, ho]
      rw [this] at h
      have := congrArg List.length h
      simp at this
      omega
  have := enc_dec ho (l.drop n)
  rw [h, List.take_append_drop] at this
  rw [this, List.length_take, Nat.min_eq_left h2]
theorem dec_cases (l : Bytes) : dec l = (0, 0) ∨ ((dec l).2 ≠ 0 ∧ rv l (dec l).2 = (dec l).1) := by
  match l with
  | [] => exact .inl rfl
  | a :: t =>
    by_cases h1 : a.toNat < 128
    · refine .inr ?_
      simp [dec, h1, rv, rp, rp0]
    · match t with
      | [] => refine .inl ?_; simp [dec, h1]
      | b :: t =>
        by_cases h2 : a.toNat / 32 = 6
        · by_cases h3 : b.toNat / 64 = 2 ∧ 128 ≤ a.toNat % 32 * 64 + b.toNat % 64
          · refine .inr ?_
            simp [dec, h1, h2, h3, rv, rp, rp0]
          · refine .inl ?_
            simp [dec, h1, h2, h3]
        · match t with
          | [] => refine .inl ?_; simp [dec, h1, h2]
          | c :: t =>
            by_cases h5 : a.toNat / 16 = 14
            · by_cases h6 : b.toNat / 64 = 2 ∧ c.toNat / 64 = 2 ∧ 2048 ≤ a.toNat % 16 * 4096 + b.toNat % 64 * 64 + c.toNat % 64 ∧
                (a.toNat % 16 * 4096 + b.toNat % 64 * 64 + c.toNat % 64 < 55296 ∨ 57344 ≤ a.toNat % 16 * 4096 + b.toNat % 64 * 64 + c.toNat % 64)
              · refine .inr ?_
                simp only [dec, h1, h2, h5, if_false, if_true]
                rw [if_pos h6]
                simp [rv, rp, rp0]
                omega
              · refine .inl ?_
                simp only [dec, h1, h2, h5, if_false, if_true]
                rw [if_neg h6]
            · match t with
              | [] => refine .inl ?_; simp [dec, h1, h2, h5]
              | d :: t =>
                by_cases h10 : a.toNat / 8 = 30 ∧ b.toNat / 64 = 2 ∧ c.toNat / 64 = 2 ∧ d.toNat / 64 = 2 ∧
                    65536 ≤ a.toNat % 8 * 262144 + b.toNat % 64 * 4096 + c.toNat % 64 * 64 + d.toNat % 64 ∧
                    a.toNat % 8 * 262144 + b.toNat % 64 * 4096 + c.toNat % 64 * 64 + d.toNat % 64 ≤ 1114111
                · refine .inr ?_
                  simp only [dec, h1, h2, h5, if_false]
                  rw [if_pos h10]
                  simp [rv, rp, rp0]
                  omega
                · refine .inl ?_
                  simp only [dec, h1, h2, h5, if_false]
                  rw [if_neg h10]
theorem dec_zero {l : Bytes} (h : (dec l).2 = 0) : dec l = (0, 0) := (dec_cases l).elim id fun h' => absurd h h'.1
theorem dec_rv {l : Bytes} (h : (dec l).2 ≠ 0) : rv l (dec l).2 = (dec l).1 := (dec_cases l).elim (fun e => absurd (by rw [e]) h) fun h' => h'.2
theorem ref_miss {l : Bytes} (h : ∀ n, 1 ≤ n → n ≤ 4 → n ≤ l.length → enc (rv l n) ≠ l.take n) : dec l = (0, 0) := by
  by_cases h0 : (dec l).2 = 0
  · exact dec_zero h0
  · exfalso
    have hl := dec_le l
    exact h _ (by omega) hl.2 hl.1 (by rw [dec_rv h0]; exact (dec_enc l h0).2)
end Go.Proofs.YtclhdppppgjgfaaGreatDoor
namespace Go.Proofs
open Go.Shelf
def Tryz.lays170_ren : Go.Shelf.Ren := ⟨fun | 170 => 48 | n => n, fun | 70 => 65 | 3 => 3 | 0 => 0 | 72 => 68 | 37 => 66 | 5 => 5 | n => n, fun | n => n⟩
theorem Tryz.lays170 : Go.Proofs.Lays.n170 Tryz.prog Tryz.lays170_ren := {
  mixed := by kernel_rfl
  f170 := Tryz.func48.trans (congrArg some (by kernel_rfl))
  t0 := Tryz.underlying0
  a0 := Tryz.isAgg0
  z0 := Tryz.sizeOf0
  v0 := Tryz.zeroValue0
  t3 := Tryz.underlying3
  a3 := Tryz.isAgg3
  z3 := Tryz.sizeOf3
  v3 := Tryz.zeroValue3
  t37 := Tryz.underlying66
  a37 := Tryz.isAgg66
  z37 := Tryz.sizeOf66
  v37 := Tryz.zeroValue66
  t70 := Tryz.underlying65
  a70 := Tryz.isAgg65
  z70 := Tryz.sizeOf65
  v70 := Tryz.zeroValue65
  t72 := Tryz.underlying68
  a72 := Tryz.isAgg68
  z72 := Tryz.sizeOf68
  v72 := Tryz.zeroValue68 }
def Tryz.lays169_ren : Go.Shelf.Ren := ⟨fun | 169 => 39 | n => n, fun | 70 => 65 | 9 => 9 | 0 => 0 | 72 => 68 | 37 => 66 | 127 => 103 | 3 => 3 | 5 => 5 | n => n, fun | n => n⟩
theorem Tryz.lays169 : Go.Proofs.Lays.n169 Tryz.prog Tryz.lays169_ren := {
  mixed := by kernel_rfl
  f169 := Tryz.func39.trans (congrArg some (by kernel_rfl))
  t0 := Tryz.underlying0
  a0 := Tryz.isAgg0
  z0 := Tryz.sizeOf0
  v0 := Tryz.zeroValue0
  t3 := Tryz.underlying3
  a3 := Tryz.isAgg3
  z3 := Tryz.sizeOf3
  v3 := Tryz.zeroValue3
  t9 := Tryz.underlying9
  a9 := Tryz.isAgg9
  z9 := Tryz.sizeOf9
  v9 := Tryz.zeroValue9
  t37 := Tryz.underlying66
  a37 := Tryz.isAgg66
  z37 := Tryz.sizeOf66
  v37 := Tryz.zeroValue66
  t70 := Tryz.underlying65
  a70 := Tryz.isAgg65
  z70 := Tryz.sizeOf65
  v70 := Tryz.zeroValue65
  t72 := Tryz.underlying68
  a72 := Tryz.isAgg68
  z72 := Tryz.sizeOf68
  v72 := Tryz.zeroValue68
  t127 := Tryz.underlying103
  a127 := Tryz.isAgg103
  z127 := Tryz.sizeOf103
  v127 := Tryz.zeroValue103 }
theorem Tryz.Builder_Extra_169 : Builder.Extra Tryz.prog Tryz.lays169_ren := {
  sizeBuilder := by kernel_rfl
  liesBuilder := by kernel_rfl
  t5 := Tryz.underlying5
  a5 := Tryz.isAgg5
  z5 := Tryz.sizeOf5
  v5 := Tryz.zeroValue5
  infoByte := by kernel_rfl
  cellsByte := by kernel_rfl
  sizeByte := by kernel_rfl
  neB5 := by decide }
def Tryz.lays137_ren : Go.Shelf.Ren := ⟨fun | 137 => 88 | 217 => 112 | 266 => 128 | n => n, fun | 9 => 9 | 5 => 5 | 3 => 3 | n => n, fun | n => n⟩
theorem Tryz.lays137 : Go.Proofs.Lays.n137 Tryz.prog Tryz.lays137_ren := {
  mixed := by kernel_rfl
  f137 := Tryz.func88.trans (congrArg some (by kernel_rfl))
  f217 := Tryz.func112.trans (congrArg some (by kernel_rfl))
  f266 := Tryz.func128.trans (congrArg some (by kernel_rfl))
  t3 := Tryz.underlying3
  a3 := Tryz.isAgg3
  z3 := Tryz.sizeOf3
  v3 := Tryz.zeroValue3
  t5 := Tryz.underlying5
  a5 := Tryz.isAgg5
  z5 := Tryz.sizeOf5
  v5 := Tryz.zeroValue5
  t9 := Tryz.underlying9
  a9 := Tryz.isAgg9
  z9 := Tryz.sizeOf9
  v9 := Tryz.zeroValue9 }
open Go.RowKit in
/-- strings.IndexByte: "IndexByte returns the index of the first instance of c in s, or -1 if c is not present in s.": IT RETURNS 'Lib.indexByte s c'; the world is as it was. (LAID: no walk: one application.) -/
theorem Tryz.strings_IndexByte (s : ByteArray) (c : Int) (w : World) :
    Calls Tryz.prog 88 #[.string s, .int .u8 c] w fun e w' => e = .returned (.int .i64 (Lib.indexByte s.data.toList c.toNat.toUInt8)) ∧ w' = w := Any.strings_IndexByte Tryz.lays137 s c w
def Tryz.lays103_ren : Go.Shelf.Ren := ⟨fun | 103 => 129 | 210 => 139 | 206 => 43 | n => n, fun | 9 => 9 | 4 => 4 | 24 => 122 | 3 => 3 | n => n, fun | n => n⟩
theorem Tryz.lays103 : Go.Proofs.Lays.n103 Tryz.prog Tryz.lays103_ren := {
  mixed := by kernel_rfl
  f103 := Tryz.func129.trans (congrArg some (by kernel_rfl))
  f206 := Tryz.func43.trans (congrArg some (by kernel_rfl))
  f210 := Tryz.func139.trans (congrArg some (by kernel_rfl))
  t3 := Tryz.underlying3
  a3 := Tryz.isAgg3
  z3 := Tryz.sizeOf3
  v3 := Tryz.zeroValue3
  t4 := Tryz.underlying4
  a4 := Tryz.isAgg4
  z4 := Tryz.sizeOf4
  v4 := Tryz.zeroValue4
  t9 := Tryz.underlying9
  a9 := Tryz.isAgg9
  z9 := Tryz.sizeOf9
  v9 := Tryz.zeroValue9
  t24 := Tryz.underlying122
  a24 := Tryz.isAgg122
  z24 := Tryz.sizeOf122
  v24 := Tryz.zeroValue122 }
open Go.RowKit in
/-- strings.CutPrefix: "CutPrefix returns s without the provided leading prefix string and reports whether it found the prefix. If s doesn't start with prefix, CutPrefix returns s, false. If prefix is the empty string, CutPrefix returns s, true.": IT RETURNS '(Lib.trimPrefix s p, Lib.hasPrefix s p)'; the world is as it was. (LAID: no walk: one application.) -/
theorem Tryz.strings_CutPrefix (s p : ByteArray) (w : World) :
    Calls Tryz.prog 129 #[.string s, .string p] w fun e w' => e = .returned (.tuple #[.string ⟨(Lib.trimPrefix s.data.toList p.data.toList).toArray⟩, .bool (Lib.hasPrefix s.data.toList p.data.toList)]) ∧ w' = w := Any.strings_CutPrefix Tryz.lays103 s p w
open Go.RowKit in
/-- (*strings.Builder).Len: "Len returns the number of accumulated bytes; b.Len() == len(b.String()).": the world is as it was. (THE FORM '_f': 'Lib.IsBuilderF'.) (LAID: no walk: one application.) -/
theorem Tryz.Builder_Len_f (B b : Nat) (bs : List Value) (w : World) (h : Lib.IsBuilderF 68 5 B b bs w) :
    Calls Tryz.prog 48 #[.pointer (some ⟨b, 0, none⟩)] w fun e w' => e = .returned (.int .i64 bs.length) ∧ w' = w := Any.Builder_Len_f Tryz.lays170 B b bs w h
open Go.RowKit in
/-- (*strings.Builder).String: "String returns the accumulated string.": WHATEVER THE BUILDER HOLDS; THE FORM '_k': OVER 'Lib.IsBuilderF' (a builder that 'String()' may have read), AND WITH THE FRAME THAT REACHES ABOVE THE BUILDER: 'Lib.OthersKept': every block that is not b and is no row of uint8's stands as it stood: the iterator of a range among them. (LAID: no walk: one application.) -/
theorem Tryz.Builder_String_any_k (B b : Nat) (l : List UInt8) (w : World) (h : Lib.IsBuilderF 68 5 B b (Lib.byteCells l) w) (hBw : B ≤ w.heap.size) :
    Calls Tryz.prog 39 #[.pointer (some ⟨b, 0, none⟩)] w fun e w' => e = .returned (.string ⟨l.toArray⟩) ∧ (Lib.IsBuilderF 68 5 B b (Lib.byteCells l) w' ∧ Below B w w' ∧ Lib.OthersKept 5 (some b) w w') := Any.Builder_String_any_k Tryz.lays169 Tryz.Builder_Extra_169 B b l w h hBw
def Tryz.lays242_ren : Go.Shelf.Ren := ⟨fun | 242 => 131 | 278 => 140 | n => n, fun | 37 => 66 | 21 => 21 | 51 => 104 | 4 => 4 | 5 => 5 | 46 => 74 | n => n, fun | n => n⟩
theorem Tryz.lays242 : Go.Proofs.Lays.n242 Tryz.prog Tryz.lays242_ren := {
  mixed := by kernel_rfl
  f242 := Tryz.func131.trans (congrArg some (by kernel_rfl))
  f278 := Tryz.func140.trans (congrArg some (by kernel_rfl))
  t4 := Tryz.underlying4
  a4 := Tryz.isAgg4
  z4 := Tryz.sizeOf4
  v4 := Tryz.zeroValue4
  t5 := Tryz.underlying5
  a5 := Tryz.isAgg5
  z5 := Tryz.sizeOf5
  v5 := Tryz.zeroValue5
  t21 := Tryz.underlying21
  a21 := Tryz.isAgg21
  z21 := Tryz.sizeOf21
  v21 := Tryz.zeroValue21
  t37 := Tryz.underlying66
  a37 := Tryz.isAgg66
  z37 := Tryz.sizeOf66
  v37 := Tryz.zeroValue66
  t46 := Tryz.underlying74
  a46 := Tryz.isAgg74
  z46 := Tryz.sizeOf74
  v46 := Tryz.zeroValue74
  t51 := Tryz.underlying104
  a51 := Tryz.isAgg104
  z51 := Tryz.sizeOf104
  v51 := Tryz.zeroValue104 }
open Go.RowKit in
/-- unicode/utf8.AppendRune: "AppendRune appends the UTF-8 encoding of r to the end of p and returns the extended buffer. If the rune is out of range, it appends the encoding of RuneError.": ONTO A ROW OF BYTES THAT THE CALL OWNS (its head frozen or not): EVERY int32: 'Lib.runeCells r' goes in behind what the row holds; the world: one new block (the bytes as the call's variadic argument), then what 'append' does to the row. (LAID: no walk: one application.) -/
theorem Tryz.utf8_AppendRune_row (B : Nat) (v : Value) (n : Nat) (xs : List Value) (r : Int) (hr0 : -2147483648 ≤ r) (hr1 : r ≤ 2147483647) (w : World) (hown : w.ownsRowF B 5 1 v n xs) (hlen : n + 4 ≤ 140737488355328) (hBw : B ≤ w.heap.size) :
    Calls Tryz.prog 131 #[v, .int .i32 r] w fun e w' => ∃ v', e = .returned v' ∧ w'.ownsRowF B 5 1 v' (n + (Lib.runeCells r).length) (xs ++ Lib.runeCells r) ∧ ∃ o, (w.alloc o).grownBy w' v.ownBlock := Any.utf8_AppendRune_row Tryz.lays242 (by kernel_rfl) B v n xs r hr0 hr1 w hown hlen hBw
def Tryz.lays219_ren : Go.Shelf.Ren := ⟨fun | 219 => 136 | 217 => 112 | 225 => 145 | 224 => 146 | 267 => 147 | 266 => 128 | 314 => 156 | n => n, fun | 9 => 9 | 3 => 3 | 4 => 4 | 5 => 5 | 46 => 74 | 146 => 105 | 51 => 104 | n => n, fun | 1 => 0 | n => n⟩
theorem Tryz.lays219 : Go.Proofs.Lays.n219 Tryz.prog Tryz.lays219_ren := {
  mixed := by kernel_rfl
  f217 := Tryz.func112.trans (congrArg some (by kernel_rfl))
  f219 := Tryz.func136.trans (congrArg some (by kernel_rfl))
  f224 := Tryz.func146.trans (congrArg some (by kernel_rfl))
  f225 := Tryz.func145.trans (congrArg some (by kernel_rfl))
  f266 := Tryz.func128.trans (congrArg some (by kernel_rfl))
  f267 := Tryz.func147.trans (congrArg some (by kernel_rfl))
  f314 := Tryz.func156.trans (congrArg some (by kernel_rfl))
  t3 := Tryz.underlying3
  a3 := Tryz.isAgg3
  z3 := Tryz.sizeOf3
  v3 := Tryz.zeroValue3
  t4 := Tryz.underlying4
  a4 := Tryz.isAgg4
  z4 := Tryz.sizeOf4
  v4 := Tryz.zeroValue4
  t5 := Tryz.underlying5
  a5 := Tryz.isAgg5
  z5 := Tryz.sizeOf5
  v5 := Tryz.zeroValue5
  t9 := Tryz.underlying9
  a9 := Tryz.isAgg9
  z9 := Tryz.sizeOf9
  v9 := Tryz.zeroValue9
  t46 := Tryz.underlying74
  a46 := Tryz.isAgg74
  z46 := Tryz.sizeOf74
  v46 := Tryz.zeroValue74
  t51 := Tryz.underlying104
  a51 := Tryz.isAgg104
  z51 := Tryz.sizeOf104
  v51 := Tryz.zeroValue104
  t146 := Tryz.underlying105
  a146 := Tryz.isAgg105
  z146 := Tryz.sizeOf105
  v146 := Tryz.zeroValue105
  g1 := by kernel_rfl }
open Go.RowKit Go.Lib in
/-- internal/stringslite.Index (what strings.Index calls) AT A substr OF ONE BYTE c: IT RETURNS 'Lib.indexByte s c'; the world is as it was. (LAID: no walk: one application.) -/
theorem Tryz.stringslite_Index_one (s : ByteArray) (c : UInt8) (w : World) :
    Calls Tryz.prog 136 #[.string s, .string ⟨#[c]⟩] w fun e w' => e = .returned (.int .i64 (Lib.indexByte s.data.toList c)) ∧ w' = w := Any.stringslite_Index_one Tryz.lays219 s c w
def Tryz.lays145_ren : Go.Shelf.Ren := ⟨fun | 145 => 108 | 220 => 124 | 219 => 136 | 217 => 112 | 225 => 145 | 224 => 146 | 267 => 147 | 266 => 128 | 314 => 156 | n => n, fun | 9 => 9 | 4 => 4 | 59 => 138 | 3 => 3 | 5 => 5 | 46 => 74 | 146 => 105 | 51 => 104 | n => n, fun | 1 => 0 | n => n⟩
theorem Tryz.lays145 : Go.Proofs.Lays.n145 Tryz.prog Tryz.lays145_ren := {
  mixed := by kernel_rfl
  f145 := Tryz.func108.trans (congrArg some (by kernel_rfl))
  f217 := Tryz.func112.trans (congrArg some (by kernel_rfl))
  f219 := Tryz.func136.trans (congrArg some (by kernel_rfl))
  f220 := Tryz.func124.trans (congrArg some (by kernel_rfl))
  f224 := Tryz.func146.trans (congrArg some (by kernel_rfl))
  f225 := Tryz.func145.trans (congrArg some (by kernel_rfl))
  f266 := Tryz.func128.trans (congrArg some (by kernel_rfl))
  f267 := Tryz.func147.trans (congrArg some (by kernel_rfl))
  f314 := Tryz.func156.trans (congrArg some (by kernel_rfl))
  t3 := Tryz.underlying3
  a3 := Tryz.isAgg3
  z3 := Tryz.sizeOf3
  v3 := Tryz.zeroValue3
  t4 := Tryz.underlying4
  a4 := Tryz.isAgg4
  z4 := Tryz.sizeOf4
  v4 := Tryz.zeroValue4
  t5 := Tryz.underlying5
  a5 := Tryz.isAgg5
  z5 := Tryz.sizeOf5
  v5 := Tryz.zeroValue5
  t9 := Tryz.underlying9
  a9 := Tryz.isAgg9
  z9 := Tryz.sizeOf9
  v9 := Tryz.zeroValue9
  t46 := Tryz.underlying74
  a46 := Tryz.isAgg74
  z46 := Tryz.sizeOf74
  v46 := Tryz.zeroValue74
  t51 := Tryz.underlying104
  a51 := Tryz.isAgg104
  z51 := Tryz.sizeOf104
  v51 := Tryz.zeroValue104
  t59 := Tryz.underlying138
  a59 := Tryz.isAgg138
  z59 := Tryz.sizeOf138
  v59 := Tryz.zeroValue138
  t146 := Tryz.underlying105
  a146 := Tryz.isAgg105
  z146 := Tryz.sizeOf105
  v146 := Tryz.zeroValue105
  g1 := by kernel_rfl }
open Go.RowKit Go.Lib in
/-- strings.Cut: "Cut slices s around the first instance of sep, returning the text before and after sep. The found result reports whether sep appears in s. If sep does not appear in s, cut returns s, "", false.": IT RETURNS 'Lib.cut s sep'; the world is as it was but for the count of draws. (LAID: no walk: one application.) -/
theorem Tryz.strings_Cut (s sep : ByteArray) (m : Int) (w : World) (hs : s.size < 4294967281) (hm : w.cell? ⟨0, 0, none⟩ = some (.int .i64 m)) :
    Calls Tryz.prog 108 #[.string s, .string sep] w fun e w' => e = .returned (.tuple #[.string ⟨(Lib.cut s.data.toList sep.data.toList).1.toArray⟩, .string ⟨(Lib.cut s.data.toList sep.data.toList).2.1.toArray⟩, .bool (Lib.cut s.data.toList sep.data.toList).2.2]) ∧ ∃ n, w' = w.drewN n := Any.strings_Cut Tryz.lays145 s sep m w hs hm
def Tryz.lays99_ren : Go.Shelf.Ren := ⟨fun | 99 => 24 | 206 => 43 | n => n, fun | 9 => 9 | 4 => 4 | 3 => 3 | n => n, fun | n => n⟩
theorem Tryz.lays99 : Go.Proofs.Lays.n99 Tryz.prog Tryz.lays99_ren := {
  mixed := by kernel_rfl
  f99 := Tryz.func24.trans (congrArg some (by kernel_rfl))
  f206 := Tryz.func43.trans (congrArg some (by kernel_rfl))
  t3 := Tryz.underlying3
  a3 := Tryz.isAgg3
  z3 := Tryz.sizeOf3
  v3 := Tryz.zeroValue3
  t4 := Tryz.underlying4
  a4 := Tryz.isAgg4
  z4 := Tryz.sizeOf4
  v4 := Tryz.zeroValue4
  t9 := Tryz.underlying9
  a9 := Tryz.isAgg9
  z9 := Tryz.sizeOf9
  v9 := Tryz.zeroValue9 }
open Go.RowKit Go.Lib in
/-- strings.HasPrefix: "HasPrefix reports whether the string s begins with prefix.": IT RETURNS 'Lib.hasPrefix s prefix'; the world is as it was. (LAID: no walk: one application.) -/
theorem Tryz.strings_HasPrefix (s p : ByteArray) (w : World) :
    Calls Tryz.prog 24 #[.string s, .string p] w fun e w' => e = .returned (.bool (Lib.hasPrefix s.data.toList p.data.toList)) ∧ w' = w := Any.strings_HasPrefix Tryz.lays99 s p w
def Tryz.lays100_ren : Go.Shelf.Ren := ⟨fun | 100 => 25 | 207 => 44 | n => n, fun | 9 => 9 | 4 => 4 | 3 => 3 | n => n, fun | n => n⟩
theorem Tryz.lays100 : Go.Proofs.Lays.n100 Tryz.prog Tryz.lays100_ren := {
  mixed := by kernel_rfl
  f100 := Tryz.func25.trans (congrArg some (by kernel_rfl))
  f207 := Tryz.func44.trans (congrArg some (by kernel_rfl))
  t3 := Tryz.underlying3
  a3 := Tryz.isAgg3
  z3 := Tryz.sizeOf3
  v3 := Tryz.zeroValue3
  t4 := Tryz.underlying4
  a4 := Tryz.isAgg4
  z4 := Tryz.sizeOf4
  v4 := Tryz.zeroValue4
  t9 := Tryz.underlying9
  a9 := Tryz.isAgg9
  z9 := Tryz.sizeOf9
  v9 := Tryz.zeroValue9 }
open Go.RowKit Go.Lib in
/-- strings.HasSuffix: "HasSuffix reports whether the string s ends with suffix.": IT RETURNS 'Lib.hasSuffix s suffix'; the world is as it was. ('hs': no Go string is longer: a caller has it of every string that it was handed.) (LAID: no walk: one application.) -/
theorem Tryz.strings_HasSuffix (s p : ByteArray) (w : World) (hs : s.size ≤ 9223372036854775807) :
    Calls Tryz.prog 25 #[.string s, .string p] w fun e w' => e = .returned (.bool (Lib.hasSuffix s.data.toList p.data.toList)) ∧ w' = w := Any.strings_HasSuffix Tryz.lays100 s p w hs
def Tryz.lays105_ren : Go.Shelf.Ren := ⟨fun | 105 => 26 | 212 => 45 | 99 => 24 | 165 => 46 | 166 => 47 | 170 => 48 | 169 => 39 | 263 => 70 | 264 => 71 | 206 => 43 | 240 => 72 | 241 => 73 | 276 => 99 | 277 => 100 | n => n, fun | 9 => 9 | 3 => 3 | 4 => 4 | 20 => 20 | 0 => 0 | 46 => 74 | 109 => 75 | 5 => 5 | 72 => 68 | 76 => 80 | 51 => 104 | 146 => 105 | 53 => 107 | 148 => 108 | 70 => 65 | 37 => 66 | 75 => 79 | 127 => 103 | 164 => 133 | 80 => 70 | n => n, fun | n => n⟩
theorem Tryz.lays105 : Go.Proofs.Lays.n105 Tryz.prog Tryz.lays105_ren := {
  mixed := by kernel_rfl
  f99 := Tryz.func24.trans (congrArg some (by kernel_rfl))
  f105 := Tryz.func26.trans (congrArg some (by kernel_rfl))
  f165 := Tryz.func46.trans (congrArg some (by kernel_rfl))
  f166 := Tryz.func47.trans (congrArg some (by kernel_rfl))
  f169 := Tryz.func39.trans (congrArg some (by kernel_rfl))
  f170 := Tryz.func48.trans (congrArg some (by kernel_rfl))
  f206 := Tryz.func43.trans (congrArg some (by kernel_rfl))
  f212 := Tryz.func45.trans (congrArg some (by kernel_rfl))
  f240 := Tryz.func72.trans (congrArg some (by kernel_rfl))
  f241 := Tryz.func73.trans (congrArg some (by kernel_rfl))
  f263 := Tryz.func70.trans (congrArg some (by kernel_rfl))
  f264 := Tryz.func71.trans (congrArg some (by kernel_rfl))
  f276 := Tryz.func99.trans (congrArg some (by kernel_rfl))
  f277 := Tryz.func100.trans (congrArg some (by kernel_rfl))
  t0 := Tryz.underlying0
  a0 := Tryz.isAgg0
  z0 := Tryz.sizeOf0
  v0 := Tryz.zeroValue0
  t3 := Tryz.underlying3
  a3 := Tryz.isAgg3
  z3 := Tryz.sizeOf3
  v3 := Tryz.zeroValue3
  t4 := Tryz.underlying4
  a4 := Tryz.isAgg4
  z4 := Tryz.sizeOf4
  v4 := Tryz.zeroValue4
  t5 := Tryz.underlying5
  a5 := Tryz.isAgg5
  z5 := Tryz.sizeOf5
  v5 := Tryz.zeroValue5
  t9 := Tryz.underlying9
  a9 := Tryz.isAgg9
  z9 := Tryz.sizeOf9
  v9 := Tryz.zeroValue9
  t20 := Tryz.underlying20
  a20 := Tryz.isAgg20
  z20 := Tryz.sizeOf20
  v20 := Tryz.zeroValue20
  t37 := Tryz.underlying66
  a37 := Tryz.isAgg66
  z37 := Tryz.sizeOf66
  v37 := Tryz.zeroValue66
  t46 := Tryz.underlying74
  a46 := Tryz.isAgg74
  z46 := Tryz.sizeOf74
  v46 := Tryz.zeroValue74
  t51 := Tryz.underlying104
  a51 := Tryz.isAgg104
  z51 := Tryz.sizeOf104
  v51 := Tryz.zeroValue104
  t53 := Tryz.underlying107
  a53 := Tryz.isAgg107
  z53 := Tryz.sizeOf107
  v53 := Tryz.zeroValue107
  t70 := Tryz.underlying65
  a70 := Tryz.isAgg65
  z70 := Tryz.sizeOf65
  v70 := Tryz.zeroValue65
  t72 := Tryz.underlying68
  a72 := Tryz.isAgg68
  z72 := Tryz.sizeOf68
  v72 := Tryz.zeroValue68
  t75 := Tryz.underlying79
  a75 := Tryz.isAgg79
  z75 := Tryz.sizeOf79
  v75 := Tryz.zeroValue79
  t76 := Tryz.underlying80
  a76 := Tryz.isAgg80
  z76 := Tryz.sizeOf80
  v76 := Tryz.zeroValue80
  t109 := Tryz.underlying75
  a109 := Tryz.isAgg75
  z109 := Tryz.sizeOf75
  v109 := Tryz.zeroValue75
  t127 := Tryz.underlying103
  a127 := Tryz.isAgg103
  z127 := Tryz.sizeOf103
  v127 := Tryz.zeroValue103
  t146 := Tryz.underlying105
  a146 := Tryz.isAgg105
  z146 := Tryz.sizeOf105
  v146 := Tryz.zeroValue105
  t148 := Tryz.underlying108
  a148 := Tryz.isAgg108
  z148 := Tryz.sizeOf108
  v148 := Tryz.zeroValue108
  t164 := Tryz.underlying133
  a164 := Tryz.isAgg133
  z164 := Tryz.sizeOf133
  v164 := Tryz.zeroValue133 }
theorem Tryz.Builder_Extra_105 : Builder.Extra Tryz.prog Tryz.lays105_ren := {
  sizeBuilder := by kernel_rfl
  liesBuilder := by kernel_rfl
  t5 := Tryz.underlying5
  a5 := Tryz.isAgg5
  z5 := Tryz.sizeOf5
  v5 := Tryz.zeroValue5
  infoByte := by kernel_rfl
  cellsByte := by kernel_rfl
  sizeByte := by kernel_rfl
  neB5 := by decide }
open Go.RowKit Go.Lib in
/-- **strings.Repeat: count ≥ 0, the result within one allocation: count copies of s.** (LAID: no walk: one application.) -/
theorem Tryz.strings_Repeat (s : ByteArray) (c : Nat) (w : World) (hc : c ≤ 9223372036854775807) (hlen : s.size * c ≤ 140737488355328) :
    Calls Tryz.prog 26 #[.string s, .int .i64 c] w fun e w' => e = .returned (.string ⟨(Lib.repeatL s.data.toList c).toArray⟩) ∧ Below w.heap.size w w' := Any.strings_Repeat Tryz.lays105 Tryz.Builder_Extra_105 s c w hc hlen
def Tryz.lays197_ren : Go.Shelf.Ren := ⟨fun | 197 => 106 | 260 => 123 | n => n, fun | 9 => 9 | 21 => 21 | 3 => 3 | 4 => 4 | 5 => 5 | 105 => 116 | 119 => 176 | 0 => 0 | 46 => 74 | 139 => 179 | 138 => 178 | n => n, fun | 3 => 1 | 4 => 2 | n => n⟩
theorem Tryz.lays197 : Go.Proofs.Lays.n197 Tryz.prog Tryz.lays197_ren := {
  mixed := by kernel_rfl
  f197 := Tryz.func106.trans (congrArg some (by kernel_rfl))
  f260 := Tryz.func123.trans (congrArg some (by kernel_rfl))
  t0 := Tryz.underlying0
  a0 := Tryz.isAgg0
  z0 := Tryz.sizeOf0
  v0 := Tryz.zeroValue0
  t3 := Tryz.underlying3
  a3 := Tryz.isAgg3
  z3 := Tryz.sizeOf3
  v3 := Tryz.zeroValue3
  t4 := Tryz.underlying4
  a4 := Tryz.isAgg4
  z4 := Tryz.sizeOf4
  v4 := Tryz.zeroValue4
  t5 := Tryz.underlying5
  a5 := Tryz.isAgg5
  z5 := Tryz.sizeOf5
  v5 := Tryz.zeroValue5
  t9 := Tryz.underlying9
  a9 := Tryz.isAgg9
  z9 := Tryz.sizeOf9
  v9 := Tryz.zeroValue9
  t21 := Tryz.underlying21
  a21 := Tryz.isAgg21
  z21 := Tryz.sizeOf21
  v21 := Tryz.zeroValue21
  t46 := Tryz.underlying74
  a46 := Tryz.isAgg74
  z46 := Tryz.sizeOf74
  v46 := Tryz.zeroValue74
  t105 := Tryz.underlying116
  a105 := Tryz.isAgg116
  z105 := Tryz.sizeOf116
  v105 := Tryz.zeroValue116
  t119 := Tryz.underlying176
  a119 := Tryz.isAgg176
  z119 := Tryz.sizeOf176
  t138 := Tryz.underlying178
  a138 := Tryz.isAgg178
  z138 := Tryz.sizeOf178
  v138 := Tryz.zeroValue178
  t139 := Tryz.underlying179
  a139 := Tryz.isAgg179
  z139 := Tryz.sizeOf179
  v139 := Tryz.zeroValue179
  g3 := by kernel_rfl
  g4 := by kernel_rfl }
open Go.RowKit Go.Lib in
/-- **unicode/utf8.DecodeRuneInString AT EVERY STRING.** (LAID: no walk: one application.) -/
theorem Tryz.utf8_DecodeRuneInString (s : ByteArray) (w : World) (hT : Lib.Utf8Tabs 1 2 w) :
    Calls Tryz.prog 106 #[.string s] w fun e w' => e = .returned (.tuple #[.int .i32 (Lib.decodeGo s).1, .int .i64 (Lib.decodeGo s).2]) ∧ Below w.heap.size w w' := Any.utf8_DecodeRuneInString Tryz.lays197 s w hT
end Go.Proofs
set_option linter.unusedVariables false
namespace Go.Proofs.YtclhdppppgjgfaaGreatDoor
open Go.RowKit

theorem ret_bool {a b : Bool} (h : a = b) : Ending.returned (.bool a) = .returned (.bool b) := by rw [h]
theorem ret_int {k : IntKind} {a b : Int} (h : a = b) : Ending.returned (.int k a) = .returned (.int k b) := by rw [h]
theorem val_bool {a b : Bool} (h : a = b) : Value.bool a = .bool b := by rw [h]
theorem val_int {k : IntKind} {a b : Int} (h : a = b) : Value.int k a = .int k b := by rw [h]

/-- Block b is a builder that holds the bytes l; what it owns lies from block B on. -/
def Bld (B b : Nat) (l : Bytes) (w : World) : Prop := Lib.IsBuilderF 68 5 B b (Lib.byteCells l) w
/-- Every block but b, and but rows of bytes, is as it was. -/
abbrev Kept (b : Nat) (w w' : World) : Prop := Lib.OthersKept 5 (some b) w w'

theorem sizeBuilder : (Tryz.prog.info? 68).map (·.size) = some 2 := by kernel_rfl
theorem liesBuilder : liesAt Tryz.prog Tryz.prog.depth 68 (2 / Tryz.prog.cellsOf 68) 0 68 1 = true := by kernel_rfl
theorem infoByte : (Tryz.prog.info? 5).map (fun i => (i.zero, i.size, i.bytes)) = some (some (.int .u8 0), 1, 1) := by kernel_rfl

theorem Bld.new (w : World) : Bld w.heap.size w.heap.size [] (w.alloc (.cells #[.pointer none, .slice none 0 0] 68)) := by
  refine .inl ⟨Nat.le_refl _, .slice none 0 0, heap_alloc_new w _, World.ownsRowF_nil _ _ _ _, ?_⟩
  simp [Value.ownBlock]
theorem Bld.mono {B B' b : Nat} {l : Bytes} {w : World} (h : Bld B b l w) (hB : B' ≤ B) : Bld B' b l w := by
  rcases h with ⟨h1, v, h2, h3, h4⟩ | ⟨h1, v, h2, h3, h4⟩
  · refine .inl ⟨by omega, v, h2, ⟨h3.1, ?_⟩, h4⟩
    rcases h3.2 with h | ⟨g, cap, cur, fz, hv, hg, r⟩
    · exact .inl h
    · exact .inr ⟨g, cap, cur, fz, hv, by omega, r⟩
  · refine .inr ⟨by omega, v, h2, ⟨h3.1, ?_⟩, h4⟩
    rcases h3.2 with h | ⟨g, cap, cur, fz, hv, hg, r⟩
    · exact .inl h
    · exact .inr ⟨g, cap, cur, fz, hv, by omega, r⟩
theorem Bld.le {B b : Nat} {l : Bytes} {w : World} (h : Bld B b l w) : B ≤ b := by
  rcases h with h | h <;> exact h.1
theorem Bld.lt {B b : Nat} {l : Bytes} {w : World} (h : Bld B b l w) : b < w.heap.size := by
  rcases h with h | h <;> exact h.lt
/-- Nothing in the builder's own memory has turned. -/
theorem Bld.alloc {B b : Nat} {l : Bytes} {w : World} (h : Bld B b l w) (o : Obj) : Bld B b l (w.alloc o) := Lib.IsBuilderF.alloc h o
theorem Bld.drew {B b : Nat} {l : Bytes} {w : World} (h : Bld B b l w) : Bld B b l w.drew := h
theorem ownF_below {B e n K : Nat} {v : Value} {bs : List Value} {w w' : World} (h : w.ownsRowF B e 1 v n bs) (hK : w.heap.size ≤ K) (hb : Below K w w') : w'.ownsRowF B e 1 v n bs := by
  obtain ⟨h1, h2⟩ := h
  refine ⟨h1, ?_⟩
  rcases h2 with h2 | ⟨g, cap, cur, fz, hv, hg, hh, r⟩
  · exact .inl h2
  · refine .inr ⟨g, cap, cur, fz, hv, hg, ?_, r⟩
    have hlt : g < w.heap.size := by
      rcases Nat.lt_or_ge g w.heap.size with h | h
      · exact h
      · rw [Array.getElem?_eq_none h] at hh; cases hh
    rw [hb.block g (by omega)]; exact hh
theorem Bld.below {B b : Nat} {l : Bytes} {w w' : World} (h : Bld B b l w) (hb : Below w.heap.size w w') : Bld B b l w' := by
  have hlt := h.lt
  rcases h with ⟨h1, v, h2, h3, h4⟩ | ⟨h1, v, h2, h3, h4⟩
  · exact .inl ⟨h1, v, by rw [hb.block b hlt]; exact h2, ownF_below h3 (Nat.le_refl _) hb, h4⟩
  · exact .inr ⟨h1, v, by rw [hb.block b hlt]; exact h2, ownF_below h3 (Nat.le_refl _) hb, h4⟩

set_option maxHeartbeats 1000000 in
set_option maxRecDepth 100000 in
theorem copyCheck_used (b : Nat) (w : World) (h0 : w.cell? ⟨b, 0, none⟩ = some (.pointer (some ⟨b, 0, none⟩))) :
    Calls Tryz.prog 72 #[.pointer (some ⟨b, 0, none⟩)] w fun e w' => e = .returned (.tuple #[]) ∧ w' = w := by
  obtain ⟨j, hj, _⟩ := Option.map_eq_some_iff.1 sizeBuilder
  go_enter Tryz.func72, Tryz.ntmps72
  go_wp2
  rw [Lib.run_neq_ptr_same w _ Tryz.underlying65 hj]
  go_wp2
  go_end0
  exact ⟨rfl, rfl⟩

set_option maxHeartbeats 1000000 in
set_option maxRecDepth 100000 in
theorem copyCheck_fresh (b : Nat) (w : World) (h0 : w.cell? ⟨b, 0, none⟩ = some (.pointer none)) (hsh : w.shape? b = some (68, 2)) (hfz : w.frozen? ⟨b, 0, none⟩ = false) :
    Calls Tryz.prog 72 #[.pointer (some ⟨b, 0, none⟩)] w fun e w' => e = .returned (.tuple #[]) ∧ w' = w.setCell ⟨b, 0, none⟩ (.pointer (some ⟨b, 0, none⟩)) := by
  obtain ⟨j, hj, hjs⟩ := Option.map_eq_some_iff.1 sizeBuilder
  have hun : Tryz.prog.underlying 133 = some .unsafePointer := by kernel_rfl
  go_enter Tryz.func72, Tryz.ntmps72
  go_wp2
  rw [Lib.run_to_unsafe w ⟨b, 0, none⟩ Tryz.underlying65 hun hj (by rw [hjs]; decide) hsh (Nat.zero_lt_succ 1)]
  simp only [Result.andThen]
  rw [Oper.upon_value]
  go_wp2
  rw [run_callFunc_extern Tryz.func99 (by kernel_rfl) (by kernel_rfl) (by kernel_rfl) (e := Extern.AbiNoEscape.same) (by kernel_rfl)]
  rw [Lib.run_noEscape]
  simp only [Result.andThen]
  rw [Oper.upon_value]
  go_wp2
  rw [Lib.run_from_unsafe w ⟨b, 0, none⟩ hun Tryz.underlying65 hj hsh liesBuilder]
  simp only [Result.andThen]
  rw [Oper.upon_value]
  go_wp2
  go_end0
  exact ⟨rfl, rfl⟩

theorem copyCheck_any (B b : Nat) (bs : List Value) (w : World) (h : Lib.IsBuilderF 68 5 B b bs w) :
    Calls Tryz.prog 72 #[.pointer (some ⟨b, 0, none⟩)] w fun e w' => e = .returned (.tuple #[]) ∧ (Lib.BuilderAtF 68 5 B b (.pointer (some ⟨b, 0, none⟩)) bs w' ∧ Below B w w' ∧ Kept b w w') := by
  rcases h with h | h
  · refine (copyCheck_fresh b w h.cell0 h.shape h.frozen0).mono ?_
    rintro e w' ⟨rfl, rfl⟩
    exact ⟨rfl, h.used _, (Below.refl B w).setCell (p := ⟨b, 0, none⟩) h.1 _, (Lib.OthersKept.refl _ _ w).setCell ⟨b, 0, none⟩ rfl _⟩
  · refine (copyCheck_used b w h.cell0).mono ?_
    rintro e w' ⟨rfl, rfl⟩
    exact ⟨rfl, h, Below.refl B _, Lib.OthersKept.refl _ _ _⟩

set_option maxHeartbeats 2000000 in
set_option maxRecDepth 100000 in
theorem writeByte_cells (B b : Nat) (bs : List Value) (c : Int) (w : World) (h : Lib.IsBuilderF 68 5 B b bs w) (hlen : bs.length + 1 ≤ 140737488355328) (hBw : B ≤ w.heap.size) :
    Calls Tryz.prog 57 #[.pointer (some ⟨b, 0, none⟩), .int .u8 c] w fun e w' => e = .returned .nilIface ∧ (Lib.BuilderAtF 68 5 B b (.pointer (some ⟨b, 0, none⟩)) (bs ++ [.int .u8 c]) w' ∧ Below B w w' ∧ Kept b w w') := by
  obtain ⟨i0, hi, hz0, hz1, hz2⟩ := info_parts infoByte
  go_enter Tryz.func57, Tryz.ntmps57
  go_wp2_with (go_at_call 72; refine (copyCheck_any B b bs _ h).mono ?_)
  rintro e w1 ⟨rfl, h1, hb1, hk1⟩
  obtain ⟨hB, v, hbk, hown, hne⟩ := h1
  have c0 : w1.cell? ⟨b, 0, none⟩ = some (.pointer (some ⟨b, 0, none⟩)) := by rw [Lib.cell_of_heap hbk]; rfl
  have c1 : w1.cell? ⟨b, 1, none⟩ = some v := by rw [Lib.cell_of_heap hbk]; rfl
  go_wp2_with (at_builtin; refine wpList_append_ownF _ rfl _ _ 66 rfl B 5 i0 (.int .u8 0) 1 1 Tryz.underlying66 hi hz0 hz1 hz2 rfl (by decide) _ _ _ rfl (hown.alloc _) ⟨w1.heap.size, 0, none⟩ 1 1 [.int .u8 c] rfl rfl ?c1 ?c2 ?c3 ?c4 ?c5 ?_)
  case c1 =>
    intro j u hj
    match j, hj with
    | 0, hj => simp at hj; subst hj; simp [Addr.add]
  case c2 => intro u hu; simp at hu; subst hu; rfl
  case c3 => unfold maxLen; omega
  case c4 => omega
  case c5 => have := hb1.size; simp; omega
  intro v' w2 hown' hgrow _
  have hlt : b < w1.heap.size := by
    rcases Nat.lt_or_ge b w1.heap.size with h' | h'
    · exact h'
    · simp [Array.getElem?_eq_none h'] at hbk
  have hb2 : w2.heap[b]? = some (.cells #[.pointer (some ⟨b, 0, none⟩), v] 68 (0, 0)) := by
    rw [hgrow.block b (by simp; omega) (fun e => hne e.symm), Lib.alloc_old w1 _ b hlt]
    exact hbk
  have d0 : w2.cell? ⟨b, 0, none⟩ = some (.pointer (some ⟨b, 0, none⟩)) := by rw [Lib.cell_of_heap hb2]; rfl
  have d1 : w2.cell? ⟨b, 1, none⟩ = some v := by rw [Lib.cell_of_heap hb2]; rfl
  have f1 : w2.frozen? ⟨b, 1, none⟩ = false := Lib.frozen_of_heap hb2 1
  obtain ⟨g, cap, rfl⟩ : ∃ g cap, v' = .slice (some ⟨g, 0, none⟩) (bs.length + 1) cap := by
    rcases hown'.2 with ⟨_, h0⟩ | ⟨g, cap, cur, fz, hv, _⟩
    · omega
    · exact ⟨g, cap, hv⟩
  go_wp2
  go_ret
  refine ⟨rfl, ?_, ?_, ((hk1.alloc _).grown hgrow (Lib.ownsRowF_kind (hown.alloc _))).setCell ⟨b, 1, none⟩ rfl _⟩
  · exact Lib.BuilderAtF.put (T := 68) (e := 5) hB hb2 (bs' := bs ++ [.int .u8 c]) (by simpa using hown') (by decide)
  · exact ((hb1.alloc (by have := hb1.size; omega) _).grown hgrow (by have := hb1.size; simp; omega) (fun k hk => (hown.lt k hk).1)).setCell (p := ⟨b, 1, none⟩) hB _

set_option maxHeartbeats 2000000 in
set_option maxRecDepth 100000 in
theorem writeString_cells (B b : Nat) (bs : List Value) (s : ByteArray) (w : World) (h : Lib.IsBuilderF 68 5 B b bs w) (hlen : bs.length + s.size ≤ 140737488355328) (hBw : B ≤ w.heap.size) :
    Calls Tryz.prog 47 #[.pointer (some ⟨b, 0, none⟩), .string s] w fun e w' => e = .returned (.tuple #[.int .i64 s.size, .nilIface]) ∧ (Lib.BuilderAtF 68 5 B b (.pointer (some ⟨b, 0, none⟩)) (bs ++ Lib.strCells s) w' ∧ Below B w w' ∧ Kept b w w') := by
  obtain ⟨i0, hi, hz0, hz1, hz2⟩ := info_parts infoByte
  go_enter Tryz.func47, Tryz.ntmps47
  go_wp2_with (go_at_call 72; refine (copyCheck_any B b bs _ h).mono ?_)
  rintro e w1 ⟨rfl, h1, hb1, hk1⟩
  obtain ⟨hB, v, hbk, hown, hne⟩ := h1
  have c0 : w1.cell? ⟨b, 0, none⟩ = some (.pointer (some ⟨b, 0, none⟩)) := by rw [Lib.cell_of_heap hbk]; rfl
  have c1 : w1.cell? ⟨b, 1, none⟩ = some v := by rw [Lib.cell_of_heap hbk]; rfl
  go_wp2_with (at_builtin; refine Lib.wpList_append_own_stringF _ rfl _ _ 66 9 rfl B 5 i0 Tryz.underlying66 Tryz.underlying9 hi hz0 hz1 hz2 _ _ _ rfl hown s rfl ?c3 ?c4 ?c5 ?_)
  case c3 => unfold maxLen; omega
  case c4 => omega
  case c5 => have := hb1.size; omega
  intro v' w2 hown' hgrow _
  have hlt : b < w1.heap.size := by
    rcases Nat.lt_or_ge b w1.heap.size with h' | h'
    · exact h'
    · simp [Array.getElem?_eq_none h'] at hbk
  have hb2 : w2.heap[b]? = some (.cells #[.pointer (some ⟨b, 0, none⟩), v] 68 (0, 0)) := by
    rw [hgrow.block b hlt (fun e => hne e.symm)]
    exact hbk
  have d0 : w2.cell? ⟨b, 0, none⟩ = some (.pointer (some ⟨b, 0, none⟩)) := by rw [Lib.cell_of_heap hb2]; rfl
  have d1 : w2.cell? ⟨b, 1, none⟩ = some v := by rw [Lib.cell_of_heap hb2]; rfl
  have f1 : w2.frozen? ⟨b, 1, none⟩ = false := Lib.frozen_of_heap hb2 1
  obtain ⟨ao, n', cap, rfl⟩ : ∃ ao n' cap, v' = .slice ao n' cap := by
    rcases hown'.2 with ⟨hv, _⟩ | ⟨g, cap, cur, fz, hv, _⟩
    · exact ⟨_, _, _, hv⟩
    · exact ⟨_, _, _, hv⟩
  go_wp2
  go_ret2
  refine ⟨rfl, ?_, ?_, (hk1.grown hgrow (Lib.ownsRowF_kind hown)).setCell ⟨b, 1, none⟩ rfl _⟩
  · exact Lib.BuilderAtF.put (T := 68) (e := 5) hB hb2 (bs' := bs ++ Lib.strCells s) (by simpa [Lib.strCells_length] using hown') (by decide)
  · exact (hb1.grown hgrow (by have := hb1.size; omega) (fun k hk => (hown.lt k hk).1)).setCell (p := ⟨b, 1, none⟩) hB _

theorem writeByte_any (B b : Nat) (l : Bytes) (c : Int) (w : World) (h : Bld B b l w) (hc : 0 ≤ c ∧ c ≤ 255) (hlen : l.length + 1 ≤ 140737488355328) (hBw : B ≤ w.heap.size) :
    Calls Tryz.prog 57 #[.pointer (some ⟨b, 0, none⟩), .int .u8 c] w fun e w' => e = .returned .nilIface ∧ Bld B b (l ++ [UInt8.ofNat c.toNat]) w' ∧ Below B w w' ∧ Kept b w w' := by
  refine (writeByte_cells B b (Lib.byteCells l) c w h (by rw [Lib.byteCells_length]; exact hlen) hBw).mono ?_
  rintro e w' ⟨rfl, h1, h2, h3⟩
  refine ⟨rfl, .inr ?_, h2, h3⟩
  rw [Lib.byteCells_append]
  have : Lib.byteCells [UInt8.ofNat c.toNat] = [.int .u8 c] := by
    simp only [Lib.byteCells, List.map_cons, List.map_nil]
    rw [u8_of (by omega), Int.toNat_of_nonneg hc.1]
  rw [this]; exact h1
theorem writeString_any (B b : Nat) (l m : Bytes) (w : World) (h : Bld B b l w) (hlen : l.length + m.length ≤ 140737488355328) (hBw : B ≤ w.heap.size) :
    Calls Tryz.prog 47 #[.pointer (some ⟨b, 0, none⟩), .string (S m)] w fun e w' => e = .returned (.tuple #[.int .i64 m.length, .nilIface]) ∧ Bld B b (l ++ m) w' ∧ Below B w w' ∧ Kept b w w' := by
  have hs : (S m).size = m.length := by simp [S, ByteArray.size]
  refine (writeString_cells B b (Lib.byteCells l) (S m) w h (by rw [Lib.byteCells_length, hs]; exact hlen) hBw).mono ?_
  rintro e w' ⟨rfl, h1, h2, h3⟩
  refine ⟨by rw [hs], .inr ?_, h2, h3⟩
  rw [Lib.byteCells_append]; exact h1
theorem builderString_any (B b : Nat) (l : Bytes) (w : World) (h : Bld B b l w) (hBw : B ≤ w.heap.size) :
    Calls Tryz.prog 39 #[.pointer (some ⟨b, 0, none⟩)] w fun e w' => e = .returned (.string (S l)) ∧ Bld B b l w' ∧ Below B w w' ∧ Kept b w w' :=
  Tryz.Builder_String_any_k B b l w h hBw
end Go.Proofs.YtclhdppppgjgfaaGreatDoor
