/-
  Plain functions of chapter 1 (text): which numbers are characters, which may stand in names; what a list of bytes checks as. No program.
-/
import Derived.Test.YthbfahbjfioghaaGreatDoorUtf
set_option linter.unusedVariables false
namespace Go.Proofs.YthbfahbjfioghaaGreatDoor

def isChar (r : Int) : Bool := decide (r = 9 ∨ r = 10 ∨ r = 13 ∨ (32 ≤ r ∧ r ≤ 55295) ∨ (57344 ≤ r ∧ r ≤ 65533) ∨ (65536 ≤ r ∧ r ≤ 1114111))
theorem isChar_yes {r : Int} (h : r = 9 ∨ r = 10 ∨ r = 13 ∨ (32 ≤ r ∧ r ≤ 55295) ∨ (57344 ≤ r ∧ r ≤ 65533) ∨ (65536 ≤ r ∧ r ≤ 1114111)) : isChar r = true := decide_eq_true h
theorem isChar_no {r : Int} (h : ¬ (r = 9 ∨ r = 10 ∨ r = 13 ∨ (32 ≤ r ∧ r ≤ 55295) ∨ (57344 ≤ r ∧ r ≤ 65533) ∨ (65536 ≤ r ∧ r ≤ 1114111))) : isChar r = false := decide_eq_false h
theorem isChar_iff {r : Int} : isChar r = true ↔ (r = 9 ∨ r = 10 ∨ r = 13 ∨ (32 ≤ r ∧ r ≤ 55295) ∨ (57344 ≤ r ∧ r ≤ 65533) ∨ (65536 ≤ r ∧ r ≤ 1114111)) := by unfold isChar; simp

def startRanges : List (Int × Int) := [(65, 90), (95, 95), (97, 122), (192, 214), (216, 246), (248, 767), (880, 893), (895, 8191), (8204, 8205), (8304, 8591), (11264, 12271), (12289, 55295), (63744, 64975), (65008, 65533), (65536, 983039)]
def moreRanges : List (Int × Int) := [(45, 46), (48, 57), (183, 183), (768, 879), (8255, 8256)]
def inRanges (l : List (Int × Int)) (r : Int) : Bool := l.any fun p => decide (p.1 ≤ r ∧ r ≤ p.2)
def nameStart (r : Int) : Bool := inRanges startRanges r
def nameChar (r : Int) : Bool := inRanges moreRanges r || nameStart r

def nsLetter (r : Int) : Bool := decide ((65 ≤ r ∧ r ≤ 90) ∨ (97 ≤ r ∧ r ≤ 122) ∨ r = 95)
def nsLow (r : Int) : Bool := decide ((192 ≤ r ∧ r ≤ 767 ∧ r ≠ 215 ∧ r ≠ 247) ∨ (880 ≤ r ∧ r ≤ 8191 ∧ r ≠ 894))
def nsMiddle (r : Int) : Bool := decide (r = 8204 ∨ r = 8205 ∨ (8304 ≤ r ∧ r ≤ 8591) ∨ (11264 ≤ r ∧ r ≤ 12271) ∨ (12289 ≤ r ∧ r ≤ 55295))
def nsHigh (r : Int) : Bool := decide ((63744 ≤ r ∧ r ≤ 64975) ∨ (65008 ≤ r ∧ r ≤ 65533) ∨ (65536 ≤ r ∧ r ≤ 983039))
theorem nameStart_eq (r : Int) : nameStart r = (nsLetter r || nsLow r || nsMiddle r || nsHigh r) := by
  rw [Bool.eq_iff_iff]
  simp only [nameStart, inRanges, startRanges, nsLetter, nsLow, nsMiddle, nsHigh, List.any_cons, List.any_nil, Bool.or_eq_true, decide_eq_true_eq, Bool.or_false]
  omega
theorem more_iff (r : Int) : inRanges moreRanges r = true ↔ ((48 ≤ r ∧ r ≤ 57) ∨ r = 45 ∨ r = 46 ∨ r = 183 ∨ (768 ≤ r ∧ r ≤ 879) ∨ r = 8255 ∨ r = 8256) := by
  simp only [inRanges, moreRanges, List.any_cons, List.any_nil, Bool.or_eq_true, decide_eq_true_eq, Bool.or_false]
  omega
theorem nameChar_of_start {r : Int} (h : nameStart r = true) : nameChar r = true := by simp [nameChar, h]
theorem nameStart_pos {r : Int} (h : nameStart r = true) : 65 ≤ r ∧ r ≤ 983039 ∧ isChar r = true := by
  simp only [nameStart, inRanges, startRanges, List.any_cons, List.any_nil, Bool.or_eq_true, decide_eq_true_eq, Bool.or_false] at h
  rw [isChar_iff]
  omega

/-- Offset and error of the first byte that is no part of an XML character. -/
def chkS : Nat → Bytes → Nat → Nat × Nat
  | _, [], at_ => (at_, 0)
  | k + 1, _ :: t, at_ => chkS k t (at_ + 1)
  | 0, a :: t, at_ =>
    if (dec (a :: t)).2 = 0 then (at_, 5)
    else if isChar (dec (a :: t)).1 then chkS ((dec (a :: t)).2 - 1) t (at_ + 1)
    else (at_, 6)
def check (l : Bytes) : Nat × Nat := chkS 0 l 0

theorem chkS_skip : ∀ (k : Nat) (l : Bytes) (at_ : Nat), k ≤ l.length → chkS k l at_ = chkS 0 (l.drop k) (at_ + k)
  | 0, l, at_, _ => by simp
  | k + 1, [], _, h => by simp at h
  | k + 1, a :: t, at_, h => by
    rw [chkS, chkS_skip k t (at_ + 1) (by simpa using h)]
    simp only [List.drop_succ_cons]
    rw [show at_ + 1 + k = at_ + (k + 1) by omega]
theorem chk_bad {l : Bytes} {at_ : Nat} (h0 : l ≠ []) (h : (dec l).2 = 0) : chkS 0 l at_ = (at_, 5) := by
  cases l with
  | nil => exact absurd rfl h0
  | cons a t => simp [chkS, h]
theorem chk_char {l : Bytes} {at_ : Nat} (h0 : l ≠ []) (h : (dec l).2 ≠ 0) (hc : isChar (dec l).1 = false) : chkS 0 l at_ = (at_, 6) := by
  cases l with
  | nil => exact absurd rfl h0
  | cons a t => simp [chkS, h, hc]
theorem chk_next {l : Bytes} {at_ : Nat} (h0 : l ≠ []) (h : (dec l).2 ≠ 0) (hc : isChar (dec l).1 = true) : chkS 0 l at_ = chkS 0 (l.drop (dec l).2) (at_ + (dec l).2) := by
  cases l with
  | nil => exact absurd rfl h0
  | cons a t =>
    have hl := (dec_le (a :: t)).1
    rw [chkS, if_neg h, if_pos hc, chkS_skip _ _ _ (by simp at hl; omega)]
    obtain ⟨k, hk⟩ : ∃ k, (dec (a :: t)).2 = k + 1 := ⟨(dec (a :: t)).2 - 1, by omega⟩
    rw [hk]
    simp only [Nat.add_sub_cancel, List.drop_succ_cons]
    rw [show at_ + 1 + k = at_ + (k + 1) by omega]

/-! The reference's way to decode: encode what each length would yield. -/
def rp0 (l : Bytes) (n : Nat) : Nat :=
  if n = 2 then (l.getD 0 0).toNat % 32 else if n = 3 then (l.getD 0 0).toNat % 16 else if n = 4 then (l.getD 0 0).toNat % 8 else (l.getD 0 0).toNat
def rp (l : Bytes) (n : Nat) : Nat → Nat
  | 0 => rp0 l n
  | i + 1 => rp l n i * 64 + (l.getD (i + 1) 0).toNat % 64
def rv (l : Bytes) (n : Nat) : Nat := rp l n (n - 1)
theorem rp_le (l : Bytes) (n i : Nat) (h : i ≤ 3) : rp l n i < 67108864 := by
  have h0 : rp0 l n < 256 := by have := u8_lt (l.getD 0 0); unfold rp0; repeat' split
                                all_goals omega
  match i, h with
  | 0, _ => simp only [rp]; omega
  | 1, _ => simp only [rp]; omega
  | 2, _ => simp only [rp]; omega
  | 3, _ => simp only [rp]; omega
def encI (r : Int) : Bytes := if r < 0 then [] else enc r.toNat
theorem encI_nat (n : Nat) : encI (n : Int) = enc n := by simp [encI, Int.not_lt.2 (Int.natCast_nonneg n)]

theorem ref_hit {l : Bytes} {n : Nat} (h1 : 1 ≤ n) (h2 : n ≤ l.length) (h : enc (rv l n) = l.take n) : dec l = (rv l n, n) := by
  have ho : okRune (rv l n) := by
    by_cases ho : okRune (rv l n)
    · exact ho
    · exfalso
      have : enc (rv l n) = [] := by simp [enc, ho]
      rw [this] at h
      have := congrArg List.length h
      simp at this
      omega
  have := enc_dec ho (l.drop n)
  rw [h, List.take_append_drop] at this
  rw [this, List.length_take, Nat.min_eq_left h2]
theorem dec_cases (l : Bytes) : dec l = (0, 0) ∨ ((dec l).2 ≠ 0 ∧ rv l (dec l).2 = (dec l).1) := by
  match l with
  | [] => exact .inl rfl
  | a :: t =>
    by_cases h1 : a.toNat < 128
    · refine .inr ?_
      simp [dec, h1, rv, rp, rp0]
    · match t with
      | [] => refine .inl ?_; simp [dec, h1]
      | b :: t =>
        by_cases h2 : a.toNat / 32 = 6
        · by_cases h3 : b.toNat / 64 = 2 ∧ 128 ≤ a.toNat % 32 * 64 + b.toNat % 64
          · refine .inr ?_
            simp [dec, h1, h2, h3, rv, rp, rp0]
          · refine .inl ?_
            simp [dec, h1, h2, h3]
        · match t with
          | [] => refine .inl ?_; simp [dec, h1, h2]
          | c :: t =>
            by_cases h5 : a.toNat / 16 = 14
            · by_cases h6 : b.toNat / 64 = 2 ∧ c.toNat / 64 = 2 ∧ 2048 ≤ a.toNat % 16 * 4096 + b.toNat % 64 * 64 + c.toNat % 64 ∧
                (a.toNat % 16 * 4096 + b.toNat % 64 * 64 + c.toNat % 64 < 55296 ∨ 57344 ≤ a.toNat % 16 * 4096 + b.toNat % 64 * 64 + c.toNat % 64)
              · refine .inr ?_
                simp only [dec, h1, h2, h5, if_false, if_true]
                rw [if_pos h6]
                simp [rv, rp, rp0]
                omega
              · refine .inl ?_
                simp only [dec, h1, h2, h5, if_false, if_true]
                rw [if_neg h6]
            · match t with
              | [] => refine .inl ?_; simp [dec, h1, h2, h5]
              | d :: t =>
                by_cases h10 : a.toNat / 8 = 30 ∧ b.toNat / 64 = 2 ∧ c.toNat / 64 = 2 ∧ d.toNat / 64 = 2 ∧
                    65536 ≤ a.toNat % 8 * 262144 + b.toNat % 64 * 4096 + c.toNat % 64 * 64 + d.toNat % 64 ∧
                    a.toNat % 8 * 262144 + b.toNat % 64 * 4096 + c.toNat % 64 * 64 + d.toNat % 64 ≤ 1114111
                · refine .inr ?_
                  simp only [dec, h1, h2, h5, if_false]
                  rw [if_pos h10]
                  simp [rv, rp, rp0]
                  omega
                · refine .inl ?_
                  simp only [dec, h1, h2, h5, if_false]
                  rw [if_neg h10]
theorem dec_zero {l : Bytes} (h : (dec l).2 = 0) : dec l = (0, 0) := (dec_cases l).elim id fun h' => absurd h h'.1
theorem dec_rv {l : Bytes} (h : (dec l).2 ≠ 0) : rv l (dec l).2 = (dec l).1 := (dec_cases l).elim (fun e => absurd (by rw [e]) h) fun h' => h'.2
theorem ref_miss {l : Bytes} (h : ∀ n, 1 ≤ n → n ≤ 4 → n ≤ l.length → enc (rv l n) ≠ l.take n) : dec l = (0, 0) := by
  by_cases h0 : (dec l).2 = 0
  · exact dec_zero h0
  · exfalso
    have hl := dec_le l
    exact h _ (by omega) hl.2 hl.1 (by rw [dec_rv h0]; exact (dec_enc l h0).2)
end Go.Proofs.YthbfahbjfioghaaGreatDoor
