/-
  Plain functions of chapter 6 (xmltoken): the longest name at the head of a list of bytes. No program.
-/
import Derived.Test.YthbfahbjfioghaaGreatDoorSpec01
set_option linter.unusedVariables false
namespace Go.Proofs.YthbfahbjfioghaaGreatDoor

/-- May this rune stand in a tag's or attribute's name; 'f': at its head. -/
def qch (f : Bool) (r : Int) : Bool := decide (r = 58) || (!f && nameChar r) || nameStart r
/-- The length of the longest name at the head. -/
def nmS : Nat → Bool → Bytes → Nat
  | _, _, [] => 0
  | k + 1, f, _ :: t => 1 + nmS k f t
  | 0, f, a :: t =>
    if (dec (a :: t)).2 = 0 then 0
    else if qch f (dec (a :: t)).1 then 1 + nmS ((dec (a :: t)).2 - 1) false t
    else 0
def nameLen (l : Bytes) : Nat := nmS 0 true l
def isQName (l : Bytes) : Bool := l != [] && nameLen l == l.length

theorem nmS_skip : ∀ (k : Nat) (f : Bool) (l : Bytes), k ≤ l.length → nmS k f l = k + nmS 0 f (l.drop k)
  | 0, f, l, _ => by simp
  | k + 1, f, [], h => by simp at h
  | k + 1, f, a :: t, h => by
    rw [nmS, nmS_skip k f t (by simpa using h)]
    simp only [List.drop_succ_cons]
    omega
theorem nm_nil (f : Bool) : nmS 0 f [] = 0 := rfl
theorem nm_stop {l : Bytes} {f : Bool} (h : (dec l).2 = 0 ∨ qch f (dec l).1 = false) : nmS 0 f l = 0 := by
  cases l with
  | nil => rfl
  | cons a t =>
    rw [nmS]
    rcases h with h | h
    · rw [if_pos h]
    · simp [h]
theorem nm_next {l : Bytes} {f : Bool} (h : (dec l).2 ≠ 0) (hc : qch f (dec l).1 = true) : nmS 0 f l = (dec l).2 + nmS 0 false (l.drop (dec l).2) := by
  cases l with
  | nil => exact absurd rfl h
  | cons a t =>
    have hl := (dec_le (a :: t)).1
    rw [nmS, if_neg h, if_pos hc, nmS_skip _ _ _ (by simp at hl; omega)]
    obtain ⟨k, hk⟩ : ∃ k, (dec (a :: t)).2 = k + 1 := ⟨(dec (a :: t)).2 - 1, by omega⟩
    rw [hk]
    simp only [Nat.add_sub_cancel, List.drop_succ_cons]
    omega
theorem nmS_le : ∀ (l : Bytes) (k : Nat) (f : Bool), nmS k f l ≤ l.length
  | [], k, f => by cases k <;> simp [nmS]
  | a :: t, k + 1, f => by
    have := nmS_le t k f
    rw [nmS]; simp; omega
  | a :: t, 0, f => by
    rw [nmS]
    split
    · simp
    · split
      · have := nmS_le t ((dec (a :: t)).2 - 1) false
        simp; omega
      · simp
theorem nameLen_le (l : Bytes) : nameLen l ≤ l.length := nmS_le l 0 true
theorem isQName_iff (l : Bytes) : isQName l = true ↔ l ≠ [] ∧ nameLen l = l.length := by
  unfold isQName; simp
theorem qch_ref (f : Bool) (r : Int) : qch f r = ((decide (r = 58) || nameChar r) && (!f || decide (r = 58) || nameStart r)) := by
  have := @nameChar_of_start r
  unfold qch
  cases f <;> cases h1 : decide (r = 58) <;> cases h2 : nameChar r <;> cases h3 : nameStart r <;> simp_all
end Go.Proofs.YthbfahbjfioghaaGreatDoor
