/-
  Walks of chapter 1: the program's decoder, and both checks.
-/
import Derived.Test.YtaghipnheomggaaDoorText3
set_option linter.unusedVariables false
namespace Go.Proofs.YtaghipnheomggaaDoor
open Go.RowKit

theorem dec_one (l : Bytes) (h : (dec l).2 = 1) : (dec l).1 < 128 := by
  unfold dec at h ⊢
  match l with
  | [] => simp
  | a :: t =>
    dsimp only at h ⊢
    by_cases h1 : a.toNat < 128
    · simp [h1]
    · simp only [h1, if_false] at h ⊢
      match t with
      | [] => simp
      | b :: t =>
        dsimp only at h ⊢
        repeat' split at h
        all_goals first | omega | (simp at h)
theorem decodeGo_S (l : Bytes) (h : l ≠ []) : Lib.decodeGo (S l) = if (dec l).2 = 0 then (65533, 1) else dec l := by
  unfold Lib.decodeGo
  rw [if_neg (by rw [S_size]; intro e; exact h (List.eq_nil_of_length_eq_zero e)), utf8_dec l h]

theorem ret_dec {r r' : Nat} {n n' : Nat} (h : (r, n) = (r', n')) : Ending.returned (.tuple #[.int .i32 r, .int .i64 n]) = .returned (.tuple #[.int .i32 r', .int .i64 n']) := by
  cases h; rfl

theorem refDecode_any (l : Bytes) (n : Int) (w : World) (hl : l.length ≤ 4611686018427387904) :
    Calls Tryd.prog 39 #[.string (S l), .int .i64 n] w fun e w' => e = .returned (.tuple #[.int .i64 (decAt l n).1, .int .i64 (decAt l n).2]) ∧ Below w.heap.size w w' := by
  unfold decAt
  by_cases h : 0 ≤ n ∧ n < l.length
  · rw [if_pos h]
    obtain ⟨k, rfl⟩ := Int.eq_ofNat_of_zero_le h.1
    exact refDecode_in l k w hl (by omega)
  · rw [if_neg h]
    refine (refDecode_out l n w hl (by omega)).mono ?_
    rintro e w' ⟨rfl, rfl⟩
    exact ⟨rfl, Below.refl _ _⟩

theorem drop_ne {l : Bytes} {n : Nat} (h : n < l.length) : l.drop n ≠ [] := fun e => by have := congrArg List.length e; simp at this; omega
theorem ret_chk {a b a' b' : Nat} (h : (a', b') = (a, b)) : Ending.returned (.tuple #[.int .i64 a, .int .i64 b]) = .returned (.tuple #[.int .i64 a', .int .i64 b']) := by cases h; rfl

end Go.Proofs.YtaghipnheomggaaDoor
