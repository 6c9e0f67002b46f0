/-
  Walks of chapter 13: EntryKey and FeedKey (the reference).
-/
import Derived.Test.YtadkgjbidhfefaaGreatDoorKeyP13
set_option linter.unusedVariables false
namespace Go.Proofs.YtadkgjbidhfefaaGreatDoor
open Go.RowKit

theorem els_four {W : World} {b : Nat} {s0 s1 s2 s3 : Bytes} (hb : W.heap[b]? = some (.cells #[.string (S s0), .string (S s1), .string (S s2), .string (S s3)] 9)) : ElsP strE W (· < W.heap.size) (.slice (some ⟨b, 0, none⟩) 4 4) [s0, s1, s2, s3] :=
  ⟨_, 4, rfl, Nat.le_refl _, .inr ⟨b, 0, rfl, heap_lt hb, fun i a hi => ⟨_, rfl, fun j v hj => by
    match j, hj with
    | 0, hj =>
      simp at hj; subst hj
      rw [Lib.cell_of_heap hb]
      match i, hi with
      | 0, hi => simp at hi; subst hi; rfl
      | 1, hi => simp at hi; subst hi; rfl
      | 2, hi => simp at hi; subst hi; rfl
      | 3, hi => simp at hi; subst hi; rfl
      | i + 4, hi => simp at hi
    | j + 1, hj => simp at hj⟩⟩⟩
theorem els_three {W : World} {b : Nat} {s0 s1 s2 : Bytes} (hb : W.heap[b]? = some (.cells #[.string (S s0), .string (S s1), .string (S s2)] 9)) : ElsP strE W (· < W.heap.size) (.slice (some ⟨b, 0, none⟩) 3 3) [s0, s1, s2] :=
  ⟨_, 3, rfl, Nat.le_refl _, .inr ⟨b, 0, rfl, heap_lt hb, fun i a hi => ⟨_, rfl, fun j v hj => by
    match j, hj with
    | 0, hj =>
      simp at hj; subst hj
      rw [Lib.cell_of_heap hb]
      match i, hi with
      | 0, hi => simp at hi; subst hi; rfl
      | 1, hi => simp at hi; subst hi; rfl
      | 2, hi => simp at hi; subst hi; rfl
      | i + 3, hi => simp at hi
    | j + 1, hj => simp at hj⟩⟩⟩

end Go.Proofs.YtadkgjbidhfefaaGreatDoor
