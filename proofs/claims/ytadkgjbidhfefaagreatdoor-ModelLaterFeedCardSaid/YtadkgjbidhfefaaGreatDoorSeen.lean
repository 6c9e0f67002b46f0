/-
  A map that serves as a set of strings.
-/
import Derived.Test.YtadkgjbidhfefaaGreatDoorMap
set_option linter.unusedVariables false
namespace Go.Proofs.YtadkgjbidhfefaaGreatDoor
open Go.RowKit

theorem zeroBool (w : World) : (zeroValue 4).run Tryz.prog w = .ok (.bool false) w := by kernel_rfl
/-- The set of the names seen so far. -/
def seenOf (l : List Bytes) : List (Bytes × Value) := l.map fun k => (k, .bool true)
theorem look_seen (k : Bytes) (l : List Bytes) : (look k (seenOf l)).getD (.bool false) = .bool (l.contains k) := by
  induction l with
  | nil => rfl
  | cons x l ih =>
    rw [seenOf, List.map_cons, look]
    by_cases h : k = x
    · subst h; simp
    · have : (k == x) = false := by simp [h]
      rw [this]
      simp only [Bool.false_eq_true, if_false]
      rw [show (look k (l.map fun k => (k, Value.bool true))) = look k (seenOf l) from rfl, ih]
      congr 1
      rw [Bool.eq_iff_iff]
      simp [h]
theorem putM_seen (k : Bytes) (l : List Bytes) (h : l.contains k = false) : putM k (.bool true) (seenOf l) = seenOf (l ++ [k]) := by
  rw [putM_push]
  · simp [seenOf]
  · have := look_seen k l
    rw [h] at this
    cases hl : look k (seenOf l) with
    | none => rfl
    | some v =>
      exfalso
      rw [hl] at this
      simp only [Option.getD_some] at this
      subst this
      have hn : ∀ (l : List Bytes) (v : Value), look k (seenOf l) = some v → v = .bool true := by
        intro l
        induction l with
        | nil => intro v h; cases h
        | cons x l ih =>
          intro v h
          rw [seenOf, List.map_cons, look] at h
          split at h
          · cases h; rfl
          · exact ih v h
      have := hn l _ hl
      cases this
end Go.Proofs.YtadkgjbidhfefaaGreatDoor
