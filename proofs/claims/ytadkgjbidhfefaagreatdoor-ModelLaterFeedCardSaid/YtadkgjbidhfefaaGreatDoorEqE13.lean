/-
  Chapter 13: entries compared by ==.
-/
import Derived.Test.YtadkgjbidhfefaaGreatDoorLat13
import Derived.Laws.StructEq
set_option linter.unusedVariables false
namespace Go.Proofs.YtadkgjbidhfefaaGreatDoor
open Go.RowKit

def enEq (a b : En) : Bool := (a.id == b.id) && ((a.title == b.title) && ((a.link == b.link) && ((a.content == b.content) && (a.upd == b.upd))))
theorem enEq_iff {a b : En} : enEq a b = true ↔ a = b := by
  cases a; cases b
  simp [enEq]
theorem enEq_same (a : En) : enEq a a = true := enEq_iff.2 rfl
theorem enEq_no {a b : En} (h : a ≠ b) : enEq a b = false := by
  cases hq : enEq a b with
  | false => rfl
  | true => exact absurd (enEq_iff.1 hq) h
theorem eqIn_ent (a b : En) (w : World) : (Op.equalIn 10000 39 (entV a) (entV b)).run Tryz.prog w = .ok (enEq a b) w := by
  have hS : Tryz.prog.underlying 39 = some (.struct (Tryz.prog.fieldsOf 39)) := by kernel_rfl
  have hp : Tryz.prog.stoodInHeld 39 = false := by kernel_rfl
  have u9 := Tryz.underlying9
  have u2 := Tryz.underlying2
  have a9 := Tryz.isAgg9
  have z9 := Tryz.sizeOf9
  have a2 := Tryz.isAgg2
  have z2 := Tryz.sizeOf2
  rw [show (10000 : Nat) = 9999 + 1 from rfl, run_equalIn_agg w 9999 39 _ _ hS hp]
  simp only [Program.fieldsOf, Tryz.underlying39]
  go_simp
  unfold enEq
  cases h1 : (a.id == b.id) <;> cases h2 : (a.title == b.title) <;> cases h3 : (a.link == b.link) <;> cases h4 : (a.content == b.content) <;> cases h5 : (a.upd == b.upd) <;> simp_all
theorem run_eq_ent (a b : En) (w : World) : (binOp .eql 39 (entV a) (entV b)).run Tryz.prog w = .ok (.bool (enEq a b)) w := by
  rw [run_eql_struct, eqIn_ent]; rfl
theorem run_ne_ent (a b : En) (w : World) : (binOp .neq 39 (entV a) (entV b)).run Tryz.prog w = .ok (.bool (!(enEq a b))) w := by
  rw [run_neq_struct, eqIn_ent]; rfl
end Go.Proofs.YtadkgjbidhfefaaGreatDoor
