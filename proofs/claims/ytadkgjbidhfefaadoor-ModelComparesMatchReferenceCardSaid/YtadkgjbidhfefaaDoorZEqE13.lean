/-
  Chapter 13: entries compared by ==.
-/
import Derived.Test.YtadkgjbidhfefaaDoorE4
import Derived.Laws.StructEq
set_option linter.unusedVariables false
namespace Go.Proofs.YtadkgjbidhfefaaDoor
open Go.RowKit

def enEq (a b : En) : Bool := (a.id == b.id) && ((a.title == b.title) && ((a.link == b.link) && ((a.content == b.content) && (a.upd == b.upd))))
theorem enEq_iff {a b : En} : enEq a b = true ↔ a = b := by
  cases a; cases b
  simp [enEq]
theorem enEq_same (a : En) : enEq a a = true := enEq_iff.2 rfl
theorem enEq_no {a b : En} (h : a ≠ b) : enEq a b = false := by
  cases hq : enEq a b with
  | false => rfl
  | true => exact absurd (enEq_iff.1 hq) h
theorem eqIn_ent (a b : En) (w : World) : (Op.equalIn 10000 59 (entV a) (entV b)).run Tryd.prog w = .ok (enEq a b) w := by
  have hS : Tryd.prog.underlying 59 = some (.struct (Tryd.prog.fieldsOf 59)) := by kernel_rfl
  have hp : Tryd.prog.stoodInHeld 59 = false := by kernel_rfl
  have u9 := Tryd.underlying9
  have u2 := Tryd.underlying2
  have a9 := Tryd.isAgg9
  have z9 := Tryd.sizeOf9
  have a2 := Tryd.isAgg2
  have z2 := Tryd.sizeOf2
  rw [show (10000 : Nat) = 9999 + 1 from rfl, run_equalIn_agg w 9999 59 _ _ hS hp]
  simp only [Program.fieldsOf, Tryd.underlying59]
  go_simp
  unfold enEq
  cases h1 : (a.id == b.id) <;> cases h2 : (a.title == b.title) <;> cases h3 : (a.link == b.link) <;> cases h4 : (a.content == b.content) <;> cases h5 : (a.upd == b.upd) <;> simp_all
theorem run_eq_ent (a b : En) (w : World) : (binOp .eql 59 (entV a) (entV b)).run Tryd.prog w = .ok (.bool (enEq a b)) w := by
  rw [run_eql_struct, eqIn_ent]; rfl
theorem run_ne_ent (a b : En) (w : World) : (binOp .neq 59 (entV a) (entV b)).run Tryd.prog w = .ok (.bool (!(enEq a b))) w := by
  rw [run_neq_struct, eqIn_ent]; rfl
end Go.Proofs.YtadkgjbidhfefaaDoor
