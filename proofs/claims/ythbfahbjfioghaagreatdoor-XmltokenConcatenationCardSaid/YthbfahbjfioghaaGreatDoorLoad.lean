/-
  Loading an attribute or a node out of a slice; what a node's box holds.
-/
import Derived.Test.YthbfahbjfioghaaGreatDoorGen
import Derived.Test.YthbfahbjfioghaaGreatDoorSpec07
import Derived.Test.YthbfahbjfioghaaGreatDoorMem
import Derived.StillTailTactics
set_option linter.unusedVariables false
namespace Go.Proofs.YthbfahbjfioghaaGreatDoor
open Go.RowKit

theorem attSize : (Tryz.prog.info? 42).map (·.size) = some 4 := by kernel_rfl
theorem nodeSize : (Tryz.prog.info? 46).map (·.size) = some 7 := by kernel_rfl
theorem wp_load_att {ops : Array Oper} {rest : List Oper} {o : Oper} {a : Act} {w : World} {Q : Exit → Act → World → Prop} (hgd : o.guard = none) (x : Operand) (ho : o.op = .load 42 x)
    (b off : Nat) (hx : a.eval x = .pointer (some ⟨b, off, none⟩)) (t : Att) (hr : w.rangeAt b off (attCells t))
    (h : wpList Tryz.prog ops Q rest (a.put o.dst (.agg #[.string (S t.space), .string (S t.name), .string (S t.value), .int .i64 t.pos])) w) : wpList Tryz.prog ops Q (o :: rest) a w :=
  wpList_load_mid hgd 42 x ho b off hx (attCells t) _ hr Tryz.underlying42 rfl attSize h
theorem wp_load_node {ops : Array Oper} {rest : List Oper} {o : Oper} {a : Act} {w : World} {Q : Exit → Act → World → Prop} (hgd : o.guard = none) (x : Operand) (ho : o.op = .load 46 x)
    (b off : Nat) (hx : a.eval x = .pointer (some ⟨b, off, none⟩)) (cs : List Value) (hl : cs.length = 7) (hr : w.rangeAt b off cs)
    (h : wpList Tryz.prog ops Q rest (a.put o.dst (.agg cs.toArray)) w) : wpList Tryz.prog ops Q (o :: rest) a w :=
  wpList_load_mid hgd 46 x ho b off hx cs _ hr Tryz.underlying46 rfl (by rw [hl]; exact nodeSize) h


/-- In a statement whose order is open: loading a node. -/
theorem still_load_node {ops : Array Oper} {rest : List Oper} {o : Oper} {a : Act} {w : World} {Q : Act → Prop} (hgd : o.guard = none) (x : Operand) (ho : o.op = .load 46 x)
    (b off : Nat) (hx : a.eval x = .pointer (some ⟨b, off, none⟩)) (cs : List Value) (hl : cs.length = 7) (hr : w.rangeAt b off cs)
    (h : wpStill Tryz.prog ops w Q rest (a.put o.dst (.agg cs.toArray))) : wpStill Tryz.prog ops w Q (o :: rest) a := by
  refine wpStill_step fun K hK => ?_
  rw [if_pos (by simp [Region.wanted, hgd])]
  unfold Oper.still execOp
  simp only [ho, hx, Instr.loadAt, Instr.sureAddr, Sem.run_bind, Sem.run_pure, Result.andThen_ok, run_loadVar_mid w b off 46 cs _ hr Tryz.underlying46 rfl (by rw [hl]; exact nodeSize)]
  rw [Oper.stillUpon_value]
  exact hK _ h
/-- The box of a node that came in by value. -/
abbrev nodeBox (n : Node) (A : Option Addr) (c : Nat) (K : Option Addr) (d : Nat) : Obj :=
  .cells #[.int .i64 n.kind, .string (S n.space), .string (S n.name), .slice A n.attrs.length c, .slice K n.kids.length d, .string (S n.text), .int .i64 n.pos] 46
theorem box_cells {w : World} {b : Nat} {n : Node} {A : Option Addr} {c : Nat} {K : Option Addr} {d : Nat} (h : w.heap[b]? = some (nodeBox n A c K d)) :
    w.cell? ⟨b, 0, none⟩ = some (.int .i64 n.kind) ∧ w.cell? ⟨b, 1, none⟩ = some (.string (S n.space)) ∧ w.cell? ⟨b, 2, none⟩ = some (.string (S n.name)) ∧ w.cell? ⟨b, 3, none⟩ = some (.slice A n.attrs.length c) ∧
    w.cell? ⟨b, 4, none⟩ = some (.slice K n.kids.length d) ∧ w.cell? ⟨b, 5, none⟩ = some (.string (S n.text)) ∧ w.cell? ⟨b, 6, none⟩ = some (.int .i64 n.pos) := by
  refine ⟨?_, ?_, ?_, ?_, ?_, ?_, ?_⟩ <;> (rw [Lib.cell_of_heap h]; rfl)
end Go.Proofs.YthbfahbjfioghaaGreatDoor
