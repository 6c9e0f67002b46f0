/-
  Chapter 13: three parameters in memory. No function of the program.
-/
import Derived.Test.YtadkgjbidhfefaaGreatDoorEnt13
set_option linter.unusedVariables false
namespace Go.Proofs.YtadkgjbidhfefaaGreatDoor
open Go.RowKit

/-- Three parameters. -/
structure Box3F (w : World) (B : Nat) (x y z : Obj) : Prop where
  one : w.heap[B]? = some x
  two : w.heap[B + 1]? = some y
  thr : w.heap[B + 1 + 1]? = some z
theorem Box3F.new (w : World) (x y z : Obj) : Box3F (((w.alloc x).alloc y).alloc z) w.heap.size x y z := by
  refine ⟨?_, ?_, ?_⟩
  · exact (Below.heap_alloc _ _ _ (by simp; omega)).trans ((Below.heap_alloc _ _ _ (by simp)).trans (heap_alloc_new w _))
  · refine (Below.heap_alloc _ _ _ (by simp)).trans ?_
    have := heap_alloc_new (w.alloc x) y
    simpa using this
  · have := heap_alloc_new ((w.alloc x).alloc y) z
    simpa using this
theorem Box3F.next {w w' : World} {B : Nat} {x y z : Obj} (h : Box3F w B x y z) (hb : Below w.heap.size w w') : Box3F w' B x y z :=
  ⟨(hb.block _ (heap_lt h.one)).trans h.one, (hb.block _ (heap_lt h.two)).trans h.two, (hb.block _ (heap_lt h.thr)).trans h.thr⟩
end Go.Proofs.YtadkgjbidhfefaaGreatDoor
