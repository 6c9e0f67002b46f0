/-
  A position in a document (the struct cursor) behind a pointer.
-/
import Derived.Test.YthbfahbjfioghaaGreatDoorMem
set_option linter.unusedVariables false
namespace Go.Proofs.YthbfahbjfioghaaGreatDoor
open Go.RowKit

/-- Block b is a position: the document, the offset, the first error's offset and the error. -/
def Cur (w : World) (b : Nat) (l : Bytes) (n ea er : Int) : Prop :=
  w.heap[b]? = some (.cells #[.string (S l), .int .i64 n, .int .i64 ea, .int .i64 er] 62 (0, 0))
section
variable {w w' : World} {b : Nat} {l : Bytes} {n ea er : Int}
theorem Cur.lt (h : Cur w b l n ea er) : b < w.heap.size := heap_lt h
theorem Cur.c0 (h : Cur w b l n ea er) : w.cell? ⟨b, 0, none⟩ = some (.string (S l)) := by rw [Lib.cell_of_heap h]; rfl
theorem Cur.c1 (h : Cur w b l n ea er) : w.cell? ⟨b, 1, none⟩ = some (.int .i64 n) := by rw [Lib.cell_of_heap h]; rfl
theorem Cur.c2 (h : Cur w b l n ea er) : w.cell? ⟨b, 2, none⟩ = some (.int .i64 ea) := by rw [Lib.cell_of_heap h]; rfl
theorem Cur.c3 (h : Cur w b l n ea er) : w.cell? ⟨b, 3, none⟩ = some (.int .i64 er) := by rw [Lib.cell_of_heap h]; rfl
theorem Cur.free (h : Cur w b l n ea er) (i : Nat) : w.frozen? ⟨b, i, none⟩ = false := Lib.frozen_of_heap h i
theorem Cur.below (h : Cur w b l n ea er) (hb : Below w.heap.size w w') : Cur w' b l n ea er := (hb.block b h.lt).trans h
theorem Cur.drew (h : Cur w b l n ea er) : Cur w.drew b l n ea er := h
theorem Cur.alloc (h : Cur w b l n ea er) (o : Obj) : Cur (w.alloc o) b l n ea er := h.below ((Below.refl _ _).alloc (Nat.le_refl _) o)
theorem Cur.move (h : Cur w b l n ea er) (m : Int) : Cur (w.setCell ⟨b, 1, none⟩ (.int .i64 m)) b l m ea er := by
  unfold Cur at h ⊢
  simp [World.setCell, Array.getElem?_modify, h]
theorem Cur.new (w : World) (l : Bytes) (n ea er : Int) : Cur (w.alloc (.cells #[.string (S l), .int .i64 n, .int .i64 ea, .int .i64 er] 62)) w.heap.size l n ea er := heap_alloc_new w _
end
end Go.Proofs.YthbfahbjfioghaaGreatDoor
