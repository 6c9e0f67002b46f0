/-
  Walks of chapter 12's statements: IsInjective.
-/
import Derived.Test.YthlppbpccldikaaGreatDoorZLaw12d
import Derived.Test.YthlppbpccldikaaGreatDoorZWei12
import Derived.Test.YthlppbpccldikaaGreatDoorZRefJC
import Derived.Test.YthlppbpccldikaaGreatDoorH20
import Derived.Test.YthlppbpccldikaaGreatDoorH12
set_option linter.unusedVariables false
namespace Go.Proofs.YthlppbpccldikaaGreatDoor
open Go.RowKit

theorem bigJ_cases (v : JV) : bigJ v = 1 ∨ (bigJ v = 0 ∧ jful v ≤ 5000) := by
  unfold bigJ
  split
  · exact .inl rfl
  · exact .inr ⟨rfl, by have := jful_le v 0 (by omega); omega⟩
/-- Two parameters' boxes. -/
structure Box2 (w : World) (b : Nat) (x y : Obj) : Prop where
  one : w.heap[b]? = some x
  two : w.heap[b + 1]? = some y
theorem Box2.new (w : World) (x y : Obj) : Box2 ((w.alloc x).alloc y) w.heap.size x y :=
  ⟨(Below.heap_alloc _ _ _ (by simp)).trans (heap_alloc_new w x), by have := heap_alloc_new (w.alloc x) y; simpa using this⟩
theorem Box2.next {w w' : World} {b : Nat} {x y : Obj} (h : Box2 w b x y) (hb : Below w.heap.size w w') : Box2 w' b x y :=
  ⟨(hb.block _ (heap_lt h.one)).trans h.one, (hb.block _ (heap_lt h.two)).trans h.two⟩
theorem Box2.lt {w : World} {b : Nat} {x y : Obj} (h : Box2 w b x y) : b + 2 ≤ w.heap.size := heap_lt h.two
theorem Box2.cells {w : World} {b : Nat} {c0 c1 c2 c3 c4 c5 c6 d0 d1 d2 d3 d4 d5 d6 : Value} {t : TypeId} {fr : Nat × Nat} (h : Box2 w b (.cells #[c0, c1, c2, c3, c4, c5, c6] t fr) (.cells #[d0, d1, d2, d3, d4, d5, d6] t fr)) :
    (w.cell? ⟨b, 0, none⟩ = some c0 ∧ w.cell? ⟨b, 1, none⟩ = some c1 ∧ w.cell? ⟨b, 2, none⟩ = some c2 ∧ w.cell? ⟨b, 3, none⟩ = some c3 ∧ w.cell? ⟨b, 4, none⟩ = some c4 ∧ w.cell? ⟨b, 5, none⟩ = some c5 ∧ w.cell? ⟨b, 6, none⟩ = some c6) ∧
    (w.cell? ⟨b + 1, 0, none⟩ = some d0 ∧ w.cell? ⟨b + 1, 1, none⟩ = some d1 ∧ w.cell? ⟨b + 1, 2, none⟩ = some d2 ∧ w.cell? ⟨b + 1, 3, none⟩ = some d3 ∧ w.cell? ⟨b + 1, 4, none⟩ = some d4 ∧ w.cell? ⟨b + 1, 5, none⟩ = some d5 ∧ w.cell? ⟨b + 1, 6, none⟩ = some d6) :=
  ⟨cells7 h.one, cells7 h.two⟩

end Go.Proofs.YthlppbpccldikaaGreatDoor
