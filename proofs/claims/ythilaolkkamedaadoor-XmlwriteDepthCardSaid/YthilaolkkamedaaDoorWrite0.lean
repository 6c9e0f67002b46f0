/-
  The writer's builder and the variable that holds the closure.
-/
import Derived.Test.YthilaolkkamedaaDoorBuild
import Derived.Test.YthilaolkkamedaaDoorLoad
import Derived.Test.YthilaolkkamedaaDoorEsc
import Derived.Test.YthilaolkkamedaaDoorSpec10
import Derived.Lib.BufferKept
set_option linter.unusedVariables false
namespace Go.Proofs.YthilaolkkamedaaDoor
open Go.RowKit

/-- The closure of Write: it holds the builder and the variable that it lies in. -/
abbrev wFn (b cl : Nat) : Value := .func (.func 20) #[] #[.pointer (some ⟨b, 0, none⟩), .pointer (some ⟨cl, 0, none⟩)]
structure Wr (B b cl : Nat) (X : Bytes) (w : World) : Prop where
  bld : Bld B b X w
  box : w.heap[cl]? = some (.cells #[wFn b cl] 52)
  ne : cl ≠ b
  le : B ≤ w.heap.size
structure Fr (B b : Nat) (w w' : World) : Prop where
  below : Below B w w'
  kept : Kept b w w'
theorem Fr.refl (B b : Nat) (w : World) : Fr B b w w := ⟨Below.refl _ _, Lib.OthersKept.refl _ _ _⟩
theorem Fr.trans {B b : Nat} {w w1 w2 : World} (h : Fr B b w w1) (k : Fr B b w1 w2) : Fr B b w w2 := ⟨h.below.trans k.below, h.kept.trans k.kept⟩
theorem Fr.alloc {B b : Nat} {w w1 : World} (h : Fr B b w w1) (hB : B ≤ w1.heap.size) (o : Obj) : Fr B b w (w1.alloc o) := ⟨h.below.alloc hB o, h.kept.alloc o⟩
theorem Fr.drew {B b : Nat} {w w1 : World} (h : Fr B b w w1) : Fr B b w w1.drew := ⟨h.below.drew, h.kept.drew⟩
theorem Fr.next {B b : Nat} {w w1 w2 : World} (h : Fr B b w w1) (hB : B ≤ w1.heap.size) (k : Below w1.heap.size w1 w2) : Fr B b w w2 := ⟨h.below.trans (k.mono hB), h.kept.below k⟩
theorem Fr.node {B b k : Nat} {w w' : World} (h : Fr B b w w') (hk : k ≠ b) {c : Array Value} (hb : w.heap[k]? = some (.cells c 25)) : w'.heap[k]? = some (.cells c 25) :=
  h.kept k _ hb (by simpa using hk) (by intro c fz e; simp at e)
theorem Fr.att {B b k : Nat} {w w' : World} (h : Fr B b w w') (hk : k ≠ b) {c : Array Value} (hb : w.heap[k]? = some (.cells c 37)) : w'.heap[k]? = some (.cells c 37) :=
  h.kept k _ hb (by simpa using hk) (by intro c fz e; simp at e)
theorem Wr.alloc {B b cl : Nat} {X : Bytes} {w : World} (h : Wr B b cl X w) (o : Obj) : Wr B b cl X (w.alloc o) := by
  refine ⟨h.bld.alloc o, ?_, h.ne, by simp; have := h.le; omega⟩
  rw [Lib.alloc_old w _ cl (Array.getElem?_eq_some_iff.1 h.box).1]; exact h.box
theorem Wr.drew {B b cl : Nat} {X : Bytes} {w : World} (h : Wr B b cl X w) : Wr B b cl X w.drew := ⟨h.bld.drew, h.box, h.ne, h.le⟩
theorem Wr.next {B b cl : Nat} {X : Bytes} {w w' : World} (h : Wr B b cl X w) (k : Below w.heap.size w w') : Wr B b cl X w' := by
  refine ⟨h.bld.below k, ?_, h.ne, by have := h.le; have := k.size; omega⟩
  rw [k.block cl (Array.getElem?_eq_some_iff.1 h.box).1]; exact h.box
theorem Wr.cell {B b cl : Nat} {X : Bytes} {w : World} (h : Wr B b cl X w) : w.cell? ⟨cl, 0, none⟩ = some (wFn b cl) := by rw [Lib.cell_of_heap h.box]; rfl
theorem Wr.clt {B b cl : Nat} {X : Bytes} {w : World} (h : Wr B b cl X w) : cl < w.heap.size := (Array.getElem?_eq_some_iff.1 h.box).1
theorem wr_str {B b cl : Nat} {X : Bytes} (m : Bytes) {w : World} (h : Wr B b cl X w) (hl : X.length + m.length ≤ 140737488355328) :
    Calls Tryd.prog 21 #[.pointer (some ⟨b, 0, none⟩), .string (S m)] w fun e w' => e = .returned (.tuple #[.int .i64 m.length, .nilIface]) ∧ Wr B b cl (X ++ m) w' ∧ Fr B b w w' := by
  refine (writeString_any B b X m w h.bld hl h.le).mono ?_
  rintro e w' ⟨rfl, h1, h2, h3⟩
  exact ⟨rfl, ⟨h1, h3 cl _ h.box (by simpa using h.ne) (by intro c fz e; simp at e), h.ne, by have := h.le; have := h2.size; omega⟩, h2, h3⟩
theorem wr_byte {B b cl : Nat} {X : Bytes} (c : Int) {w : World} (h : Wr B b cl X w) (hc : 0 ≤ c ∧ c ≤ 255) (hl : X.length + 1 ≤ 140737488355328) :
    Calls Tryd.prog 24 #[.pointer (some ⟨b, 0, none⟩), .int .u8 c] w fun e w' => e = .returned .nilIface ∧ Wr B b cl (X ++ [UInt8.ofNat c.toNat]) w' ∧ Fr B b w w' := by
  refine (writeByte_any B b X c w h.bld hc hl h.le).mono ?_
  rintro e w' ⟨rfl, h1, h2, h3⟩
  exact ⟨rfl, ⟨h1, h3 cl _ h.box (by simpa using h.ne) (by intro c fz e; simp at e), h.ne, by have := h.le; have := h2.size; omega⟩, h2, h3⟩
theorem run_cat {P : Program} (x y z : Bytes) (hz : z = x ++ y) (h : x.length + y.length ≤ 4611686018427387904) : ∀ W : World, (Op.stringOp .add (S x) (S y)).run P W = .ok (.string (S z)) W := fun W => by
  rw [run_string_add_sum W (S x) (S y) (by simp only [S, ByteArray.size, List.size_toArray]; omega), hz, S_append]
end Go.Proofs.YthilaolkkamedaaDoor
