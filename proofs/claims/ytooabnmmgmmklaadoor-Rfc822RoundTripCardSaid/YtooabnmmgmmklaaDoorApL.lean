/-
  Appending some bytes that are written out to a slice of the call's own. No function of the program.
-/
import Derived.Test.YtooabnmmgmmklaaDoorElt
set_option linter.unusedVariables false
namespace Go.Proofs.YtooabnmmgmmklaaDoor
open Go.RowKit

/-! Appending some bytes. -/
theorem own_append_list_step {ops : Array Oper} {o : Oper} {a : Act} {K : Act → World → Prop} {Q : Exit → Act → World → Prop} {Z : Prop} (hgd : o.guard = none) (sl x : Operand)
    (ho : o.op = .call { callee := .builtin .append, args := #[sl, x], argTypes := #[38, 38] })
    (w : World) (B : Nat) (v : Value) (l m : Bytes) (cs : Array Value) (k : Nat) (hcs : cs.toList = Lib.byteCells m) (hk : m.length = k) (hm : 1 ≤ k ∧ k ≤ 10) (hs : a.eval sl = v) (h : Own B v l w) (H : Nat) (hH : w.heap.size = H) (hx : a.eval x = .slice (some ⟨H, 0, none⟩) k k) (hlen : l.length + 10 ≤ 140737488355328) (hB : B ≤ w.heap.size)
    (hK : ∀ v' w', Own B v' (l ++ m) w' → Below B w w' → K (a.put o.dst v') w') : if Region.wanted o (yielded ops a.tmps) = true then Oper.wp Tryd.prog o a (w.alloc (.cells cs 5)) K Q else Z := by
  subst hH hk
  obtain ⟨i0, hi, hz0, hz1, hz2⟩ := info_parts infoByte
  have hal : Own B v l (w.alloc (.cells cs 5)) := h.below ((Below.refl _ _).alloc (Nat.le_refl _) _)
  refine step_append_lies _ hgd sl x 38 ho B 5 i0 (.int .u8 0) 1 1 Tryd.underlying38 hi hz0 hz1 hz2 rfl (by decide) v l.length (Lib.byteCells l) hs hal ⟨w.heap.size, 0, none⟩ m.length m.length (Lib.byteCells m) hx (by rw [Lib.byteCells_length]; omega) ?_ ?_ (by omega) (by unfold maxLen; omega) (by omega) (by simp; omega) _ rfl ?_
  · intro j u hj
    exact World.news_of_block (heap_alloc_new w (.cells cs 5)) j u (by rw [hcs]; exact hj)
  · intro u hu
    simp only [Lib.byteCells, List.mem_map] at hu
    obtain ⟨c, _, rfl⟩ := hu
    rfl
  · intro g cap w' h1 h2 hat hlt'
    refine hK _ w' ?_ (((Below.refl _ _).alloc hB _).trans (row_grown h2 (by simp; omega) (fun k hk => by have := h.lt k hk; simp; omega)))
    unfold Own
    rw [Lib.byteCells_append, List.length_append]
    exact h1
theorem own_append_list {ops : Array Oper} {rest : List Oper} {o : Oper} {a : Act} {Q : Exit → Act → World → Prop} (hgd : o.guard = none) (sl x : Operand)
    (ho : o.op = .call { callee := .builtin .append, args := #[sl, x], argTypes := #[38, 38] })
    (w : World) (B : Nat) (v : Value) (l m : Bytes) (cs : Array Value) (k : Nat) (hcs : cs.toList = Lib.byteCells m) (hk : m.length = k) (hm : 1 ≤ k ∧ k ≤ 10) (hs : a.eval sl = v) (h : Own B v l w) (H : Nat) (hH : w.heap.size = H) (hx : a.eval x = .slice (some ⟨H, 0, none⟩) k k) (hlen : l.length + 10 ≤ 140737488355328) (hB : B ≤ w.heap.size)
    (hK : ∀ v' w', Own B v' (l ++ m) w' → Below B w w' → wpList Tryd.prog ops Q rest (a.put o.dst v') w') : wpList Tryd.prog ops Q (o :: rest) a (w.alloc (.cells cs 5)) := by
  subst hH hk
  obtain ⟨i0, hi, hz0, hz1, hz2⟩ := info_parts infoByte
  have hal : Own B v l (w.alloc (.cells cs 5)) := h.below ((Below.refl _ _).alloc (Nat.le_refl _) _)
  refine wpList_append_lies _ hgd sl x 38 ho B 5 i0 (.int .u8 0) 1 1 Tryd.underlying38 hi hz0 hz1 hz2 rfl (by decide) v l.length (Lib.byteCells l) hs hal ⟨w.heap.size, 0, none⟩ m.length m.length (Lib.byteCells m) hx (by rw [Lib.byteCells_length]; omega) ?_ ?_ (by omega) (by unfold maxLen; omega) (by omega) (by simp; omega) _ rfl ?_
  · intro j u hj
    exact World.news_of_block (heap_alloc_new w (.cells cs 5)) j u (by rw [hcs]; exact hj)
  · intro u hu
    simp only [Lib.byteCells, List.mem_map] at hu
    obtain ⟨c, _, rfl⟩ := hu
    rfl
  · intro g cap w' h1 h2 hat hlt'
    refine hK _ w' ?_ (((Below.refl _ _).alloc hB _).trans (row_grown h2 (by simp; omega) (fun k hk => by have := h.lt k hk; simp; omega)))
    unfold Own
    rw [Lib.byteCells_append, List.length_append]
    exact h1
theorem own_new (w : World) (B : Nat) (hB : B ≤ w.heap.size) (c : UInt8) : Own B (.slice (some ⟨w.heap.size, 0, none⟩) 1 1) [c] (w.alloc (.cells #[.int .u8 c.toNat] 5)) :=
  ⟨rfl, .inr ⟨w.heap.size, 1, _, rfl, hB, heap_alloc_new w _, Nat.le_refl _, by decide, rfl, rfl⟩⟩
end Go.Proofs.YtooabnmmgmmklaaDoor
