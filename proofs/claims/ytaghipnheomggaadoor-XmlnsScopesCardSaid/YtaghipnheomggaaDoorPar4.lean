/-
  Small laws for a statement that builds an empty slice of nodes, appends a row to it and a node behind it, in whatever order.
-/
import Derived.Test.YtaghipnheomggaaDoorPar2
set_option linter.unusedVariables false
namespace Go.Proofs.YtaghipnheomggaaDoor
open Go.RowKit

theorem alloc_at {W : World} {o : Obj} {h : Nat} (e : W.heap.size = h) : (W.alloc o).heap[h]? = some o := by subst e; exact heap_alloc_new W o
theorem alloc_old {W : World} {o x : Obj} {h : Nat} (e : W.heap[h]? = some x) : (W.alloc o).heap[h]? = some x := (Below.heap_alloc W o h (heap_lt e)).trans e
/-- An empty slice that has just been built. -/
theorem rowE {W : World} {base h : Nat} {p : Nat → Prop} (e : W.heap[h]? = some (.cells #[] 29 (0, 0))) (hb : base ≤ h) : NodeRow W base p (.slice (some ⟨h, 0, none⟩) 0 0) [] :=
  ⟨[], rfl, by simp, by simp, .inr ⟨h, 0, #[], rfl, hb, e, Nat.le_refl _, by decide, rfl, by simp⟩⟩
theorem grew_below {B : Nat} {V W w' : World} {v v' : Value} (h : Below B V W) (g : Grew W v v' w') (hv : ∀ k, v.ownBlock = some k → B ≤ k) (hB : B ≤ V.heap.size) : Below B V w' :=
  ⟨g.grown.os.trans h.os, g.grown.tape.trans h.tape, g.grown.output.trans h.output, Nat.le_trans h.size g.lt, fun k hk => (g.grown.block k (Nat.lt_of_lt_of_le (Nat.lt_of_lt_of_le hk hB) h.size) (fun e => by have := hv k e.symm; omega)).trans (h.block k hk)⟩
theorem grew_at {W w' : World} {v v' : Value} {b : Nat} {o : Obj} (h : W.heap[b]? = some o) (g : Grew W v v' w') (hv : v.ownBlock ≠ some b) : w'.heap[b]? = some o := g.heap h hv
theorem range_at {W : World} {b : Nat} {cs : List Value} (h : W.heap[b]? = some (.cells cs.toArray 29 (0, 0))) : W.rangeAt b 0 cs := range_of_heap h
/-- The block of a row that is not empty, and its cells. -/
theorem NodeRow.ptr {w : World} {base : Nat} {p : Nat → Prop} {A : Option Addr} {n c : Nat} {ks : List Node} (h : NodeRow w base p (.slice A n c) ks) (hne : 1 ≤ ks.length) : ∃ g, A = some ⟨g, 0, none⟩ ∧ base ≤ g ∧ g < w.heap.size := by
  obtain ⟨css, _, _, hown⟩ := h
  rcases hown.2 with ⟨_, h0⟩ | ⟨g, cap, cur, hv, hg, hh, _⟩
  · omega
  · cases hv; exact ⟨g, rfl, hg, heap_lt hh⟩
theorem NodeRow.free {w : World} {base : Nat} {p : Nat → Prop} {g n c : Nat} {ks : List Node} (h : NodeRow w base p (.slice (some ⟨g, 0, none⟩) n c) ks) (j : Nat) : w.frozen? ⟨g, j, none⟩ = false := by
  obtain ⟨css, _, _, hown⟩ := h
  rcases hown.2 with ⟨hv, h0⟩ | ⟨g', cap, cur, hv, hg, hh, _⟩
  · cases hv
  · cases hv; exact Lib.frozen_of_heap hh j
theorem NodeRow.at_ {w : World} {base : Nat} {p : Nat → Prop} {g n c : Nat} {ks : List Node} (h : NodeRow w base p (.slice (some ⟨g, 0, none⟩) n c) ks) {i : Nat} (hi : i < ks.length) : ∃ cs, NodeP w p ks[i] cs ∧ w.rangeAt g (i * 7) cs := by
  obtain ⟨css, hl, hc7, _, hin, hown⟩ := h.open_
  have hic : i < css.length := by omega
  refine ⟨css[i], hin i _ _ (List.getElem?_eq_getElem hi) (List.getElem?_eq_getElem hic), fun j v hv => ?_⟩
  have hj : j < 7 := by
    have := (List.getElem?_eq_some_iff.1 hv).1
    rw [hc7 _ (List.getElem_mem hic)] at this
    exact this
  have := hown.cells (g := g) rfl (i * 7 + j) v (by rw [flat_at hc7 (List.getElem?_eq_getElem hic) hj]; exact hv)
  rw [add_zero_block] at this
  exact this
end Go.Proofs.YtaghipnheomggaaDoor
