/-
  A slice of bytes in a block of its own: a string turned into bytes, written to, and turned back. No function of the program.
-/
import Derived.Test.YtooabnmmgmmklaaDoorMem
import Derived.Laws.IdiomStrings
set_option linter.unusedVariables false
namespace Go.Proofs.YtooabnmmgmmklaaDoor
open Go.RowKit

/-- A slice of bytes in a block of its own. -/
def BytesAt (w : World) (g : Nat) (P : Bytes) : Prop := ∃ C : Array Value, w.heap[g]? = some (.cells C 5 (C.size, C.size + 1)) ∧ ∀ (j : Nat) c, P[j]? = some c → C[j]? = some (.int .u8 c.toNat)
section
variable {w w' : World} {g : Nat} {P : Bytes}
theorem BytesAt.lt (h : BytesAt w g P) : g < w.heap.size := by obtain ⟨C, h1, _⟩ := h; exact heap_lt h1
theorem BytesAt.size {C : Array Value} (h : ∀ (j : Nat) c, P[j]? = some c → C[j]? = some (.int .u8 c.toNat)) : P.length ≤ C.size := by
  rcases Nat.eq_zero_or_pos P.length with h0 | h0
  · omega
  · have := h (P.length - 1) _ (List.getElem?_eq_getElem (by omega))
    have := (Array.getElem?_eq_some_iff.1 this).1
    omega
theorem BytesAt.cell (h : BytesAt w g P) {j : Nat} (hj : j < P.length) : w.cell? ⟨g, j, none⟩ = some (.int .u8 P[j].toNat) := by
  obtain ⟨C, h1, h2⟩ := h
  rw [Lib.cell_of_heap h1]
  exact h2 j _ (List.getElem?_eq_getElem hj)
theorem BytesAt.free (h : BytesAt w g P) {j : Nat} (hj : j < P.length) : w.frozen? ⟨g, j, none⟩ = false := by
  obtain ⟨C, h1, h2⟩ := h
  have := BytesAt.size h2
  unfold World.frozen?
  simp only [h1]
  simp
  omega
theorem BytesAt.set_ (h : BytesAt w g P) {j : Nat} (hj : j < P.length) (c : UInt8) : BytesAt (w.setCell ⟨g, j, none⟩ (.int .u8 c.toNat)) g (P.set j c) := by
  obtain ⟨C, h1, h2⟩ := h
  have hs := BytesAt.size h2
  refine ⟨C.setIfInBounds j (.int .u8 c.toNat), ?_, ?_⟩
  · simp [World.setCell, Array.getElem?_modify, h1]
  · intro i d hd
    by_cases hij : j = i
    · subst hij
      rw [List.getElem?_set_self hj] at hd
      cases hd
      rw [Array.getElem?_setIfInBounds_self_of_lt (by omega)]
    · rw [List.getElem?_set_ne hij] at hd
      rw [Array.getElem?_setIfInBounds_ne hij]
      exact h2 i d hd
end
theorem bytes_of (w : World) (P : Bytes) : ∃ (c : Nat) (W : World), (convert 9 38 (.string (S P))).run Tryd.prog w = .ok (.slice (some ⟨w.heap.size, 0, none⟩) P.length c) W ∧ BytesAt W w.heap.size P ∧ Below w.heap.size w W := by
  refine ⟨_, _, by have := run_bytes_of_string (P := Tryd.prog) w 9 38 5 (S P) Tryd.underlying9 Tryd.underlying38 Tryd.underlying5; rw [S_size] at this; exact this, ?_, ?_⟩
  · refine ⟨_, heap_alloc_new w.drew _, ?_⟩
    intro j c hc
    have hj := (List.getElem?_eq_some_iff.1 hc).1
    unfold bytesRow
    rw [Array.getElem?_append_left (by simp [S]; exact hj)]
    simp [S, hc]
  · exact below_undrew ((Below.refl w.heap.size w.drew).alloc (show w.heap.size ≤ w.drew.heap.size from Nat.le_refl _) _)
theorem bytes_back {w : World} {g : Nat} {P : Bytes} (h : BytesAt w g P) (c : Nat) : (convert 38 9 (.slice (some ⟨g, 0, none⟩) P.length c)).run Tryd.prog w = .ok (.string (S P)) w := by
  refine run_bytes_string w ⟨g, 0, none⟩ P c ?_
  intro j x hj
  have hj' := (List.getElem?_eq_some_iff.1 hj).1
  rw [show (⟨g, 0, none⟩ : Addr).add j = ⟨g, j, none⟩ by unfold Addr.add; split <;> simp_all]
  rw [h.cell hj']
  rw [List.getElem?_eq_getElem hj'] at hj
  cases hj; rfl
end Go.Proofs.YtooabnmmgmmklaaDoor
