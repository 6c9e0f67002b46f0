/-
  Rows of elements of any kind: slices that lie in memory, slices that a call builds itself, appending one element or a whole row.
-/
import Derived.Test.YtooabnmmgmmklaaDoorGen
import Derived.Maps.AppendAt
set_option linter.unusedVariables false
namespace Go.Proofs.YtooabnmmgmmklaaDoor
open Go.RowKit

/-- A kind of element: its type, the slices' type, cells, bytes, and what its cells are. -/
structure Elt (α : Type) where
  T : TypeId
  TS : TypeId
  c : Nat
  bytes : Nat
  zero : Value
  El : World → (Nat → Prop) → α → List Value → Prop
structure Elt.Ok {α : Type} (E : Elt α) : Prop where
  info : (Tryd.prog.info? E.T).map (fun i => (i.zero, i.size, i.bytes)) = some (some E.zero, E.c, E.bytes)
  list : Tryd.prog.underlying E.TS = some (.slice E.T)
  zc : E.zero.cells.size = E.c
  pos : 0 < E.c
  small : E.bytes ≤ 1400
  keep : ∀ {w w' : World} {p p' : Nat → Prop} {a : α} {cs : List Value}, E.El w p a cs → (∀ k, p k → w'.heap[k]? = w.heap[k]?) → (∀ k, p k → p' k) → E.El w' p' a cs
  len : ∀ {w : World} {p : Nat → Prop} {a : α} {cs : List Value}, E.El w p a cs → cs.length = E.c
  one : ∀ {w : World} {p : Nat → Prop} {a : α} {cs : List Value}, E.El w p a cs → ∀ u ∈ cs, u.oneCell' = true

/-- The value v is a slice of these elements; all lies in blocks that satisfy p. -/
def ElsP {α : Type} (E : Elt α) (w : World) (p : Nat → Prop) (v : Value) (l : List α) : Prop :=
  ∃ A cap, v = .slice A l.length cap ∧ l.length ≤ cap ∧ (l = [] ∨ ∃ b off, A = some ⟨b, off, none⟩ ∧ p b ∧ ∀ (i : Nat) a, l[i]? = some a → ∃ cs, E.El w p a cs ∧ w.rangeAt b (off + i * E.c) cs)
/-- A slice that the call has built itself, in a block of its own from 'base' on; what its elements hold lies in blocks that satisfy p. -/
def ElRow {α : Type} (E : Elt α) (w : World) (base : Nat) (p : Nat → Prop) (v : Value) (l : List α) : Prop :=
  ∃ css : List (List Value), css.length = l.length ∧ (∀ (i : Nat) a cs, l[i]? = some a → css[i]? = some cs → E.El w p a cs) ∧ w.ownsRow base E.T E.c v l.length css.flatten

section
variable {α : Type} {E : Elt α} {w w' : World} {p p' : Nat → Prop} {v : Value} {l : List α} {base : Nat}
theorem ElsP.keep (hE : E.Ok) (h : ElsP E w p v l) (hb : ∀ k, p k → w'.heap[k]? = w.heap[k]?) (hp : ∀ k, p k → p' k) : ElsP E w' p' v l := by
  obtain ⟨A, cap, hv, hc, h⟩ := h
  refine ⟨A, cap, hv, hc, h.imp id ?_⟩
  rintro ⟨b, off, hA, hlt, hr⟩
  refine ⟨b, off, hA, hp b hlt, fun i a hi => ?_⟩
  obtain ⟨cs, h1, h2⟩ := hr i a hi
  exact ⟨cs, hE.keep h1 hb hp, rangeAt_keep h2 (hb b hlt)⟩
theorem ElsP.nil (E : Elt α) (w : World) (p : Nat → Prop) : ElsP E w p (.slice none 0 0) [] := ⟨none, 0, rfl, Nat.le_refl _, .inl rfl⟩
theorem ElsP.slice (h : ElsP E w p v l) : ∃ A cap, v = .slice A l.length cap ∧ l.length ≤ cap := by
  obtain ⟨A, cap, hv, hc, _⟩ := h; exact ⟨A, cap, hv, hc⟩
theorem ElsP.at_ {A : Option Addr} {n cap i : Nat} (h : ElsP E w p (.slice A n cap) l) (hi : i < l.length) :
    ∃ b off cs, A = some ⟨b, off, none⟩ ∧ p b ∧ w.rangeAt b (off + i * E.c) cs ∧ E.El w p l[i] cs := by
  obtain ⟨A', cap', hv, _, h⟩ := h
  cases hv
  rcases h with h | ⟨b, off, hA, hlt, hr⟩
  · subst h; simp at hi
  · obtain ⟨cs, h1, h2⟩ := hr i _ (List.getElem?_eq_getElem hi)
    exact ⟨b, off, cs, hA, hlt, h2, h1⟩
theorem ElRow.nil (E : Elt α) (w : World) (base : Nat) (p : Nat → Prop) : ElRow E w base p (.slice none 0 0) [] := ⟨[], rfl, by simp, World.ownsRow_nil w base _ _⟩
theorem ElRow.fresh (E : Elt α) (w : World) (base : Nat) (p : Nat → Prop) (hb : base ≤ w.heap.size) : ElRow E (w.alloc (.cells #[] E.T)) base p (.slice (some ⟨w.heap.size, 0, none⟩) 0 0) [] :=
  ⟨[], rfl, by simp, by simp, .inr ⟨w.heap.size, 0, #[], rfl, hb, heap_alloc_new w _, Nat.le_refl _, by decide, by simp, by simp⟩⟩
theorem ElRow.below (hE : E.Ok) (h : ElRow E w base p v l) (hb : Below w.heap.size w w') (hp : ∀ k, p k → k < w.heap.size) : ElRow E w' base p v l := by
  obtain ⟨css, h1, h2, h3⟩ := h
  exact ⟨css, h1, fun i k cs hk hc => hE.keep (h2 i k cs hk hc) (fun j hj => hb.block j (hp j hj)) (fun _ h => h), ownsRow_below h3 hb⟩
theorem ElRow.heap (hE : E.Ok) (h : ElRow E w base p v l) (hb : ∀ k, v.ownBlock = some k → w'.heap[k]? = w.heap[k]?) (hp : ∀ k, p k → w'.heap[k]? = w.heap[k]?) : ElRow E w' base p v l := by
  obtain ⟨css, h1, h2, h3⟩ := h
  exact ⟨css, h1, fun i k cs hk hc => hE.keep (h2 i k cs hk hc) hp (fun _ h => h), ownsRow_heap h3 hb⟩
theorem ElRow.more (hE : E.Ok) (h : ElRow E w base p v l) (hp : ∀ k, p k → p' k) : ElRow E w base p' v l := by
  obtain ⟨css, h1, h2, h3⟩ := h
  exact ⟨css, h1, fun i k cs hk hc => hE.keep (h2 i k cs hk hc) (fun _ _ => rfl) hp, h3⟩
theorem ElRow.base_ {base' : Nat} (h : ElRow E w base p v l) (hb : base' ≤ base) : ElRow E w base' p v l := by
  obtain ⟨css, h1, h2, h3⟩ := h
  exact ⟨css, h1, h2, ownsRow_base h3 hb⟩
theorem ElRow.lt (h : ElRow E w base p v l) : ∀ k, v.ownBlock = some k → base ≤ k ∧ k < w.heap.size := by
  obtain ⟨css, _, _, h3⟩ := h; exact h3.lt
theorem ElRow.slice (h : ElRow E w base p v l) : ∃ A cap, v = .slice A l.length cap ∧ l.length ≤ cap := by
  obtain ⟨css, _, _, h⟩ := h
  rcases h.2 with ⟨hv, hn⟩ | ⟨g, cap, cur, hv, _, _, hc, _⟩
  · exact ⟨none, 0, by rw [hv, hn], by omega⟩
  · exact ⟨_, cap, hv, hc⟩
theorem ElRow.elsP (hE : E.Ok) (h : ElRow E w base p v l) (hp : ∀ k, p k → p' k) (hr : ∀ k, v.ownBlock = some k → p' k) : ElsP E w p' v l := by
  obtain ⟨css, hl, hin, h⟩ := h
  rcases h.2 with ⟨hv, hn⟩ | ⟨g, cap, cur, hv, hg, hh, hc, _⟩
  · have : l = [] := List.eq_nil_of_length_eq_zero hn
    subst this
    exact ⟨none, 0, hv, by simp, .inl rfl⟩
  · have hlen : ∀ cs ∈ css, cs.length = E.c := fun cs hcs => by
      obtain ⟨i, hi⟩ := List.getElem?_of_mem hcs
      have hik : i < l.length := by rw [← hl]; exact (List.getElem?_eq_some_iff.1 hi).1
      exact hE.len (hin i _ cs (List.getElem?_eq_getElem hik) hi)
    refine ⟨_, cap, hv, hc, .inr ⟨g, 0, rfl, hr g (by rw [hv]; rfl), fun i k hi => ?_⟩⟩
    have hik : i < css.length := by rw [hl]; exact (List.getElem?_eq_some_iff.1 hi).1
    refine ⟨css[i], hE.keep (hin i k _ hi (List.getElem?_eq_getElem hik)) (fun _ _ => rfl) hp, fun j u hu => ?_⟩
    have hj : j < E.c := by have := (List.getElem?_eq_some_iff.1 hu).1; rw [hlen _ (List.getElem_mem hik)] at this; exact this
    have hx := flat_at (c := E.c) (css := css) hlen (i := i) (j := j) (List.getElem?_eq_getElem hik) hj
    have := h.cells (g := g) (by rw [hv]; rfl) (i * E.c + j) u (by rw [hx]; exact hu)
    rw [add_zero_block] at this
    rw [show 0 + i * E.c + j = i * E.c + j by omega]
    exact this
/-- The block of a row that is not empty. -/
theorem ElRow.ptr {A : Option Addr} {n c : Nat} (h : ElRow E w base p (.slice A n c) l) (hne : 1 ≤ l.length) : ∃ g, A = some ⟨g, 0, none⟩ ∧ base ≤ g ∧ g < w.heap.size := by
  obtain ⟨css, _, _, hown⟩ := h
  rcases hown.2 with ⟨_, h0⟩ | ⟨g, cap, cur, hv, hg, hh, _⟩
  · omega
  · cases hv; exact ⟨g, rfl, hg, heap_lt hh⟩
theorem ElRow.free {g n c : Nat} (h : ElRow E w base p (.slice (some ⟨g, 0, none⟩) n c) l) (j : Nat) : w.frozen? ⟨g, j, none⟩ = false := by
  obtain ⟨css, _, _, hown⟩ := h
  rcases hown.2 with ⟨hv, h0⟩ | ⟨g', cap, cur, hv, hg, hh, _⟩
  · cases hv
  · cases hv; exact Lib.frozen_of_heap hh j
theorem ElRow.at_ (hE : E.Ok) {g n c : Nat} (h : ElRow E w base p (.slice (some ⟨g, 0, none⟩) n c) l) {i : Nat} (hi : i < l.length) : ∃ cs, E.El w p l[i] cs ∧ w.rangeAt g (i * E.c) cs := by
  obtain ⟨css, hl, hin, hown⟩ := h
  have hic : i < css.length := by omega
  have hlen : ∀ cs ∈ css, cs.length = E.c := fun cs hcs => by
    obtain ⟨i, hi⟩ := List.getElem?_of_mem hcs
    have hik : i < l.length := by rw [← hl]; exact (List.getElem?_eq_some_iff.1 hi).1
    exact hE.len (hin i _ cs (List.getElem?_eq_getElem hik) hi)
  refine ⟨css[i], hin i _ _ (List.getElem?_eq_getElem hi) (List.getElem?_eq_getElem hic), fun j u hu => ?_⟩
  have hj : j < E.c := by have := (List.getElem?_eq_some_iff.1 hu).1; rw [hlen _ (List.getElem_mem hic)] at this; exact this
  have := hown.cells (g := g) rfl (i * E.c + j) u (by rw [flat_at hlen (List.getElem?_eq_getElem hic) hj]; exact hu)
  rw [add_zero_block] at this
  exact this
/-- The cells of a slice, one behind the other. -/
theorem ElsP.css (hE : E.Ok) {ad : Addr} {n c : Nat} (h : ElsP E w p (.slice (some ad) n c) l) : ∃ css : List (List Value), css.length = l.length ∧ (∀ (i : Nat) a cs, l[i]? = some a → css[i]? = some cs → E.El w p a cs) ∧ ∀ j u, css.flatten[j]? = some u → w.cell? (ad.add j) = some u := by
  obtain ⟨A', cap', hv, hcl, h⟩ := h
  rcases h with h | ⟨b, off, hA, hlt, hr⟩
  · subst h; exact ⟨[], rfl, by simp, by simp⟩
  · cases hv
    cases hA
    clear hlt hcl
    have hadd : ∀ j, (⟨b, off, none⟩ : Addr).add j = ⟨b, off + j, none⟩ := fun j => by unfold Addr.add; split <;> simp_all
    simp only [hadd]
    clear hadd
    induction l generalizing off with
    | nil => exact ⟨[], rfl, by simp, by simp⟩
    | cons x l ih =>
      obtain ⟨cs, h1, h2⟩ := hr 0 x rfl
      obtain ⟨css, h3, h4, h5⟩ := ih (off + E.c) (fun i a hi => by
        obtain ⟨cs, q1, q2⟩ := hr (i + 1) a (by simpa using hi)
        exact ⟨cs, q1, by rw [show off + E.c + i * E.c = off + (i + 1) * E.c by rw [Nat.succ_mul]; omega]; exact q2⟩)
      refine ⟨cs :: css, by simp [h3], ?_, ?_⟩
      · intro i a c' ha hc
        cases i with
        | zero => simp at ha hc; subst ha hc; exact h1
        | succ i => exact h4 i a c' (by simpa using ha) (by simpa using hc)
      · intro j u hu
        have hl := hE.len h1
        rw [List.flatten_cons] at hu
        by_cases hj : j < E.c
        · rw [List.getElem?_append_left (by omega)] at hu
          have := h2 j u hu
          rw [show off + 0 * E.c + j = off + j by omega] at this
          exact this
        · rw [List.getElem?_append_right (by omega), hl] at hu
          have := h5 _ u hu
          rw [show off + E.c + (j - E.c) = off + j by omega] at this
          exact this
theorem el_flat (hE : E.Ok) {css : List (List Value)} (hl : css.length = l.length) (hin : ∀ (i : Nat) a cs, l[i]? = some a → css[i]? = some cs → E.El w p a cs) : css.flatten.length = l.length * E.c ∧ ∀ u ∈ css.flatten, u.oneCell' = true := by
  have hm : ∀ cs ∈ css, ∃ a, E.El w p a cs := fun cs hcs => by
    obtain ⟨i, hi⟩ := List.getElem?_of_mem hcs
    have hik : i < l.length := by rw [← hl]; exact (List.getElem?_eq_some_iff.1 hi).1
    exact ⟨_, hin i _ cs (List.getElem?_eq_getElem hik) hi⟩
  refine ⟨by rw [flat_len (c := E.c) (fun cs hcs => by obtain ⟨a, h⟩ := hm cs hcs; exact hE.len h), hl], fun u hu => ?_⟩
  obtain ⟨cs, hcs, hu⟩ := List.mem_flatten.1 hu
  obtain ⟨a, h⟩ := hm cs hcs
  exact hE.one h u hu
end

/-! Appending. -/
theorem el_grew {w w' : World} {v v' : Value} {o : Obj} (h2 : (w.alloc o).grownBy w' v.ownBlock) : Grew w v v' w' :=
  ⟨⟨h2.os, h2.tape, h2.output, by have := h2.size; simp at this; omega, fun j hj hne => (h2.block j (by simp; omega) hne).trans (Below.heap_alloc w _ j hj)⟩, by have := h2.size; simp at this; omega⟩
theorem el_append_row {α : Type} {E : Elt α} (hE : E.Ok) {w w' : World} {base : Nat} {p : Nat → Prop} {v' : Value} {l : List α} {css : List (List Value)} (hl : css.length = l.length) (hin : ∀ (i : Nat) a cs, l[i]? = some a → css[i]? = some cs → E.El w p a cs)
    {k : α} {cs : List Value} (hk : E.El w p k cs) (hkeep : ∀ j, p j → w'.heap[j]? = w.heap[j]?) (h1 : w'.ownsRow base E.T E.c v' (l.length + 1) (css.flatten ++ cs)) : ElRow E w' base p v' (l ++ [k]) := by
  refine ⟨css ++ [cs], by simp [hl], ?_, ?_⟩
  · intro i k' cs' hk' hcs'
    by_cases hi : i < l.length
    · rw [List.getElem?_append_left hi] at hk'
      rw [List.getElem?_append_left (by omega)] at hcs'
      exact hE.keep (hin i k' cs' hk' hcs') hkeep (fun _ h => h)
    · have hi2 : i = l.length := by
        have := (List.getElem?_eq_some_iff.1 hk').1
        simp at this; omega
      subst hi2
      rw [List.getElem?_append_right (Nat.le_refl _)] at hk'
      rw [List.getElem?_append_right (by omega), hl] at hcs'
      simp at hk' hcs'
      subst hk' hcs'
      exact hE.keep hk hkeep (fun _ h => h)
  · rw [List.flatten_append, List.length_append]
    simpa using h1
theorem els_append {α : Type} {E : Elt α} (hE : E.Ok) {ops : Array Oper} {rest : List Oper} {o : Oper} {a : Act} {Q : Exit → Act → World → Prop} (hgd : o.guard = none) (s x : Operand)
    (ho : o.op = .call { callee := .builtin .append, args := #[s, x], argTypes := #[E.TS, E.TS] })
    (w : World) (base : Nat) (p : Nat → Prop) (v : Value) (l : List α) (hs : a.eval s = v) (h : ElRow E w base p v l) (t : α) (cs : List Value) (H : Nat) (hH : w.heap.size = H) (hx : a.eval x = .slice (some ⟨H, 0, none⟩) 1 1) (ht : E.El w p t cs) (hB : ∀ j, p j → v.ownBlock ≠ some j) (hB2 : ∀ j, p j → j < w.heap.size) (hbase : base ≤ w.heap.size) (hlen : l.length < 10000000000)
    (hK : ∀ g cap w', (v.ownBlock = some g ∨ w.heap.size ≤ g) → g < w'.heap.size → ElRow E w' base p (.slice (some ⟨g, 0, none⟩) (l.length + 1) cap) (l ++ [t]) → Grew w v (.slice (some ⟨g, 0, none⟩) (l.length + 1) cap) w' → Below base w w' → wpList Tryd.prog ops Q rest (a.put o.dst (.slice (some ⟨g, 0, none⟩) (l.length + 1) cap)) w') :
    wpList Tryd.prog ops Q (o :: rest) a (w.alloc (.cells cs.toArray E.T)) := by
  subst hH
  obtain ⟨i0, hi0, hz0, hz1, hz2⟩ := info_parts hE.info
  obtain ⟨css, hl, hin, hown⟩ := h
  have hsm := hE.small
  have hby : (l.length + 1) * E.bytes ≤ 140737488355328 := Nat.le_trans (Nat.mul_le_mul_left _ hsm) (by omega)
  refine wpList_append_lies _ hgd s x E.TS ho base E.T i0 _ E.c E.bytes hE.list hi0 hz0 hz1 hz2 hE.zc hE.pos v l.length css.flatten hs (ownsRow_below hown ((Below.refl _ _).alloc (Nat.le_refl _) _)) ⟨w.heap.size, 0, none⟩ 1 1 cs hx (by rw [hE.len ht, Nat.one_mul]) ?_ (hE.one ht) (by omega) (by unfold maxLen; omega) hby (by simp; omega) _ rfl ?_
  · intro j u hu
    exact World.news_of_block (heap_alloc_new w (.cells cs.toArray E.T)) j u (by simpa using hu)
  · intro g cap w' h1 h2 hat hlt'
    have hlt := hown.lt
    have hbelow : Below base w w' := ((Below.refl _ _).alloc hbase _).trans (row_grown h2 (by simp; omega) (fun k hk => by have := hlt k hk; simp; omega))
    exact hK g cap w' (hat.imp id (fun e => by rw [e]; simp)) hlt' (el_append_row hE hl hin ht (fun j hj => (h2.block j (by simp; have := hB2 j hj; omega) (fun e => hB j hj e.symm)).trans (Below.heap_alloc w _ j (hB2 j hj))) h1) (el_grew h2) hbelow
theorem els_append_step {α : Type} {E : Elt α} (hE : E.Ok) {ops : Array Oper} {o : Oper} {a : Act} {K : Act → World → Prop} {Q : Exit → Act → World → Prop} {Z : Prop} (hgd : o.guard = none) (s x : Operand)
    (ho : o.op = .call { callee := .builtin .append, args := #[s, x], argTypes := #[E.TS, E.TS] })
    (w : World) (base : Nat) (p : Nat → Prop) (v : Value) (l : List α) (hs : a.eval s = v) (h : ElRow E w base p v l) (t : α) (cs : List Value) (H : Nat) (hH : w.heap.size = H) (hx : a.eval x = .slice (some ⟨H, 0, none⟩) 1 1) (ht : E.El w p t cs) (hB : ∀ j, p j → v.ownBlock ≠ some j) (hB2 : ∀ j, p j → j < w.heap.size) (hbase : base ≤ w.heap.size) (hlen : l.length < 10000000000)
    (hK : ∀ g cap w', (v.ownBlock = some g ∨ w.heap.size ≤ g) → g < w'.heap.size → ElRow E w' base p (.slice (some ⟨g, 0, none⟩) (l.length + 1) cap) (l ++ [t]) → Grew w v (.slice (some ⟨g, 0, none⟩) (l.length + 1) cap) w' → Below base w w' → K (a.put o.dst (.slice (some ⟨g, 0, none⟩) (l.length + 1) cap)) w') :
    if Region.wanted o (yielded ops a.tmps) = true then Oper.wp Tryd.prog o a (w.alloc (.cells cs.toArray E.T)) K Q else Z := by
  subst hH
  obtain ⟨i0, hi0, hz0, hz1, hz2⟩ := info_parts hE.info
  obtain ⟨css, hl, hin, hown⟩ := h
  have hsm := hE.small
  have hby : (l.length + 1) * E.bytes ≤ 140737488355328 := Nat.le_trans (Nat.mul_le_mul_left _ hsm) (by omega)
  refine step_append_lies _ hgd s x E.TS ho base E.T i0 _ E.c E.bytes hE.list hi0 hz0 hz1 hz2 hE.zc hE.pos v l.length css.flatten hs (ownsRow_below hown ((Below.refl _ _).alloc (Nat.le_refl _) _)) ⟨w.heap.size, 0, none⟩ 1 1 cs hx (by rw [hE.len ht, Nat.one_mul]) ?_ (hE.one ht) (by omega) (by unfold maxLen; omega) hby (by simp; omega) _ rfl ?_
  · intro j u hu
    exact World.news_of_block (heap_alloc_new w (.cells cs.toArray E.T)) j u (by simpa using hu)
  · intro g cap w' h1 h2 hat hlt'
    have hlt := hown.lt
    have hbelow : Below base w w' := ((Below.refl _ _).alloc hbase _).trans (row_grown h2 (by simp; omega) (fun k hk => by have := hlt k hk; simp; omega))
    exact hK g cap w' (hat.imp id (fun e => by rw [e]; simp)) hlt' (el_append_row hE hl hin ht (fun j hj => (h2.block j (by simp; have := hB2 j hj; omega) (fun e => hB j hj e.symm)).trans (Below.heap_alloc w _ j (hB2 j hj))) h1) (el_grew h2) hbelow

/-- Appending all elements of a slice. -/
theorem run_append_els {α : Type} {E : Elt α} (hE : E.Ok) (w : World) (ty : TypeId) (base : Nat) (p : Nat → Prop) (v : Value) (xs : List α) (hx : ElRow E w base p v xs) (A : Option Addr) (n c : Nat) (l : List α) (h : ElsP E w p (.slice A n c) l) (hbase : base ≤ w.heap.size) (hl : xs.length + l.length < 10000000000)
    (hB : ∀ j, p j → v.ownBlock ≠ some j) (hB2 : ∀ j, p j → j < w.heap.size) :
    ∃ v' w', (Builtin.append_ #[E.TS, E.TS] ty #[v, .slice A n c]).run Tryd.prog w = .ok v' w' ∧ ElRow E w' base p v' (xs ++ l) ∧ Grew w v v' w' ∧ Below base w w' ∧ (v'.ownBlock = v.ownBlock ∨ v'.ownBlock = some w.heap.size) := by
  obtain ⟨i0, hi0, hz0, hz1, hz2⟩ := info_parts hE.info
  have hnl : n = l.length := by obtain ⟨A', c', hv, _⟩ := h; cases hv; rfl
  subst hnl
  have hsm := hE.small
  have hby : (xs.length + l.length) * E.bytes ≤ 140737488355328 := Nat.le_trans (Nat.mul_le_mul_left _ hsm) (by omega)
  cases A with
  | none =>
    have hn : l = [] := by
      obtain ⟨A', c', hv, _, h⟩ := h
      rcases h with h | ⟨b, off, hA, _⟩
      · exact h
      · cases hv; cases hA
    subst hn
    refine ⟨v, w, ?_, by rw [List.append_nil]; exact hx, ⟨⟨rfl, rfl, rfl, Nat.le_refl _, fun _ _ _ => rfl⟩, Nat.le_refl _⟩, Below.refl _ _, .inl rfl⟩
    obtain ⟨css, _, _, hx⟩ := hx
    rcases hx.2 with ⟨rfl, hn⟩ | ⟨g, cap, cur, rfl, _, _, hnc, _⟩
    · simp [Builtin.append_, run_underlying hE.list, sizeOf, typeInfo, hi0, Builtin.lenOf, Builtin.firstCells]
    · simp [Builtin.append_, run_underlying hE.list, sizeOf, typeInfo, hi0, Builtin.lenOf, Builtin.firstCells, hnc, storeCells]
  | some ad =>
    obtain ⟨css, hl1, hin1, hown⟩ := hx
    obtain ⟨dss, hl2, hin2, hcells⟩ := h.css hE
    obtain ⟨v', w', h1, h2, h3, _, h5⟩ := run_append_own_at (P := Tryd.prog) w base E.TS ty E.T i0 _ E.c E.bytes hE.list hi0 hz0 hz1 hz2 hE.zc hE.pos v xs.length _ hown ad l.length c dss.flatten (el_flat hE hl2 hin2).1 hcells (el_flat hE hl2 hin2).2 (by unfold maxLen; omega) hby hbase
    have hkeep : ∀ j, p j → w'.heap[j]? = w.heap[j]? := fun j hj => h3.block j (hB2 j hj) (fun e => hB j hj e.symm)
    refine ⟨v', w', h1, ⟨css ++ dss, by simp [hl1, hl2], ?_, ?_⟩, ⟨h3, h3.size⟩, row_grown h3 hbase hown.lt, h5⟩
    · intro i a cs ha hc
      by_cases hi : i < xs.length
      · rw [List.getElem?_append_left hi] at ha
        rw [List.getElem?_append_left (by omega)] at hc
        exact hE.keep (hin1 i a cs ha hc) hkeep (fun _ h => h)
      · rw [List.getElem?_append_right (by omega)] at ha
        rw [List.getElem?_append_right (by omega), hl1] at hc
        exact hE.keep (hin2 _ a cs ha hc) hkeep (fun _ h => h)
    · rw [List.flatten_append, List.length_append]
      exact h2
theorem els_append_all {α : Type} {E : Elt α} (hE : E.Ok) {ops : Array Oper} {rest : List Oper} {o : Oper} {a : Act} {Q : Exit → Act → World → Prop} (hgd : o.guard = none) (d s : Operand)
    (ho : o.op = .call { callee := .builtin .append, args := #[d, s], argTypes := #[E.TS, E.TS] })
    (w : World) (base : Nat) (p : Nat → Prop) (v : Value) (xs : List α) (hd : a.eval d = v) (hx : ElRow E w base p v xs) (A : Option Addr) (n c : Nat) (l : List α) (hs : a.eval s = .slice A n c) (h : ElsP E w p (.slice A n c) l) (hbase : base ≤ w.heap.size) (hl : xs.length + l.length < 10000000000)
    (hB : ∀ j, p j → v.ownBlock ≠ some j) (hB2 : ∀ j, p j → j < w.heap.size)
    (hK : ∀ v' w', ElRow E w' base p v' (xs ++ l) → Grew w v v' w' → Below base w w' → (v'.ownBlock = v.ownBlock ∨ v'.ownBlock = some w.heap.size) → wpList Tryd.prog ops Q rest (a.put o.dst v') w') : wpList Tryd.prog ops Q (o :: rest) a w := by
  refine wpList_plain hgd fun K hK' => ?_
  obtain ⟨v', w', hrun, h1, h2, h3, h4⟩ := run_append_els hE w o.type base p v xs hx A n c l h hbase hl hB hB2
  unfold Oper.wp
  simp [execOp, ho, resolve, invoke, builtin, hd, hs, hrun, Result.andThen]
  exact hK' _ _ (hK v' w' h1 h2 h3 h4)
theorem ElRow.loose {α : Type} {E : Elt α} {w : World} {base : Nat} {p : Nat → Prop} {v : Value} {l : List α} {b : Nat} (h : ElRow E w base p v l) (hb : v.ownBlock = some b) : Loose w b := by
  obtain ⟨css, _, _, h3⟩ := h
  exact ownsRow_loose h3 hb
end Go.Proofs.YtooabnmmgmmklaaDoor
