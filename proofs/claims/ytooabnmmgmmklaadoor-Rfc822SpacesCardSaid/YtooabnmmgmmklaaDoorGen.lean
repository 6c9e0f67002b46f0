/-
  Blocks, rows and whole stores in memory, of no type in particular.
-/
import Derived.Test.YtooabnmmgmmklaaDoorMem
import Derived.Deep.MidRow
import Derived.Deep.AppendLies
import Derived.Laws.OwnMore
import Derived.Laws.CopyRow
set_option linter.unusedVariables false
namespace Go.Proofs.YtooabnmmgmmklaaDoor
open Go.RowKit

section
variable {w w' : World} {base B b off : Nat} {p : Nat → Prop} {v : Value}
theorem rangeAt_keep {cs : List Value} (h : w.rangeAt b off cs) (hk : w'.heap[b]? = w.heap[b]?) : w'.rangeAt b off cs :=
  fun j v hv => (World.cell?_of_block (w := w) (a := ⟨b, off + j, none⟩) hk).trans (h j v hv)
theorem ownsRow_below {e : TypeId} {size n : Nat} {xs : List Value} (h : w.ownsRow base e size v n xs) (hb : Below w.heap.size w w') : w'.ownsRow base e size v n xs := by
  obtain ⟨h1, h2⟩ := h
  refine ⟨h1, ?_⟩
  rcases h2 with h2 | ⟨g, cap, cur, hv, hg, hh, r⟩
  · exact .inl h2
  · exact .inr ⟨g, cap, cur, hv, hg, (hb.block g (heap_lt hh)).trans hh, r⟩
theorem ownsRow_heap {e : TypeId} {size n : Nat} {xs : List Value} (h : w.ownsRow base e size v n xs) (hb : ∀ k, v.ownBlock = some k → w'.heap[k]? = w.heap[k]?) : w'.ownsRow base e size v n xs := by
  obtain ⟨h1, h2⟩ := h
  refine ⟨h1, ?_⟩
  rcases h2 with h2 | ⟨g, cap, cur, hv, hg, hh, r⟩
  · exact .inl h2
  · exact .inr ⟨g, cap, cur, hv, hg, (hb g (by rw [hv]; rfl)).trans hh, r⟩
theorem ownsRow_base {e : TypeId} {size n : Nat} {xs : List Value} {base' : Nat} (h : w.ownsRow base e size v n xs) (hb : base' ≤ base) : w.ownsRow base' e size v n xs :=
  ⟨h.1, h.2.imp id fun ⟨g, cap, cur, hv, hg, r⟩ => ⟨g, cap, cur, hv, by omega, r⟩⟩
theorem row_lt {e : TypeId} {size n : Nat} {xs : List Value} (h : w.ownsRow base e size v n xs) : ∀ k, v.ownBlock = some k → base ≤ k ∧ k < w.heap.size := h.lt
end
/-- Reducibly applied, it succeeds only where the goal is one operation. -/
theorem gate {P : Program} {ops : Array Oper} {rest : List Oper} {o : Oper} {a : Act} {w : World} {Q : Exit → Act → World → Prop} (h : wpList P ops Q (o :: rest) a w) : wpList P ops Q (o :: rest) a w := h
theorem flat_at {c : Nat} : ∀ {css : List (List Value)}, (∀ cs ∈ css, cs.length = c) → ∀ {i j : Nat} {cs : List Value}, css[i]? = some cs → j < c → css.flatten[i * c + j]? = cs[j]?
  | [], _, i, j, cs, hi, _ => by simp at hi
  | x :: css, h, 0, j, cs, hi, hj => by
    simp only [List.getElem?_cons_zero, Option.some.injEq] at hi
    subst hi
    rw [List.flatten_cons, List.getElem?_append_left (by rw [h x (by simp)]; omega), Nat.zero_mul, Nat.zero_add]
  | x :: css, h, i + 1, j, cs, hi, hj => by
    have hx := h x (by simp)
    rw [List.flatten_cons, List.getElem?_append_right (by rw [hx, Nat.succ_mul]; omega), hx, show (i + 1) * c + j - c = i * c + j by rw [Nat.succ_mul]; omega]
    exact flat_at (fun y hy => h y (by simp [hy])) (by simpa using hi) hj
theorem flat_len {c : Nat} : ∀ {css : List (List Value)}, (∀ cs ∈ css, cs.length = c) → css.flatten.length = css.length * c
  | [], _ => by simp
  | x :: css, h => by
    rw [List.flatten_cons, List.length_append, flat_len (fun y hy => h y (by simp [hy])), h x (by simp), List.length_cons, Nat.succ_mul]; omega
theorem add_zero_block (g j : Nat) : (⟨g, 0, none⟩ : Addr).add j = ⟨g, j, none⟩ := by unfold Addr.add; split <;> simp_all
theorem row_grown {w w' : World} {base : Nat} {v : Value} (hg : w.grownBy w' v.ownBlock) (hb : base ≤ w.heap.size) (hl : ∀ k, v.ownBlock = some k → base ≤ k ∧ k < w.heap.size) : Below base w w' :=
  ⟨hg.os, hg.tape, hg.output, hg.size, fun k hk => hg.block k (by omega) (fun e => by have := (hl k e.symm).1; omega)⟩
/-- What an append leaves. -/
structure Grew (w : World) (v v' : Value) (w' : World) : Prop where
  grown : w.grownBy w' v.ownBlock
  lt : w.heap.size ≤ w'.heap.size
theorem Grew.heap {w w' : World} {v v' : Value} (h : Grew w v v' w') {k : Nat} {o : Obj} (hk : w.heap[k]? = some o) (hne : v.ownBlock ≠ some k) : w'.heap[k]? = some o :=
  (h.grown.block k (heap_lt hk) (fun e => hne e.symm)).trans hk
theorem run_store_whole {P : Program} (w : World) (g : Nat) (ty t : TypeId) (cur cells : Array Value) (hg : w.heap[g]? = some (.cells cur t (0, 0))) (hs : cur.size = cells.size) (hi : (P.info? ty).map (·.size) = some cells.size) (h1 : cells.all (·.oneCell') = true) :
    (storeVar ty ⟨g, 0, none⟩ (.agg cells)).run P w = .ok () (w.setRow g cells) := by
  have := run_storeCells_at P g 0 t cells.toList 0 cur w hg (by simp; omega) (fun v hv => (Array.all_eq_true_iff_forall_mem.1 h1) v (by simpa using hv))
  cases hq : P.info? ty with
  | none => simp [hq] at hi
  | some i =>
    have hs' : cells.size = i.size := by simp [hq] at hi; omega
    have he : (cur.toList.take (0 + 0) ++ cells.toList ++ cur.toList.drop (0 + 0 + cells.toList.length)).toArray = cells := by
      rw [List.drop_eq_nil_of_le (by simp; omega)]; simp
    rw [he] at this
    simp [storeVar, sizeOf, typeInfo, hq, Value.cells, hs', this]
theorem range_of_heap {w : World} {b : Nat} {cs : List Value} {t : TypeId} {fr : Nat × Nat} (h : w.heap[b]? = some (.cells cs.toArray t fr)) : w.rangeAt b 0 cs := fun j v hv => by
  rw [Nat.zero_add, Lib.cell_of_heap h]; simpa using hv
theorem cells7 {w : World} {b : Nat} {c0 c1 c2 c3 c4 c5 c6 : Value} {t : TypeId} {fr : Nat × Nat} (h : w.heap[b]? = some (.cells #[c0, c1, c2, c3, c4, c5, c6] t fr)) :
    w.cell? ⟨b, 0, none⟩ = some c0 ∧ w.cell? ⟨b, 1, none⟩ = some c1 ∧ w.cell? ⟨b, 2, none⟩ = some c2 ∧ w.cell? ⟨b, 3, none⟩ = some c3 ∧ w.cell? ⟨b, 4, none⟩ = some c4 ∧ w.cell? ⟨b, 5, none⟩ = some c5 ∧ w.cell? ⟨b, 6, none⟩ = some c6 := by
  refine ⟨?_, ?_, ?_, ?_, ?_, ?_, ?_⟩ <;> (rw [Lib.cell_of_heap h]; rfl)
theorem upd_setRow (w : World) (g : Nat) (cs : Array Value) : Upd g w (w.setRow g cs) := ⟨rfl, rfl, rfl, by simp [World.setRow], fun k _ hk => setRow_other w g k cs hk⟩
theorem wp_store_whole {ops : Array Oper} {rest : List Oper} {o : Oper} {a : Act} {w : World} {Q : Exit → Act → World → Prop} (hgd : o.guard = none) (ty : TypeId) (x y : Operand) (ho : o.op = .store ty x y)
    (g : Nat) (t : TypeId) (cur cells : Array Value) (hx : a.eval x = .pointer (some ⟨g, 0, none⟩)) (hy : a.eval y = .agg cells) (hg : w.heap[g]? = some (.cells cur t (0, 0))) (hs : cur.size = cells.size) (hi : (Tryd.prog.info? ty).map (·.size) = some cells.size) (h1 : cells.all (·.oneCell') = true)
    (h : ∀ w', w'.heap[g]? = some (.cells cells t (0, 0)) → Upd g w w' → wpList Tryd.prog ops Q rest (a.put o.dst undef) w') : wpList Tryd.prog ops Q (o :: rest) a w := by
  refine wpList_plain hgd fun K hK => ?_
  unfold Oper.wp execOp
  simp only [ho, hx, hy, Instr.storeAt, Instr.sureAddr, Sem.run_bind, Sem.run_pure, Result.andThen_ok, run_store_whole w g ty t cur cells hg hs hi h1]
  exact hK _ _ (h _ (setRow_heap w g cur cells t (0, 0) hg) (upd_setRow w g cells))
theorem res_whole {P : Program} {fn : Func} {p : Tmp} {ty : TypeId} (h : fn.results = #[.cell p ty]) (tmps : Array Value) (w : World) (g : Nat) (ht : tmps.getD p undef = .pointer (some ⟨g, 0, none⟩)) (t : TypeId) (cells : Array Value) (hg : w.heap[g]? = some (.cells cells t (0, 0)))
    {d : TypeDesc} (hu : P.underlying ty = some d) (hd : d.isRow = true) (hi : (P.info? ty).map (·.size) = some cells.size) : (results fn tmps).run P w = .ok (.agg cells) w := by
  have hc : w.rangeAt g 0 cells.toList := fun j v hv => by rw [Nat.zero_add, Lib.cell_of_heap hg]; simpa using hv
  have hl := run_loadVar_mid (P := P) w g 0 ty cells.toList d hc hu hd (by simpa using hi)
  rw [Array.toArray_toList] at hl
  have ht' : tmps[p]?.getD undef = .pointer (some ⟨g, 0, none⟩) := by simpa using ht
  simp only [results, h]
  simp [ht', asAddr, hl]
theorem alloc_at {W : World} {o : Obj} {h : Nat} (e : W.heap.size = h) : (W.alloc o).heap[h]? = some o := by subst e; exact heap_alloc_new W o
theorem alloc_old {W : World} {o x : Obj} {h : Nat} (e : W.heap[h]? = some x) : (W.alloc o).heap[h]? = some x := (Below.heap_alloc W o h (heap_lt e)).trans e
theorem cells2 {w : World} {b : Nat} {c0 c1 : Value} {t : TypeId} {fr : Nat × Nat} (h : w.heap[b]? = some (.cells #[c0, c1] t fr)) :
    w.cell? ⟨b, 0, none⟩ = some c0 ∧ w.cell? ⟨b, 1, none⟩ = some c1 := by
  refine ⟨?_, ?_⟩ <;> (rw [Lib.cell_of_heap h]; rfl)
theorem heap_set {W : World} {b i : Nat} {t : TypeId} {fr : Nat × Nat} {cur : Array Value} (h : W.heap[b]? = some (.cells cur t fr)) (v : Value) : (W.setCell ⟨b, i, none⟩ v).heap[b]? = some (.cells (cur.setIfInBounds i v) t fr) := by
  simp [World.setCell, Array.getElem?_modify, h]
theorem below_undrew' {B : Nat} {w w' : World} (h : Below B w.drew w') : Below B w w' := ⟨h.os, h.tape, h.output, h.size, h.block⟩
theorem res_cells2 {P : Program} {fn : Func} {p q : Tmp} {ty tz : TypeId} (h : fn.results = #[.cell p ty, .cell q tz]) (tmps : Array Value) (w : World) (g f : Nat) (ht : tmps.getD p undef = .pointer (some ⟨g, 0, none⟩)) (hf : tmps.getD q undef = .pointer (some ⟨f, 0, none⟩)) (t s : TypeId) (cells ds : Array Value) (hg : w.heap[g]? = some (.cells cells t (0, 0))) (hd : w.heap[f]? = some (.cells ds s (0, 0)))
    {d e : TypeDesc} (hu : P.underlying ty = some d) (hr : d.isRow = true) (hi : (P.info? ty).map (·.size) = some cells.size) (hv : P.underlying tz = some e) (hs : e.isRow = true) (hj : (P.info? tz).map (·.size) = some ds.size) : (results fn tmps).run P w = .ok (.tuple #[.agg cells, .agg ds]) w := by
  have hc : w.rangeAt g 0 cells.toList := fun j v hv => by rw [Nat.zero_add, Lib.cell_of_heap hg]; simpa using hv
  have hl := run_loadVar_mid (P := P) w g 0 ty cells.toList d hc hu hr (by simpa using hi)
  have hc2 : w.rangeAt f 0 ds.toList := fun j v hv => by rw [Nat.zero_add, Lib.cell_of_heap hd]; simpa using hv
  have hl2 := run_loadVar_mid (P := P) w f 0 tz ds.toList e hc2 hv hs (by simpa using hj)
  rw [Array.toArray_toList] at hl hl2
  have ht' : tmps[p]?.getD undef = .pointer (some ⟨g, 0, none⟩) := by simpa using ht
  have hf' : tmps[q]?.getD undef = .pointer (some ⟨f, 0, none⟩) := by simpa using hf
  simp only [results, h]
  simp [ht', hf', asAddr, hl, hl2]
/-- A block of one's own: it is not frozen. -/
def Loose (w : World) (b : Nat) : Prop := ∃ cur t, w.heap[b]? = some (.cells cur t (0, 0))
theorem Loose.keep {w w' : World} {b : Nat} (h : Loose w b) (hk : w'.heap[b]? = w.heap[b]?) : Loose w' b := by
  obtain ⟨cur, t, h⟩ := h
  exact ⟨cur, t, hk.trans h⟩
theorem ownsRow_loose {w : World} {base : Nat} {T : TypeId} {c : Nat} {v : Value} {n : Nat} {cs : List Value} {b : Nat} (h : w.ownsRow base T c v n cs) (hb : v.ownBlock = some b) : Loose w b := by
  rcases h.2 with ⟨hv, hn⟩ | ⟨g, cap, cur, hv, hg, hh, _⟩
  · rw [hv] at hb; cases hb
  · rw [hv] at hb
    cases hb
    exact ⟨cur, T, hh⟩
theorem two_heap {W : World} {f : Nat} {t : TypeId} {c0 c1 : Value} (h : W.heap[f]? = some (.cells #[c0, c1] t (0, 0))) (u0 u1 : Value) : ((W.setCell ⟨f, 0, none⟩ u0).setCell ⟨f, 1, none⟩ u1).heap[f]? = some (.cells #[u0, u1] t (0, 0)) := heap_set (i := 1) (heap_set (i := 0) h u0) u1
theorem two_other (W : World) {f k : Nat} (h : k ≠ f) (u0 u1 : Value) : ((W.setCell ⟨f, 0, none⟩ u0).setCell ⟨f, 1, none⟩ u1).heap[k]? = W.heap[k]? :=
  (Below.heap_setCell _ ⟨f, 1, none⟩ _ k h).trans (Below.heap_setCell _ ⟨f, 0, none⟩ _ k h)
end Go.Proofs.YtooabnmmgmmklaaDoor
