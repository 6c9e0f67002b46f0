/-
  Slices of nodes: appending all nodes of a row, appending one that lies in a block, as steps of a region; joining text to the last node.
-/
import Derived.Test.YtaghipnheomggaaDoorRow
import Derived.Maps.AppendAt
set_option linter.unusedVariables false
namespace Go.Proofs.YtaghipnheomggaaDoor
open Go.RowKit

/-- The cells of a row of nodes. -/
theorem NodeRow.open_ {w : World} {base : Nat} {p : Nat → Prop} {v : Value} {ks : List Node} (h : NodeRow w base p v ks) :
    ∃ css : List (List Value), css.length = ks.length ∧ (∀ cs ∈ css, cs.length = 7) ∧ (∀ u ∈ css.flatten, u.oneCell' = true) ∧ (∀ (i : Nat) k cs, ks[i]? = some k → css[i]? = some cs → NodeP w p k cs) ∧ w.ownsRow base 29 7 v ks.length css.flatten := by
  obtain ⟨css, hl, hin, hown⟩ := h
  have hat : ∀ cs ∈ css, ∃ k, NodeP w p k cs := fun cs hcs => by
    obtain ⟨i, hi⟩ := List.getElem?_of_mem hcs
    have hik : i < ks.length := by rw [← hl]; exact (List.getElem?_eq_some_iff.1 hi).1
    exact ⟨_, hin i _ cs (List.getElem?_eq_getElem hik) hi⟩
  refine ⟨css, hl, fun cs hcs => ?_, fun u hu => ?_, hin, hown⟩
  · obtain ⟨k, hk⟩ := hat cs hcs; exact hk.len
  · obtain ⟨cs, hcs, hu⟩ := List.mem_flatten.1 hu
    obtain ⟨k, hk⟩ := hat cs hcs
    exact hk.one u hu
theorem NodeRow.join {w : World} {base : Nat} {p : Nat → Prop} {v : Value} {xs ks : List Node} {cx ck : List (List Value)} (hx : cx.length = xs.length) (hk : ck.length = ks.length)
    (h1 : ∀ (i : Nat) k cs, xs[i]? = some k → cx[i]? = some cs → NodeP w p k cs) (h2 : ∀ (i : Nat) k cs, ks[i]? = some k → ck[i]? = some cs → NodeP w p k cs)
    (h : w.ownsRow base 29 7 v (xs.length + ks.length) (cx.flatten ++ ck.flatten)) : NodeRow w base p v (xs ++ ks) := by
  refine ⟨cx ++ ck, by simp [hx, hk], fun i k cs hi hc => ?_, by rw [List.flatten_append, List.length_append]; exact h⟩
  by_cases hlt : i < xs.length
  · rw [List.getElem?_append_left hlt] at hi
    rw [List.getElem?_append_left (by omega)] at hc
    exact h1 i k cs hi hc
  · rw [List.getElem?_append_right (by omega)] at hi
    rw [List.getElem?_append_right (by omega), hx] at hc
    exact h2 _ k cs hi hc
/-- Appending all nodes of a row to another. -/
theorem run_append_nodes (w : World) (ty : TypeId) (base : Nat) (p : Nat → Prop) (v : Value) (xs : List Node) (hx : NodeRow w base p v xs) (A : Option Addr) (c : Nat) (ks : List Node) (base' : Nat) (h : NodeRow w base' p (.slice A ks.length c) ks) (hpx : ∀ b, p b → v.ownBlock ≠ some b) (hpw : ∀ b, p b → b < w.heap.size) (hbase : base ≤ w.heap.size) (hl : xs.length + ks.length < 1000000000000) :
    ∃ v' w', (Builtin.append_ #[27, 27] ty #[v, .slice A ks.length c]).run Tryd.prog w = .ok v' w' ∧ NodeRow w' base p v' (xs ++ ks) ∧ Grew w v v' w' ∧ Below base w w' ∧ (v'.ownBlock = v.ownBlock ∨ v'.ownBlock = some w.heap.size) := by
  obtain ⟨i0, hi, hz0, hz1, hz2⟩ := info_parts infoNode
  obtain ⟨cx, hcx, _, _, hinx, hownx⟩ := hx.open_
  obtain ⟨ck, hck, hck7, hck1, hink, hownk⟩ := h.open_
  cases A with
  | none =>
    have hn : ks = [] := by
      rcases hownk.2 with ⟨_, h0⟩ | ⟨g, cap, cur, hv, _⟩
      · exact List.eq_nil_of_length_eq_zero h0
      · cases hv
    subst hn
    refine ⟨v, w, ?_, by rw [List.append_nil]; exact hx, ⟨⟨rfl, rfl, rfl, Nat.le_refl _, fun _ _ _ => rfl⟩, Nat.le_refl _⟩, Below.refl _ _, .inl rfl⟩
    rcases hownx.2 with ⟨rfl, hn⟩ | ⟨g, cap, cur, rfl, _, _, hnc, _⟩
    · simp [Builtin.append_, run_underlying Tryd.underlying27, sizeOf, typeInfo, hi, Builtin.lenOf, Builtin.firstCells]
    · simp [Builtin.append_, run_underlying Tryd.underlying27, sizeOf, typeInfo, hi, Builtin.lenOf, Builtin.firstCells, hnc, storeCells]
  | some ad =>
    obtain ⟨g, hg⟩ : ∃ g, ad = ⟨g, 0, none⟩ := by
      rcases hownk.2 with ⟨hv, _⟩ | ⟨g, cap, cur, hv, _⟩
      · cases hv
      · cases hv; exact ⟨g, rfl⟩
    subst hg
    have hcells : ∀ j u, ck.flatten[j]? = some u → w.cell? ((⟨g, 0, none⟩ : Addr).add j) = some u := fun j u hu => hownk.cells (g := g) rfl j u hu
    have hfl : ck.flatten.length = ks.length * 7 := by rw [flat_len (c := 7) hck7, hck]
    obtain ⟨v', w', h1, h2, h3, _, h5⟩ := run_append_own_at (P := Tryd.prog) w base 27 ty 29 i0 _ 7 112 Tryd.underlying27 hi hz0 hz1 hz2 rfl (by omega) v xs.length _ hownx ⟨g, 0, none⟩ ks.length c _ hfl hcells hck1 (by unfold maxLen; omega) (by omega) hbase
    have hkeep : ∀ (n : Node) cs, NodeP w p n cs → NodeP w' p n cs := fun n cs hn => NodeP.keep (fun j hj => h3.block j (hpw j hj) (fun e => hpx j hj e.symm)) (fun _ h => h) n cs hn
    refine ⟨v', w', h1, NodeRow.join hcx hck (fun i k cs a b => hkeep _ _ (hinx i k cs a b)) (fun i k cs a b => hkeep _ _ (hink i k cs a b)) h2, ⟨h3, h3.size⟩, row_grown h3 hbase hownx.lt, h5⟩
/-- The same as a step of a region. -/
theorem nodes_all_step {ops : Array Oper} {o : Oper} {a : Act} {K : Act → World → Prop} {Q : Exit → Act → World → Prop} {E : Prop} (hgd : o.guard = none) (s x : Operand)
    (ho : o.op = .call { callee := .builtin .append, args := #[s, x], argTypes := #[27, 27] })
    (w : World) (base : Nat) (p : Nat → Prop) (v : Value) (xs : List Node) (hs : a.eval s = v) (hx : NodeRow w base p v xs) (A : Option Addr) (c : Nat) (ks : List Node) (base' : Nat) (hxv : a.eval x = .slice A ks.length c) (h : NodeRow w base' p (.slice A ks.length c) ks) (hpx : ∀ b, p b → v.ownBlock ≠ some b) (hpw : ∀ b, p b → b < w.heap.size) (hbase : base ≤ w.heap.size) (hl : xs.length + ks.length < 1000000000000)
    (hK : ∀ v' w', NodeRow w' base p v' (xs ++ ks) → Grew w v v' w' → Below base w w' → (v'.ownBlock = v.ownBlock ∨ v'.ownBlock = some w.heap.size) → K (a.put o.dst v') w') :
    if Region.wanted o (yielded ops a.tmps) = true then Oper.wp Tryd.prog o a w K Q else E := by
  rw [if_pos (by simp [Region.wanted, hgd])]
  obtain ⟨v', w', hrun, h1, h2, h3, h4⟩ := run_append_nodes w o.type base p v xs hx A c ks base' h hpx hpw hbase hl
  unfold Oper.wp
  simp [execOp, ho, resolve, invoke, builtin, hs, hxv, hrun, Result.andThen]
  exact hK v' w' h1 h2 h3 h4
/-- Appending one node that lies in a block. -/
theorem nodes_one_step {ops : Array Oper} {o : Oper} {a : Act} {K : Act → World → Prop} {Q : Exit → Act → World → Prop} {E : Prop} (hgd : o.guard = none) (s x : Operand)
    (ho : o.op = .call { callee := .builtin .append, args := #[s, x], argTypes := #[27, 27] })
    (w : World) (base : Nat) (p : Nat → Prop) (v : Value) (ks : List Node) (hs : a.eval s = v) (h : NodeRow w base p v ks) (k : Node) (cs : List Value) (b : Nat) (hx : a.eval x = .slice (some ⟨b, 0, none⟩) 1 1) (hb : w.rangeAt b 0 cs) (hk : NodeP w p k cs) (hpx : ∀ b, p b → v.ownBlock ≠ some b) (hpw : ∀ b, p b → b < w.heap.size) (hbase : base ≤ w.heap.size) (hlen : ks.length < 1000000000000)
    (hK : ∀ g cap w', NodeRow w' base p (.slice (some ⟨g, 0, none⟩) (ks.length + 1) cap) (ks ++ [k]) → Grew w v (.slice (some ⟨g, 0, none⟩) (ks.length + 1) cap) w' → Below base w w' → (v.ownBlock = some g ∨ g = w.heap.size) → K (a.put o.dst (.slice (some ⟨g, 0, none⟩) (ks.length + 1) cap)) w') :
    if Region.wanted o (yielded ops a.tmps) = true then Oper.wp Tryd.prog o a w K Q else E := by
  obtain ⟨i0, hi0, hz0, hz1, hz2⟩ := info_parts infoNode
  obtain ⟨css, hl, hc7, hc1, hin, hown⟩ := h.open_
  refine step_append_lies _ hgd s x 27 ho base 29 i0 _ 7 112 Tryd.underlying27 hi0 hz0 hz1 hz2 rfl (by omega) v ks.length css.flatten hs hown ⟨b, 0, none⟩ 1 1 cs hx (by rw [hk.len]) ?_ hk.one (by omega) (by unfold maxLen; omega) (by omega) hbase _ rfl ?_
  · intro j u hu
    rw [add_zero_block]
    have := hb j u hu
    rw [Nat.zero_add] at this
    exact this
  · intro g cap w1 hown1 hgrow hat hlt
    have hkeep : ∀ (n : Node) cs, NodeP w p n cs → NodeP w1 p n cs := fun n cs hn => NodeP.keep (fun j hj => hgrow.block j (hpw j hj) (fun e => hpx j hj e.symm)) (fun _ h => h) n cs hn
    refine hK g cap w1 (NodeRow.join (ck := [cs]) hl rfl (fun i k cs a b => hkeep _ _ (hin i k cs a b)) ?_ (by simpa using hown1)) ⟨hgrow, hgrow.size⟩ (row_grown hgrow hbase hown.lt) hat
    intro i k' cs' hi hc
    cases i with
    | zero =>
      simp at hi hc
      subst hi hc
      exact hkeep _ _ hk
    | succ i => simp at hi
/-- A store into a row. -/
theorem own_set {w : World} {base : Nat} {e : TypeId} {size : Nat} {g n cap : Nat} {xs : List Value} (h : w.ownsRow base e size (.slice (some ⟨g, 0, none⟩) n cap) n xs) (j : Nat) (u : Value) : (w.setCell ⟨g, j, none⟩ u).ownsRow base e size (.slice (some ⟨g, 0, none⟩) n cap) n (xs.set j u) := by
  obtain ⟨h1, h2⟩ := h
  refine ⟨by rw [List.length_set]; exact h1, ?_⟩
  rcases h2 with ⟨hv, _⟩ | ⟨g', cap', cur, hv, hg, hh, hn, hm, hs, ht⟩
  · cases hv
  · cases hv
    refine .inr ⟨g, cap, cur.setIfInBounds j u, rfl, hg, ?_, hn, hm, by simpa using hs, ?_⟩
    · simp [World.setCell, Array.getElem?_modify, hh]
    · rw [Array.toList_setIfInBounds, List.take_set, ht]
/-- Text joins the text of the last node. -/
theorem NodeRow.joinText {w : World} {base : Nat} {p : Nat → Prop} {g cap : Nat} {xs : List Node} {k : Int} {s n t : Bytes} {ats : List Att} {kk : List Node} {q : Int} {N : Nat}
    (h : NodeRow w base p (.slice (some ⟨g, 0, none⟩) N cap) (xs ++ [.mk k s n ats kk t q])) (hN : N = xs.length + 1) (hp : ¬ p g) (u : Bytes) :
    NodeRow (w.setCell ⟨g, xs.length * 7 + 5, none⟩ (.string (S u))) base p (.slice (some ⟨g, 0, none⟩) N cap) (xs ++ [.mk k s n ats kk u q]) := by
  obtain ⟨css, hl, hc7, _, hin, hown⟩ := h.open_
  have hlx : css.length = xs.length + 1 := by simpa using hl
  obtain ⟨ci, cl, rfl⟩ : ∃ ci cl, css = ci ++ [cl] := by
    cases hcs : css.reverse with
    | nil => have h0 : css.length = 0 := by { have := congrArg List.length hcs; rwa [List.length_reverse] at this }; omega
    | cons a b => exact ⟨b.reverse, a, by have := congrArg List.reverse hcs; simpa using this⟩
  have hci : ci.length = xs.length := by simp at hlx; exact hlx
  have hfl : ci.flatten.length = xs.length * 7 := by rw [flat_len (c := 7) (fun cs h => hc7 cs (by simp [h])), hci]
  have hlast := hin xs.length (.mk k s n ats kk t q) cl (by simp) (by rw [List.getElem?_append_right (by omega), hci]; simp)
  have hkeep : ∀ (m : Node) cs, NodeP w p m cs → NodeP (w.setCell ⟨g, xs.length * 7 + 5, none⟩ (.string (S u))) p m cs := fun m cs hm =>
    NodeP.keep (fun j hj => Below.heap_setCell _ _ _ _ (fun e => hp (by simp at e; rw [← e]; exact hj))) (fun _ h => h) m cs hm
  obtain ⟨va, vk, hcl, ha, hk⟩ := hlast.form
  rw [show (xs ++ [Node.mk k s n ats kk t q]).length = N by simp [hN]] at hown
  have hset := own_set hown (xs.length * 7 + 5) (.string (S u))
  have hf2 : ((ci ++ [cl]).flatten).set (xs.length * 7 + 5) (.string (S u)) = (ci ++ [cl.set 5 (.string (S u))]).flatten := by
    rw [List.flatten_append, List.flatten_append, List.set_append_right _ _ (by omega), hfl, show xs.length * 7 + 5 - xs.length * 7 = 5 by omega]
    simp
  rw [hf2] at hset
  refine ⟨ci ++ [cl.set 5 (.string (S u))], by simp [hci], fun i m cs hi hc => ?_, by rw [show (xs ++ [Node.mk k s n ats kk u q]).length = N by simp [hN]]; exact hset⟩
  by_cases hlt : i < xs.length
  · rw [List.getElem?_append_left hlt] at hi
    rw [List.getElem?_append_left (by omega)] at hc
    exact hkeep _ _ (hin i m cs (by rw [List.getElem?_append_left hlt]; exact hi) (by rw [List.getElem?_append_left (by omega)]; exact hc))
  · rw [List.getElem?_append_right (by omega)] at hi
    rw [List.getElem?_append_right (by omega), hci] at hc
    cases hij : i - xs.length with
    | succ j => rw [hij] at hi; simp at hi
    | zero =>
      rw [hij] at hi hc
      simp at hi hc
      subst hi hc
      rw [hcl]
      have h3 := hkeep _ _ (NodeP.of_form (n := Node.mk k s n ats kk t q) ha hk)
      obtain ⟨va', vk', e3, ha3, hk3⟩ := h3.form
      simp only [List.cons.injEq] at e3
      obtain ⟨_, _, _, e4, e5, _⟩ := e3
      subst e4 e5
      exact NodeP.of_form (n := Node.mk k s n ats kk u q) ha3 hk3
end Go.Proofs.YtaghipnheomggaaDoor
