/-
  Slices of strings in memory; copying and appending attributes out of a slice.
-/
import Derived.Test.YthilaolkkamedaaDoorRow
import Derived.Maps.AppendAt
set_option linter.unusedVariables false
namespace Go.Proofs.YthilaolkkamedaaDoor
open Go.RowKit

/-- The value v is a slice of strings that lies below block B. -/
def StrsIn (w : World) (B : Nat) (v : Value) (l : List Bytes) : Prop :=
  ∃ A cap, v = .slice A l.length cap ∧ l.length ≤ cap ∧ cap ≤ 9223372036854775807 ∧ (l = [] ∨ ∃ b off, A = some ⟨b, off, none⟩ ∧ b < B ∧ ∀ (i : Nat) s, l[i]? = some s → w.cell? ⟨b, off + i, none⟩ = some (.string (S s)))
section
variable {w w' : World} {B B' : Nat} {v : Value} {l : List Bytes}
theorem StrsIn.keep (h : StrsIn w B v l) (hb : ∀ k, k < B → w'.heap[k]? = w.heap[k]?) (hB : B ≤ B') : StrsIn w' B' v l := by
  obtain ⟨A, cap, hv, hc, hc2, h⟩ := h
  refine ⟨A, cap, hv, hc, hc2, h.imp id ?_⟩
  rintro ⟨b, off, hA, hlt, hr⟩
  exact ⟨b, off, hA, by omega, fun i s hi => (World.cell?_of_block (w := w) (a := ⟨b, off + i, none⟩) (hb b hlt)).trans (hr i s hi)⟩
theorem StrsIn.below (h : StrsIn w B v l) (hb : Below B w w') : StrsIn w' B v l := h.keep hb.block (Nat.le_refl _)
theorem StrsIn.nil (w : World) (B : Nat) : StrsIn w B (.slice none 0 0) [] := ⟨none, 0, rfl, Nat.le_refl _, by omega, .inl rfl⟩
theorem StrsIn.form (h : StrsIn w B v l) : ∃ A cap, v = .slice A l.length cap ∧ l.length ≤ cap := by
  obtain ⟨A, cap, hv, hc, _⟩ := h; exact ⟨A, cap, hv, hc⟩
/-- The first two and the rest. -/
theorem StrsIn.two {a b : Bytes} {r : List Bytes} (h : StrsIn w B v (a :: b :: r)) :
    ∃ x off cap, v = .slice (some ⟨x, off, none⟩) (r.length + 2) cap ∧ x < B ∧ r.length + 2 ≤ cap ∧ w.cell? ⟨x, off, none⟩ = some (.string (S a)) ∧ w.cell? ⟨x, off + 1, none⟩ = some (.string (S b)) ∧
      ∃ v', (∀ W : World, (Instr.slice 35 (.slice (some ⟨x, off, none⟩) (r.length + 2) cap) (some (.int .i64 2)) none none).run Tryd.prog W = .ok v' W) ∧ StrsIn w B v' r := by
  obtain ⟨A, cap, hv, hc, hc2, h⟩ := h
  rcases h with h | ⟨x, off, hA, hlt, hr⟩
  · cases h
  · subst hA
    refine ⟨x, off, cap, hv, hlt, by simpa using hc, hr 0 a rfl, hr 1 b rfl, ?_⟩
    simp only [List.length_cons] at hc
    have hadd : (⟨x, off, none⟩ : Addr).add 2 = ⟨x, off + 2, none⟩ := by unfold Addr.add; simp
    have hsz : (Tryd.prog.info? 9).map (·.size) = some 1 := by kernel_rfl
    by_cases hcap : cap = 2
    · have hr0 : r = [] := List.eq_nil_of_length_eq_zero (by omega)
      subst hr0 hcap
      refine ⟨.slice (some ⟨x, off, none⟩) 0 0, fun W => ?_, ⟨_, 0, rfl, Nat.le_refl _, by omega, .inl rfl⟩⟩
      cases hq : Tryd.prog.info? 9 with
      | none => simp [hq] at hsz
      | some i =>
        have hi : i.size = 1 := by simpa [hq] using hsz
        simp [Instr.slice, run_underlying Tryd.underlying35, go_sem, Instr.sliceBounds, sizeOf, typeInfo, hq]
    · refine ⟨.slice (some ⟨x, off + 2, none⟩) r.length (cap - 2), fun W => ?_, ⟨_, cap - 2, rfl, by omega, by omega, .inr ⟨x, off + 2, rfl, hlt, fun i s hi => ?_⟩⟩⟩
      · have h1 : (2 : Int) ≤ (r.length : Int) + 2 := by omega
        have h3 : ¬ (cap = 2) := hcap
        cases hq : Tryd.prog.info? 9 with
        | none => simp [hq] at hsz
        | some i =>
          have hi : i.size = 1 := by simpa [hq] using hsz
          simp [Instr.slice, run_underlying Tryd.underlying35, go_sem, Instr.sliceBounds, sizeOf, typeInfo, hq, hi, h3]
          intro h; omega
      · have := hr (i + 2) s (by simpa using hi)
        rw [show off + 2 + i = off + (i + 2) by omega]; exact this
end

/-! Cells of attributes. -/
theorem atts_cells {w : World} {B : Nat} {A : Option Addr} {cap : Nat} {ats : List Att} (h : AttsIn w B (.slice A ats.length cap) ats) {ad : Addr} (hA : A = some ad) :
    ∀ j u, (ats.map attCells).flatten[j]? = some u → w.cell? (ad.add j) = some u := by
  intro j u hj
  have hl : (ats.map attCells).flatten.length = ats.length * 4 := by rw [flat_len (c := 4) (by simp [attCells_len])]; simp
  have hlt : j < ats.length * 4 := by rw [← hl]; exact (List.getElem?_eq_some_iff.1 hj).1
  obtain ⟨b, off, hA', hb, hr⟩ := h.at_ (i := j / 4) (by omega)
  rw [hA] at hA'
  cases hA'
  have hadd : (⟨b, off, none⟩ : Addr).add j = ⟨b, off + j, none⟩ := by unfold Addr.add; split <;> simp_all
  rw [hadd, show off + j = off + j / 4 * 4 + j % 4 by omega]
  refine hr (j % 4) u ?_
  have := flat_at (c := 4) (css := ats.map attCells) (by simp [attCells_len]) (i := j / 4) (j := j % 4) (cs := attCells ats[j / 4]) (by simp [show j / 4 < ats.length by omega]) (by omega)
  rw [show j / 4 * 4 + j % 4 = j by omega] at this
  rw [← this, hj]
theorem flat_one (ats : List Att) : ∀ u ∈ (ats.map attCells).flatten, u.oneCell' = true := by
  intro u hu
  rw [List.mem_flatten] at hu
  obtain ⟨cs, hcs, hu⟩ := hu
  rw [List.mem_map] at hcs
  obtain ⟨a, _, rfl⟩ := hcs
  simp only [attCells, List.mem_cons, List.not_mem_nil, or_false] at hu
  rcases hu with rfl | rfl | rfl | rfl <;> rfl
theorem flat_atts_len (ats : List Att) : (ats.map attCells).flatten.length = ats.length * 4 := by rw [flat_len (c := 4) (by simp [attCells_len])]; simp

/-- Copying attributes into a new row. -/
theorem run_copy_atts (w : World) (ty : TypeId) (g cap : Nat) (A : Option Addr) (c : Nat) (ats : List Att) (B base : Nat) (h : AttsIn w B (.slice A ats.length c) ats) (cur : Array Value) (hg : w.heap[g]? = some (.cells cur 37 (0, 0))) (hcur : cur.size = cap * 4) (hcap : ats.length ≤ cap) (hm : cap ≤ maxLen) (hb : base ≤ g) :
    ∃ w', (Builtin.copy_ #[22, 22] ty #[.slice (some ⟨g, 0, none⟩) ats.length cap, .slice A ats.length c]).run Tryd.prog w = .ok (goInt ats.length) w' ∧ AttRow w' base (.slice (some ⟨g, 0, none⟩) ats.length cap) ats ∧ Upd g w w' := by
  obtain ⟨i0, hi0, hz0, hz1, hz2⟩ := info_parts infoAtt
  have hfl := flat_atts_len ats
  have hst := run_storeCells_at Tryd.prog g 0 37 (ats.map attCells).flatten 0 cur w hg (by rw [hfl, hcur]; omega) (flat_one ats)
  have hfc : (Builtin.firstCells 4 ats.length (.slice A ats.length c)).run Tryd.prog w = .ok (ats.map attCells).flatten.toArray w := by
    cases A with
    | none =>
      have : ats = [] := by
        obtain ⟨A', c', hv, _, h⟩ := h
        rcases h with h | ⟨b, off, hA, _⟩
        · exact h
        · cases hv; cases hA
      subst this
      rw [run_firstCells_none]; rfl
    | some ad => exact run_firstCells_some w 4 ats.length ad _ _ _ hfl (atts_cells h rfl)
  refine ⟨_, ?_, ?_, upd_setRow w g ((cur.toList.take (0 + 0) ++ (ats.map attCells).flatten ++ cur.toList.drop (0 + 0 + (ats.map attCells).flatten.length)).toArray)⟩
  · simp [Builtin.copy_, run_underlying Tryd.underlying22, Builtin.lenOf, sizeOf, typeInfo, hi0, hz1, hfc, hst]
  · refine ⟨by rw [hfl], .inr ⟨g, cap, _, rfl, hb, setRow_heap w g cur _ _ _ hg, hcap, hm, ?_, ?_⟩⟩
    · simp only [List.size_toArray, List.length_append, List.length_take, List.length_drop, hfl, Array.length_toList, hcur]; omega
    · simp only [Nat.zero_add, List.take_zero, List.nil_append]
      rw [← hfl, List.take_left]
theorem atts_copy {ops : Array Oper} {rest : List Oper} {o : Oper} {a : Act} {Q : Exit → Act → World → Prop} (hgd : o.guard = none) (d s : Operand)
    (ho : o.op = .call { callee := .builtin .copy, args := #[d, s], argTypes := #[22, 22] })
    (w : World) (g cap : Nat) (A : Option Addr) (c : Nat) (ats : List Att) (B base : Nat) (hd : a.eval d = .slice (some ⟨g, 0, none⟩) ats.length cap) (hs : a.eval s = .slice A ats.length c) (h : AttsIn w B (.slice A ats.length c) ats) (cur : Array Value) (hg : w.heap[g]? = some (.cells cur 37 (0, 0))) (hcur : cur.size = cap * 4) (hcap : ats.length ≤ cap) (hm : cap ≤ maxLen) (hb : base ≤ g)
    (hK : ∀ w', AttRow w' base (.slice (some ⟨g, 0, none⟩) ats.length cap) ats → Upd g w w' → wpList Tryd.prog ops Q rest (a.put o.dst (goInt ats.length)) w') : wpList Tryd.prog ops Q (o :: rest) a w := by
  refine wpList_plain hgd fun K hK' => ?_
  obtain ⟨w', hrun, h1, h2⟩ := run_copy_atts w o.type g cap A c ats B base h cur hg hcur hcap hm hb
  unfold Oper.wp
  simp [execOp, ho, resolve, invoke, builtin, hd, hs, hrun, Result.andThen]
  exact hK' _ _ (hK w' h1 h2)

/-- Appending all attributes of a slice. -/
theorem run_append_atts (w : World) (ty : TypeId) (base : Nat) (v : Value) (xs : List Att) (hx : AttRow w base v xs) (A : Option Addr) (c : Nat) (ats : List Att) (B : Nat) (h : AttsIn w B (.slice A ats.length c) ats) (hbase : base ≤ w.heap.size) (hl : xs.length + ats.length < 1000000000000) :
    ∃ v' w', (Builtin.append_ #[22, 22] ty #[v, .slice A ats.length c]).run Tryd.prog w = .ok v' w' ∧ AttRow w' base v' (xs ++ ats) ∧ Grew w v v' w' ∧ Below base w w' := by
  obtain ⟨i0, hi0, hz0, hz1, hz2⟩ := info_parts infoAtt
  cases A with
  | none =>
    have hn : ats = [] := by
      obtain ⟨A', c', hv, _, h⟩ := h
      rcases h with h | ⟨b, off, hA, _⟩
      · exact h
      · cases hv; cases hA
    subst hn
    refine ⟨v, w, ?_, by rw [List.append_nil]; exact hx, ⟨⟨rfl, rfl, rfl, Nat.le_refl _, fun _ _ _ => rfl⟩, Nat.le_refl _⟩, Below.refl _ _⟩
    rcases hx.2 with ⟨rfl, hn⟩ | ⟨g, cap, cur, rfl, _, _, hnc, _⟩
    · simp [Builtin.append_, run_underlying Tryd.underlying22, sizeOf, typeInfo, hi0, Builtin.lenOf, Builtin.firstCells]
    · simp [Builtin.append_, run_underlying Tryd.underlying22, sizeOf, typeInfo, hi0, Builtin.lenOf, Builtin.firstCells, hnc, storeCells]
  | some ad =>
    obtain ⟨v', w', h1, h2, h3, _, _⟩ := run_append_own_at (P := Tryd.prog) w base 22 ty 37 i0 _ 4 56 Tryd.underlying22 hi0 hz0 hz1 hz2 rfl (by omega) v xs.length _ hx ad ats.length c _ (flat_atts_len ats) (atts_cells h rfl) (flat_one ats) (by unfold maxLen; omega) (by omega) hbase
    refine ⟨v', w', h1, ?_, ⟨h3, h3.size⟩, row_grown h3 hbase hx.lt⟩
    unfold AttRow
    rw [List.map_append, List.flatten_append, List.length_append]
    exact h2
theorem atts_append_all2 {ops : Array Oper} {rest : List Oper} {o : Oper} {a : Act} {Q : Exit → Act → World → Prop} (hgd : o.guard = none) (d s : Operand)
    (ho : o.op = .call { callee := .builtin .append, args := #[d, s], argTypes := #[22, 22] })
    (w : World) (base : Nat) (v : Value) (xs : List Att) (hd : a.eval d = v) (hx : AttRow w base v xs) (A : Option Addr) (c : Nat) (ats : List Att) (B : Nat) (hs : a.eval s = .slice A ats.length c) (h : AttsIn w B (.slice A ats.length c) ats) (hbase : base ≤ w.heap.size) (hl : xs.length + ats.length < 1000000000000)
    (hK : ∀ v' w', AttRow w' base v' (xs ++ ats) → Grew w v v' w' → Below base w w' → wpList Tryd.prog ops Q rest (a.put o.dst v') w') : wpList Tryd.prog ops Q (o :: rest) a w := by
  refine wpList_plain hgd fun K hK' => ?_
  obtain ⟨v', w', hrun, h1, h2, h3⟩ := run_append_atts w o.type base v xs hx A c ats B h hbase hl
  unfold Oper.wp
  simp [execOp, ho, resolve, invoke, builtin, hd, hs, hrun, Result.andThen]
  exact hK' _ _ (hK v' w' h1 h2 h3)

/-- Attributes out of names and values. -/
def pairsOf : List Bytes → List Att
  | a :: b :: r => ⟨[], a, b, 0⟩ :: pairsOf r
  | _ => []
theorem pairsOf_short {l : List Bytes} (h : l.length ≤ 1) : pairsOf l = [] := by
  match l, h with
  | [], _ => rfl
  | [a], _ => rfl
theorem pairsOf_len : ∀ l : List Bytes, (pairsOf l).length = l.length / 2
  | [] => rfl
  | [a] => by simp [pairsOf]
  | a :: b :: r => by rw [pairsOf, List.length_cons, pairsOf_len r, List.length_cons, List.length_cons]; omega
end Go.Proofs.YthilaolkkamedaaDoor
