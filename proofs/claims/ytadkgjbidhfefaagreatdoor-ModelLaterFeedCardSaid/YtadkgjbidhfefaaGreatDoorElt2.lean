/-
  Storing a whole element into a row that the call has built itself.
-/
import Derived.Test.YtadkgjbidhfefaaGreatDoorElt
set_option linter.unusedVariables false
namespace Go.Proofs.YtadkgjbidhfefaaGreatDoor
open Go.RowKit

theorem flat_set {c : Nat} : ∀ {css : List (List Value)}, (∀ cs ∈ css, cs.length = c) → ∀ {i : Nat} (cs : List Value), i < css.length → (css.set i cs).flatten = css.flatten.take (i * c) ++ cs ++ css.flatten.drop (i * c + c)
  | [], _, i, cs, hi => by simp at hi
  | x :: css, h, 0, cs, hi => by
    have hx := h x (by simp)
    rw [List.set_cons_zero, List.flatten_cons, List.flatten_cons, Nat.zero_mul, List.take_zero, List.nil_append, Nat.zero_add, ← hx, List.drop_left]
  | x :: css, h, i + 1, cs, hi => by
    have hx := h x (by simp)
    have e1 : (x ++ css.flatten).take (i * c + c) = x ++ css.flatten.take (i * c) := by rw [show i * c + c = x.length + i * c by omega, List.take_length_add_append]
    have e2 : (x ++ css.flatten).drop (i * c + c + c) = css.flatten.drop (i * c + c) := by rw [show i * c + c + c = x.length + (i * c + c) by omega, List.drop_length_add_append]
    rw [List.set_cons_succ, List.flatten_cons, List.flatten_cons, flat_set (fun y hy => h y (by simp [hy])) cs (by simpa using hi), Nat.succ_mul, e1, e2]
    simp only [List.append_assoc]
theorem take_splice (A D cs : List Value) (s : Nat) (h : s + cs.length ≤ A.length) : (((A ++ D).take s ++ cs) ++ (A ++ D).drop (s + cs.length)).take A.length = A.take s ++ cs ++ A.drop (s + cs.length) := by
  rw [List.take_append_of_le_length (by omega : s ≤ A.length), List.drop_append_of_le_length h, ← List.append_assoc, List.take_append_of_le_length (by simp; omega), List.take_of_length_le (by simp; omega)]
/-- A whole element is stored. -/
theorem run_el_store {α : Type} {E : Elt α} (hE : E.Ok) {w : World} {base : Nat} {p : Nat → Prop} {g n cap : Nat} {l : List α} (h : ElRow E w base p (.slice (some ⟨g, 0, none⟩) n cap) l) {i : Nat} (hi : i < l.length) {a : α} {cs : List Value} (ha : E.El w p a cs) (hp : ∀ k, p k → k ≠ g) :
    ∃ w', (storeVar E.T ⟨g, i * E.c, none⟩ (.agg cs.toArray)).run Tryz.prog w = .ok () w' ∧ ElRow E w' base p (.slice (some ⟨g, 0, none⟩) n cap) (l.set i a) ∧ Upd g w w' ∧ w'.heap.size = w.heap.size := by
  obtain ⟨css, hl, hin, hown⟩ := h
  have hlen : ∀ cs ∈ css, cs.length = E.c := fun cs hcs => by
    obtain ⟨i, hi⟩ := List.getElem?_of_mem hcs
    have hik : i < l.length := by rw [← hl]; exact (List.getElem?_eq_some_iff.1 hi).1
    exact hE.len (hin i _ cs (List.getElem?_eq_getElem hik) hi)
  have hfl := flat_len hlen
  obtain ⟨hx, hown⟩ := hown
  rcases hown with ⟨hv, hn⟩ | ⟨g', cap', cur, hv, hg, hh, hc, hm, hcs, htk⟩
  · cases hv
  · have hgg : g = g' := by injection hv with e1; injection e1 with e1; injection e1
    have hnl : n = l.length := by injection hv
    have hcc : cap = cap' := by injection hv
    subst hgg hcc
    have hlc := hE.len ha
    have hle : i * E.c + E.c ≤ l.length * E.c := by rw [← Nat.succ_mul]; exact Nat.mul_le_mul_right _ hi
    have hle2 : l.length * E.c ≤ cap * E.c := Nat.mul_le_mul_right _ hc
    have hst := run_storeCells_at Tryz.prog g (i * E.c) E.T cs 0 cur w hh (by rw [hlc, hcs]; omega) (hE.one ha)
    obtain ⟨i0, hi0, hz0, hz1, hz2⟩ := info_parts hE.info
    have hsc : (storeVar E.T ⟨g, i * E.c, none⟩ (.agg cs.toArray)).run Tryz.prog w = .ok () (w.setRow g (cur.toList.take (i * E.c + 0) ++ cs ++ cur.toList.drop (i * E.c + 0 + cs.length)).toArray) := by
      have hs' : cs.length = i0.size := by rw [hlc, hz1]
      simp [storeVar, sizeOf, typeInfo, hi0, Value.cells, hs']
      rw [hs'] at hst
      simpa using hst
    refine ⟨_, hsc, ⟨css.set i cs, by simp [hl], ?_, ?_⟩, upd_setRow w g _, by simp [World.setRow]⟩
    · intro j b ds hb hd
      have hkeep : ∀ k, p k → (w.setRow g (cur.toList.take (i * E.c + 0) ++ cs ++ cur.toList.drop (i * E.c + 0 + cs.length)).toArray).heap[k]? = w.heap[k]? := fun k hk => setRow_other w g k _ (hp k hk)
      by_cases hj : i = j
      · subst hj
        rw [List.getElem?_set_self (by omega)] at hd
        rw [List.getElem?_set_self hi] at hb
        cases hb; cases hd
        exact hE.keep ha hkeep (fun _ h => h)
      · rw [List.getElem?_set_ne hj] at hb hd
        exact hE.keep (hin j b ds hb hd) hkeep (fun _ h => h)
    · rw [List.length_set]
      refine ⟨?_, .inr ⟨g, cap, _, by rw [hnl], hg, setRow_heap w g cur _ E.T (0, 0) hh, hc, hm, ?_, ?_⟩⟩
      · rw [flat_len (fun ds hd => ?_), List.length_set, hl]
        rcases List.mem_or_eq_of_mem_set hd with h | rfl
        · exact hlen ds h
        · exact hlc
      · simp only [List.size_toArray, List.length_append, List.length_take, List.length_drop, Array.length_toList, hcs, hlc]
        omega
      · have hcur : cur.toList = css.flatten ++ cur.toList.drop (l.length * E.c) := by rw [← htk, List.take_append_drop]
        rw [flat_set hlen cs (by omega)]
        simp only [Nat.add_zero, hlc]
        have hf : css.flatten.length = l.length * E.c := by rw [hfl, hl]
        rw [hcur, ← hf, ← hlc]
        exact take_splice _ _ cs _ (by rw [hlc, hf]; exact hle)
theorem step_el_store {α : Type} {E : Elt α} (hE : E.Ok) {ops : Array Oper} {o : Oper} {a : Act} {K : Act → World → Prop} {Q : Exit → Act → World → Prop} {Z : Prop} (hgd : o.guard = none) (x y : Operand) (ho : o.op = .store E.T x y)
    (w : World) (base : Nat) (p : Nat → Prop) (g n cap : Nat) (l : List α) (h : ElRow E w base p (.slice (some ⟨g, 0, none⟩) n cap) l) (i : Nat) (hi : i < l.length) (t : α) (cs : List Value) (ht : E.El w p t cs) (hp : ∀ k, p k → k ≠ g)
    (hx : a.eval x = .pointer (some ⟨g, i * E.c, none⟩)) (hy : a.eval y = .agg cs.toArray)
    (hK : ∀ w', ElRow E w' base p (.slice (some ⟨g, 0, none⟩) n cap) (l.set i t) → Upd g w w' → w'.heap.size = w.heap.size → K (a.put o.dst undef) w') :
    if Region.wanted o (yielded ops a.tmps) = true then Oper.wp Tryz.prog o a w K Q else Z := by
  have hw : Region.wanted o (yielded ops a.tmps) = true := by simp [Region.wanted, hgd]
  rw [if_pos hw]
  obtain ⟨w', hrun, h1, h2, h3⟩ := run_el_store hE h hi ht hp
  unfold Oper.wp execOp
  simp only [ho, hx, hy, Instr.storeAt, Instr.sureAddr, Sem.run_bind, Sem.run_pure, Result.andThen_ok, hrun]
  exact hK w' h1 h2 h3
end Go.Proofs.YtadkgjbidhfefaaGreatDoor
