/-
  Slices of attributes and of nodes that a call builds itself: appending, and what they read as.
-/
import Derived.Test.YthbfahbjfioghaaGreatDoorGen
import Derived.Test.YthbfahbjfioghaaGreatDoorLoad
import Derived.Test.YthbfahbjfioghaaGreatDoorFoot
import Derived.Deep.AppendLies
import Derived.Laws.OwnMore
import Derived.Laws.CopyRow
set_option linter.unusedVariables false
namespace Go.Proofs.YthbfahbjfioghaaGreatDoor
open Go.RowKit

theorem infoNode : (Tryz.prog.info? 46).map (fun i => (i.zero, i.size, i.bytes)) = some (some (.agg #[.int .i64 0, .string ByteArray.empty, .string ByteArray.empty, .slice none 0 0, .slice none 0 0, .string ByteArray.empty, .int .i64 0]), 7, 112) := by kernel_rfl
theorem infoAtt : (Tryz.prog.info? 42).map (fun i => (i.zero, i.size, i.bytes)) = some (some (.agg #[.string ByteArray.empty, .string ByteArray.empty, .string ByteArray.empty, .int .i64 0]), 4, 56) := by kernel_rfl

/-- A slice of attributes that the call has built itself, in a block of its own from 'base' on. -/
def AttRow (w : World) (base : Nat) (v : Value) (ats : List Att) : Prop := w.ownsRow base 42 4 v ats.length (ats.map attCells).flatten
/-- A slice of nodes that the call has built itself; what they hold lies in blocks that satisfy p. -/
def NodeRow (w : World) (base : Nat) (p : Nat → Prop) (v : Value) (ks : List Node) : Prop :=
  ∃ css : List (List Value), css.length = ks.length ∧ (∀ (i : Nat) k cs, ks[i]? = some k → css[i]? = some cs → NodeP w p k cs) ∧ w.ownsRow base 46 7 v ks.length css.flatten

section
variable {w w' : World} {base B : Nat} {p : Nat → Prop} {v : Value}
theorem attCells_len (a : Att) : (attCells a).length = 4 := rfl
theorem NodeP.len {n : Node} {cs : List Value} (h : NodeP w p n cs) : cs.length = 7 := by
  obtain ⟨va, vk, hcs, _⟩ := h.form; rw [hcs]; rfl
theorem NodeP.one {n : Node} {cs : List Value} (h : NodeP w p n cs) : ∀ u ∈ cs, u.oneCell' = true := by
  obtain ⟨va, vk, hcs, ⟨A, c, ha, _⟩, ⟨K, d, hk, _⟩⟩ := h.form
  subst hcs ha hk
  simp [Value.oneCell']
theorem AttRow.nil (w : World) (base : Nat) : AttRow w base (.slice none 0 0) [] := World.ownsRow_nil w base _ _
theorem NodeRow.nil (w : World) (base : Nat) (p : Nat → Prop) : NodeRow w base p (.slice none 0 0) [] := ⟨[], rfl, by simp, World.ownsRow_nil w base _ _⟩
theorem AttRow.below {ats : List Att} (h : AttRow w base v ats) (hb : Below w.heap.size w w') : AttRow w' base v ats := ownsRow_below h hb
theorem NodeRow.below {ks : List Node} (h : NodeRow w base p v ks) (hb : Below w.heap.size w w') (hp : ∀ k, p k → k < w.heap.size) : NodeRow w' base p v ks := by
  obtain ⟨css, h1, h2, h3⟩ := h
  exact ⟨css, h1, fun i k cs hk hc => NodeP.keep (fun j hj => hb.block j (hp j hj)) (fun _ h => h) k cs (h2 i k cs hk hc), ownsRow_below h3 hb⟩
theorem NodeRow.heap {ks : List Node} (h : NodeRow w base p v ks) (hb : ∀ k, v.ownBlock = some k → w'.heap[k]? = w.heap[k]?) (hp : ∀ k, p k → w'.heap[k]? = w.heap[k]?) : NodeRow w' base p v ks := by
  obtain ⟨css, h1, h2, h3⟩ := h
  exact ⟨css, h1, fun i k cs hk hc => NodeP.keep hp (fun _ h => h) k cs (h2 i k cs hk hc), ownsRow_heap h3 hb⟩
theorem NodeRow.more {p' : Nat → Prop} {ks : List Node} (h : NodeRow w base p v ks) (hp : ∀ k, p k → p' k) : NodeRow w base p' v ks := by
  obtain ⟨css, h1, h2, h3⟩ := h
  exact ⟨css, h1, fun i k cs hk hc => NodeP.keep (fun _ _ => rfl) hp k cs (h2 i k cs hk hc), h3⟩
theorem NodeRow.lt {ks : List Node} (h : NodeRow w base p v ks) : ∀ k, v.ownBlock = some k → base ≤ k ∧ k < w.heap.size := by
  obtain ⟨css, _, _, h3⟩ := h; exact h3.lt
theorem AttRow.lt {ats : List Att} (h : AttRow w base v ats) : ∀ k, v.ownBlock = some k → base ≤ k ∧ k < w.heap.size := World.ownsRow.lt h
theorem AttRow.slice {ats : List Att} (h : AttRow w base v ats) : ∃ A cap, v = .slice A ats.length cap ∧ ats.length ≤ cap := by
  rcases h.2 with ⟨hv, hn⟩ | ⟨g, cap, cur, hv, _, _, hc, _⟩
  · exact ⟨none, 0, by rw [hv, hn], by omega⟩
  · exact ⟨_, cap, hv, hc⟩
theorem NodeRow.slice {ks : List Node} (h : NodeRow w base p v ks) : ∃ A cap, v = .slice A ks.length cap ∧ ks.length ≤ cap := by
  obtain ⟨css, _, _, h⟩ := h
  rcases h.2 with ⟨hv, hn⟩ | ⟨g, cap, cur, hv, _, _, hc, _⟩
  · exact ⟨none, 0, by rw [hv, hn], by omega⟩
  · exact ⟨_, cap, hv, hc⟩
/-- What it reads as. -/
theorem AttRow.attsIn {ats : List Att} (h : AttRow w base v ats) : AttsIn w w.heap.size v ats := by
  rcases h.2 with ⟨hv, hn⟩ | ⟨g, cap, cur, hv, hg, hh, hc, _⟩
  · have : ats = [] := List.eq_nil_of_length_eq_zero hn
    subst this
    exact ⟨none, 0, hv, by simp, .inl rfl⟩
  · refine ⟨_, cap, hv, hc, .inr ⟨g, 0, rfl, heap_lt hh, fun i a hi j u hu => ?_⟩⟩
    have hj : j < 4 := by have := (List.getElem?_eq_some_iff.1 hu).1; rw [attCells_len] at this; exact this
    have hx := flat_at (c := 4) (css := ats.map attCells) (by simp [attCells_len]) (i := i) (j := j) (cs := attCells a) (by simp [hi]) hj
    have := h.cells (g := g) (by rw [hv]; rfl) (i * 4 + j) u (by rw [hx]; exact hu)
    rw [add_zero_block] at this
    rw [show 0 + i * 4 + j = i * 4 + j by omega]
    exact this
theorem NodeRow.nodesP {p' : Nat → Prop} {ks : List Node} (h : NodeRow w base p v ks) (hp : ∀ k, p k → p' k) (hr : ∀ k, v.ownBlock = some k → p' k) : NodesP w p' v ks := by
  obtain ⟨css, hl, hin, h⟩ := h
  rcases h.2 with ⟨hv, hn⟩ | ⟨g, cap, cur, hv, hg, hh, hc, _⟩
  · have : ks = [] := List.eq_nil_of_length_eq_zero hn
    subst this
    exact ⟨none, 0, hv, by simp, .inl rfl⟩
  · have hlen : ∀ cs ∈ css, cs.length = 7 := fun cs hcs => by
      obtain ⟨i, hi⟩ := List.getElem?_of_mem hcs
      have hik : i < ks.length := by rw [← hl]; exact (List.getElem?_eq_some_iff.1 hi).1
      exact (hin i _ cs (List.getElem?_eq_getElem hik) hi).len
    refine ⟨_, cap, hv, hc, .inr ⟨g, 0, rfl, hr g (by rw [hv]; rfl), KidsP.of_at fun i k hi => ?_⟩⟩
    have hik : i < css.length := by rw [hl]; exact (List.getElem?_eq_some_iff.1 hi).1
    refine ⟨css[i], NodeP.keep (fun _ _ => rfl) hp k _ (hin i k _ hi (List.getElem?_eq_getElem hik)), fun j u hu => ?_⟩
    have hj : j < 7 := by have := (List.getElem?_eq_some_iff.1 hu).1; rw [hlen _ (List.getElem_mem hik)] at this; exact this
    have hx := flat_at (c := 7) (css := css) hlen (i := i) (j := j) (List.getElem?_eq_getElem hik) hj
    have := h.cells (g := g) (by rw [hv]; rfl) (i * 7 + j) u (by rw [hx]; exact hu)
    rw [add_zero_block] at this
    rw [show 0 + i * 7 + j = i * 7 + j by omega]
    exact this
theorem NodeRow.nodesIn {ks : List Node} (h : NodeRow w base p v ks) (hp : ∀ k, p k → k < w.heap.size) : NodesIn w w.heap.size v ks :=
  (h.nodesP (p' := (· < w.heap.size)) hp (fun k hk => (h.lt k hk).2)).toIn (fun _ h => h)
end

/-! Appending one element, which lies in a block of its own. -/
theorem nodes_append_all {P' : (Value → World → Prop) → Prop} (w : World) (base : Nat) (p : Nat → Prop) (v : Value) (ks : List Node) (h : NodeRow w base p v ks) (k : Node) (cs : List Value) (hk : NodeP w p k cs) (hB : ∀ j, p j → j < base) (hbase : base ≤ w.heap.size) (hlen : ks.length < 1000000000000)
    (raw : ∀ (css : List (List Value)), css.length = ks.length → w.ownsRow base 46 7 v ks.length css.flatten → P' (fun v' w' => w'.ownsRow base 46 7 v' (ks.length + 1) (css.flatten ++ cs) ∧ (w.alloc (.cells cs.toArray 46)).grownBy w' v.ownBlock))
    (mono : ∀ {p q : Value → World → Prop}, (∀ v' w', p v' w' → q v' w') → P' p → P' q) : P' (fun v' w' => NodeRow w' base p v' (ks ++ [k]) ∧ Grew w v v' w' ∧ Below base w w') := by
  obtain ⟨css, hl, hin, hown⟩ := h
  refine mono ?_ (raw css hl hown)
  rintro v' w' ⟨h1, h2⟩
  have hlt := hown.lt
  have hbelow : Below base w w' := ((Below.refl _ _).alloc hbase _).trans (row_grown h2 (by simp; omega) (fun k hk => by have := hlt k hk; simp; omega))
  refine ⟨⟨css ++ [cs], by simp [hl], ?_, ?_⟩, ⟨⟨h2.os, h2.tape, h2.output, by have := h2.size; simp at this; omega, fun j hj hne => (h2.block j (by simp; omega) hne).trans (Below.heap_alloc w _ j hj)⟩, by have := h2.size; simp at this; omega⟩, hbelow⟩
  · intro i k' cs' hk' hcs'
    have hkeep : ∀ (n : Node) c, NodeP w p n c → NodeP w' p n c := fun n c hn => NodeP.keep (fun j hj => hbelow.block j (hB j hj)) (fun _ h => h) n c hn
    by_cases hi : i < ks.length
    · rw [List.getElem?_append_left hi] at hk'
      rw [List.getElem?_append_left (by omega)] at hcs'
      exact hkeep _ _ (hin i k' cs' hk' hcs')
    · have hi2 : i = ks.length := by
        have := (List.getElem?_eq_some_iff.1 hk').1
        simp at this; omega
      subst hi2
      rw [List.getElem?_append_right (Nat.le_refl _)] at hk'
      rw [List.getElem?_append_right (by omega), hl] at hcs'
      simp at hk' hcs'
      subst hk' hcs'
      exact hkeep _ _ hk
  · rw [List.flatten_append, List.length_append]
    simpa using h1
theorem nodes_append {ops : Array Oper} {rest : List Oper} {o : Oper} {a : Act} {Q : Exit → Act → World → Prop} (hgd : o.guard = none) (s x : Operand)
    (ho : o.op = .call { callee := .builtin .append, args := #[s, x], argTypes := #[44, 44] })
    (w : World) (base : Nat) (p : Nat → Prop) (v : Value) (ks : List Node) (hs : a.eval s = v) (h : NodeRow w base p v ks) (k : Node) (cs : List Value) (H : Nat) (hH : w.heap.size = H) (hx : a.eval x = .slice (some ⟨H, 0, none⟩) 1 1) (hk : NodeP w p k cs) (hB : ∀ j, p j → j < base) (hbase : base ≤ w.heap.size) (hlen : ks.length < 1000000000000)
    (hK : ∀ g cap w', NodeRow w' base p (.slice (some ⟨g, 0, none⟩) (ks.length + 1) cap) (ks ++ [k]) → Grew w v (.slice (some ⟨g, 0, none⟩) (ks.length + 1) cap) w' → Below base w w' → wpList Tryz.prog ops Q rest (a.put o.dst (.slice (some ⟨g, 0, none⟩) (ks.length + 1) cap)) w') :
    wpList Tryz.prog ops Q (o :: rest) a (w.alloc (.cells cs.toArray 46)) := by
  subst hH
  obtain ⟨i0, hi0, hz0, hz1, hz2⟩ := info_parts infoNode
  refine nodes_append_all (P' := fun p => (∀ g cap w', p (.slice (some ⟨g, 0, none⟩) (ks.length + 1) cap) w' → wpList Tryz.prog ops Q rest (a.put o.dst (.slice (some ⟨g, 0, none⟩) (ks.length + 1) cap)) w') → wpList Tryz.prog ops Q (o :: rest) a (w.alloc (.cells cs.toArray 46))) w base p v ks h k cs hk hB hbase hlen ?_ (fun hpq hp H => hp fun g cap w' h' => H g cap w' (hpq _ _ h')) (fun g cap w' h' => hK g cap w' h'.1 h'.2.1 h'.2.2)
  intro css hl hown H
  refine wpList_append_lies _ hgd s x 44 ho base 46 i0 _ 7 112 Tryz.underlying44 hi0 hz0 hz1 hz2 rfl (by omega) v ks.length css.flatten hs (ownsRow_below hown ((Below.refl _ _).alloc (Nat.le_refl _) _)) ⟨w.heap.size, 0, none⟩ 1 1 cs hx (by rw [hk.len]) ?_ hk.one (by omega) (by unfold maxLen; omega) (by omega) (by simp; omega) _ rfl ?_
  · intro j u hu
    exact World.news_of_block (heap_alloc_new w (.cells cs.toArray 46)) j u (by simpa using hu)
  · intro g cap w1 hown1 hgrow hat hlt
    exact H g cap w1 ⟨hown1, hgrow⟩
theorem nodes_append_step {ops : Array Oper} {o : Oper} {a : Act} {K : Act → World → Prop} {Q : Exit → Act → World → Prop} {E : Prop} (hgd : o.guard = none) (s x : Operand)
    (ho : o.op = .call { callee := .builtin .append, args := #[s, x], argTypes := #[44, 44] })
    (w : World) (base : Nat) (p : Nat → Prop) (v : Value) (ks : List Node) (hs : a.eval s = v) (h : NodeRow w base p v ks) (k : Node) (cs : List Value) (H : Nat) (hH : w.heap.size = H) (hx : a.eval x = .slice (some ⟨H, 0, none⟩) 1 1) (hk : NodeP w p k cs) (hB : ∀ j, p j → j < base) (hbase : base ≤ w.heap.size) (hlen : ks.length < 1000000000000)
    (hK : ∀ g cap w', NodeRow w' base p (.slice (some ⟨g, 0, none⟩) (ks.length + 1) cap) (ks ++ [k]) → Grew w v (.slice (some ⟨g, 0, none⟩) (ks.length + 1) cap) w' → Below base w w' → K (a.put o.dst (.slice (some ⟨g, 0, none⟩) (ks.length + 1) cap)) w') :
    if Region.wanted o (yielded ops a.tmps) = true then Oper.wp Tryz.prog o a ((w.alloc (.cells cs.toArray 46))) K Q else E := by
  subst hH
  obtain ⟨i0, hi0, hz0, hz1, hz2⟩ := info_parts infoNode
  refine nodes_append_all (P' := fun p => (∀ g cap w', p (.slice (some ⟨g, 0, none⟩) (ks.length + 1) cap) w' → K (a.put o.dst (.slice (some ⟨g, 0, none⟩) (ks.length + 1) cap)) w') → (if Region.wanted o (yielded ops a.tmps) = true then Oper.wp Tryz.prog o a (w.alloc (.cells cs.toArray 46)) K Q else E)) w base p v ks h k cs hk hB hbase hlen ?_ (fun hpq hp H => hp fun g cap w' h' => H g cap w' (hpq _ _ h')) (fun g cap w' h' => hK g cap w' h'.1 h'.2.1 h'.2.2)
  intro css hl hown H
  refine step_append_lies _ hgd s x 44 ho base 46 i0 _ 7 112 Tryz.underlying44 hi0 hz0 hz1 hz2 rfl (by omega) v ks.length css.flatten hs (ownsRow_below hown ((Below.refl _ _).alloc (Nat.le_refl _) _)) ⟨w.heap.size, 0, none⟩ 1 1 cs hx (by rw [hk.len]) ?_ hk.one (by omega) (by unfold maxLen; omega) (by omega) (by simp; omega) _ rfl ?_
  · intro j u hu
    exact World.news_of_block (heap_alloc_new w (.cells cs.toArray 46)) j u (by simpa using hu)
  · intro g cap w1 hown1 hgrow hat hlt
    exact H g cap w1 ⟨hown1, hgrow⟩
theorem atts_append_all {w w' : World} {base : Nat} {v v' : Value} {ats : List Att} (h : AttRow w base v ats) (b : Att) (hbase : base ≤ w.heap.size)
    (h1 : w'.ownsRow base 42 4 v' (ats.length + 1) ((ats.map attCells).flatten ++ attCells b)) (h2 : (w.alloc (.cells (attCells b).toArray 42)).grownBy w' v.ownBlock) : AttRow w' base v' (ats ++ [b]) ∧ Grew w v v' w' ∧ Below base w w' := by
  have hlt := h.lt
  have hbelow : Below base w w' := ((Below.refl _ _).alloc hbase _).trans (row_grown h2 (by simp; omega) (fun k hk => by have := hlt k hk; simp; omega))
  refine ⟨?_, ⟨⟨h2.os, h2.tape, h2.output, by have := h2.size; simp at this; omega, fun j hj hne => (h2.block j (by simp; omega) hne).trans (Below.heap_alloc w _ j hj)⟩, by have := h2.size; simp at this; omega⟩, hbelow⟩
  unfold AttRow
  rw [List.map_append, List.flatten_append, List.length_append]
  simpa using h1
theorem atts_append {ops : Array Oper} {rest : List Oper} {o : Oper} {a : Act} {Q : Exit → Act → World → Prop} (hgd : o.guard = none) (s x : Operand)
    (ho : o.op = .call { callee := .builtin .append, args := #[s, x], argTypes := #[32, 32] })
    (w : World) (base : Nat) (v : Value) (ats : List Att) (hs : a.eval s = v) (h : AttRow w base v ats) (b : Att) (H : Nat) (hH : w.heap.size = H) (hx : a.eval x = .slice (some ⟨H, 0, none⟩) 1 1) (hbase : base ≤ w.heap.size) (hlen : ats.length < 1000000000000)
    (hK : ∀ g cap w', AttRow w' base (.slice (some ⟨g, 0, none⟩) (ats.length + 1) cap) (ats ++ [b]) → Grew w v (.slice (some ⟨g, 0, none⟩) (ats.length + 1) cap) w' → Below base w w' → wpList Tryz.prog ops Q rest (a.put o.dst (.slice (some ⟨g, 0, none⟩) (ats.length + 1) cap)) w') :
    wpList Tryz.prog ops Q (o :: rest) a (w.alloc (.cells #[.string (S b.space), .string (S b.name), .string (S b.value), .int .i64 b.pos] 42)) := by
  subst hH
  obtain ⟨i0, hi0, hz0, hz1, hz2⟩ := info_parts infoAtt
  refine wpList_append_lies _ hgd s x 32 ho base 42 i0 _ 4 56 Tryz.underlying32 hi0 hz0 hz1 hz2 rfl (by omega) v ats.length _ hs (ownsRow_below h ((Below.refl _ _).alloc (Nat.le_refl _) _)) ⟨w.heap.size, 0, none⟩ 1 1 (attCells b) hx rfl ?_ (by simp [attCells, Value.oneCell']) (by omega) (by unfold maxLen; omega) (by omega) (by simp; omega) _ rfl ?_
  · intro j u hu
    exact World.news_of_block (heap_alloc_new w (.cells (attCells b).toArray 42)) j u (by simpa using hu)
  · intro g cap w1 hown1 hgrow hat hlt
    obtain ⟨r1, r2, r3⟩ := atts_append_all h b hbase hown1 hgrow
    exact hK g cap w1 r1 r2 r3
theorem atts_append_step {ops : Array Oper} {o : Oper} {a : Act} {K : Act → World → Prop} {Q : Exit → Act → World → Prop} {E : Prop} (hgd : o.guard = none) (s x : Operand)
    (ho : o.op = .call { callee := .builtin .append, args := #[s, x], argTypes := #[32, 32] })
    (w : World) (base : Nat) (v : Value) (ats : List Att) (hs : a.eval s = v) (h : AttRow w base v ats) (b : Att) (H : Nat) (hH : w.heap.size = H) (hx : a.eval x = .slice (some ⟨H, 0, none⟩) 1 1) (hbase : base ≤ w.heap.size) (hlen : ats.length < 1000000000000)
    (hK : ∀ g cap w', AttRow w' base (.slice (some ⟨g, 0, none⟩) (ats.length + 1) cap) (ats ++ [b]) → Grew w v (.slice (some ⟨g, 0, none⟩) (ats.length + 1) cap) w' → Below base w w' → K (a.put o.dst (.slice (some ⟨g, 0, none⟩) (ats.length + 1) cap)) w') :
    if Region.wanted o (yielded ops a.tmps) = true then Oper.wp Tryz.prog o a (w.alloc (.cells #[.string (S b.space), .string (S b.name), .string (S b.value), .int .i64 b.pos] 42)) K Q else E := by
  subst hH
  obtain ⟨i0, hi0, hz0, hz1, hz2⟩ := info_parts infoAtt
  refine step_append_lies _ hgd s x 32 ho base 42 i0 _ 4 56 Tryz.underlying32 hi0 hz0 hz1 hz2 rfl (by omega) v ats.length _ hs (ownsRow_below h ((Below.refl _ _).alloc (Nat.le_refl _) _)) ⟨w.heap.size, 0, none⟩ 1 1 (attCells b) hx rfl ?_ (by simp [attCells, Value.oneCell']) (by omega) (by unfold maxLen; omega) (by omega) (by simp; omega) _ rfl ?_
  · intro j u hu
    exact World.news_of_block (heap_alloc_new w (.cells (attCells b).toArray 42)) j u (by simpa using hu)
  · intro g cap w1 hown1 hgrow hat hlt
    obtain ⟨r1, r2, r3⟩ := atts_append_all h b hbase hown1 hgrow
    exact hK g cap w1 r1 r2 r3

/-! A struct stored whole into a block, and a result that lies in a block. -/
theorem wp_store_node {ops : Array Oper} {rest : List Oper} {o : Oper} {a : Act} {w : World} {Q : Exit → Act → World → Prop} (hgd : o.guard = none) (x y : Operand) (ho : o.op = .store 46 x y)
    (g : Nat) (cur : Array Value) (k p : Int) (s nm t : ByteArray) (A K : Option Addr) (n c m d : Nat) (hx : a.eval x = .pointer (some ⟨g, 0, none⟩)) (hy : a.eval y = .agg #[.int .i64 k, .string s, .string nm, .slice A n c, .slice K m d, .string t, .int .i64 p])
    (hg : w.heap[g]? = some (.cells cur 46 (0, 0))) (hs : cur.size = 7)
    (h : ∀ w', w'.heap[g]? = some (.cells #[.int .i64 k, .string s, .string nm, .slice A n c, .slice K m d, .string t, .int .i64 p] 46 (0, 0)) → Upd g w w' → wpList Tryz.prog ops Q rest (a.put o.dst undef) w') : wpList Tryz.prog ops Q (o :: rest) a w :=
  wp_store_whole hgd 46 x y ho g 46 cur _ hx hy hg (by rw [hs]; rfl) nodeSize (by simp [Value.oneCell']) h
end Go.Proofs.YthbfahbjfioghaaGreatDoor
