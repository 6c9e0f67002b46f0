/-
  Slices of tokens that a call builds itself (over a type of six cells, the reference's or the program's), and what they read as.
-/
import Derived.Test.YthbfahbjfioghaaGreatDoorRow
import Derived.Test.YthbfahbjfioghaaGreatDoorTok
set_option linter.unusedVariables false
namespace Go.Proofs.YthbfahbjfioghaaGreatDoor
open Go.RowKit

/-- What is asked of the type. -/
structure TokTy (T TS : TypeId) : Prop where
  info : (Tryz.prog.info? T).map (fun i => (i.zero, i.size, i.bytes)) = some (some (.agg #[.int .i64 0, .string ByteArray.empty, .slice none 0 0, .bool false, .string ByteArray.empty, .int .i64 0]), 6, 80)
  list : Tryz.prog.underlying TS = some (.slice T)
  row : ∃ d, Tryz.prog.underlying T = some d ∧ d.isRow = true

/-- The cells of a token; its attributes lie in blocks that satisfy p. -/
def TokP (w : World) (p : Nat → Prop) (t : Tok) (cs : List Value) : Prop :=
  ∃ va, cs = [.int .i64 t.kind, .string (S t.name), va, .bool t.empty, .string (S t.text), .int .i64 t.pos] ∧ AttsP w p va t.attrs
/-- Tokens one behind the other. -/
def ToksP (w : World) (p : Nat → Prop) (v : Value) (ts : List Tok) : Prop :=
  ∃ A cap, v = .slice A ts.length cap ∧ ts.length ≤ cap ∧ (ts = [] ∨ ∃ b, A = some ⟨b, 0, none⟩ ∧ p b ∧ ∀ (i : Nat) t, ts[i]? = some t → ∃ cs, TokP w p t cs ∧ w.rangeAt b (i * 6) cs)
/-- A slice of tokens that the call has built itself. -/
def TokRow (T : TypeId) (w : World) (base : Nat) (p : Nat → Prop) (v : Value) (ts : List Tok) : Prop :=
  ∃ css : List (List Value), css.length = ts.length ∧ (∀ (i : Nat) t cs, ts[i]? = some t → css[i]? = some cs → TokP w p t cs) ∧ w.ownsRow base T 6 v ts.length css.flatten

section
variable {w w' : World} {base B : Nat} {p p' : Nat → Prop} {v : Value} {T : TypeId}
theorem TokP.len {t : Tok} {cs : List Value} (h : TokP w p t cs) : cs.length = 6 := by
  obtain ⟨va, hcs, _⟩ := h; rw [hcs]; rfl
theorem TokP.one {t : Tok} {cs : List Value} (h : TokP w p t cs) : ∀ u ∈ cs, u.oneCell' = true := by
  obtain ⟨va, hcs, ⟨A, c, ha, _⟩⟩ := h
  subst hcs ha
  simp [Value.oneCell']
theorem TokP.keep {t : Tok} {cs : List Value} (h : TokP w p t cs) (hb : ∀ k, p k → w'.heap[k]? = w.heap[k]?) (hp : ∀ k, p k → p' k) : TokP w' p' t cs := by
  obtain ⟨va, hcs, ha⟩ := h
  exact ⟨va, hcs, ha.keep hb hp⟩
theorem TokP.open_ {t : Tok} {cs : List Value} (h : TokP w p t cs) : ∃ A c, cs = [.int .i64 t.kind, .string (S t.name), .slice A t.attrs.length c, .bool t.empty, .string (S t.text), .int .i64 t.pos] ∧ AttsP w p (.slice A t.attrs.length c) t.attrs ∧ t.attrs.length ≤ c := by
  obtain ⟨va, hcs, ha⟩ := h
  obtain ⟨A, c, rfl, hc⟩ := ha.slice
  exact ⟨A, c, hcs, ha, hc⟩
theorem ToksP.keep {ts : List Tok} (h : ToksP w p v ts) (hb : ∀ k, p k → w'.heap[k]? = w.heap[k]?) (hp : ∀ k, p k → p' k) : ToksP w' p' v ts := by
  obtain ⟨A, cap, hv, hc, h⟩ := h
  refine ⟨A, cap, hv, hc, h.imp id ?_⟩
  rintro ⟨b, hA, hpb, hr⟩
  refine ⟨b, hA, hp b hpb, fun i t hi => ?_⟩
  obtain ⟨cs, h1, h2⟩ := hr i t hi
  exact ⟨cs, h1.keep hb hp, rangeAt_keep h2 (hb b hpb)⟩
theorem ToksP.slice {ts : List Tok} (h : ToksP w p v ts) : ∃ A cap, v = .slice A ts.length cap ∧ ts.length ≤ cap := by
  obtain ⟨A, cap, hv, hc, _⟩ := h; exact ⟨A, cap, hv, hc⟩
theorem ToksP.nil (w : World) (p : Nat → Prop) : ToksP w p (.slice none 0 0) [] := ⟨none, 0, rfl, Nat.le_refl _, .inl rfl⟩
theorem ToksP.at_ {ts : List Tok} {A : Option Addr} {n cap i : Nat} (h : ToksP w p (.slice A n cap) ts) (hi : i < ts.length) :
    ∃ b cs, A = some ⟨b, 0, none⟩ ∧ p b ∧ w.rangeAt b (i * 6) cs ∧ TokP w p ts[i] cs := by
  obtain ⟨A', cap', hv, _, h⟩ := h
  cases hv
  rcases h with h | ⟨b, hA, hpb, hr⟩
  · subst h; simp at hi
  · obtain ⟨cs, h1, h2⟩ := hr i _ (List.getElem?_eq_getElem hi)
    exact ⟨b, cs, hA, hpb, h2, h1⟩
theorem TokRow.nil (T : TypeId) (w : World) (base : Nat) (p : Nat → Prop) : TokRow T w base p (.slice none 0 0) [] := ⟨[], rfl, by simp, World.ownsRow_nil w base _ _⟩
theorem TokRow.below {ts : List Tok} (h : TokRow T w base p v ts) (hb : Below w.heap.size w w') (hp : ∀ k, p k → k < w.heap.size) : TokRow T w' base p v ts := by
  obtain ⟨css, h1, h2, h3⟩ := h
  exact ⟨css, h1, fun i k cs hk hc => (h2 i k cs hk hc).keep (fun j hj => hb.block j (hp j hj)) (fun _ h => h), ownsRow_below h3 hb⟩
theorem TokRow.heap {ts : List Tok} (h : TokRow T w base p v ts) (hb : ∀ k, v.ownBlock = some k → w'.heap[k]? = w.heap[k]?) (hp : ∀ k, p k → w'.heap[k]? = w.heap[k]?) : TokRow T w' base p v ts := by
  obtain ⟨css, h1, h2, h3⟩ := h
  exact ⟨css, h1, fun i k cs hk hc => (h2 i k cs hk hc).keep hp (fun _ h => h), ownsRow_heap h3 hb⟩
theorem TokRow.more {ts : List Tok} (h : TokRow T w base p v ts) (hp : ∀ k, p k → p' k) : TokRow T w base p' v ts := by
  obtain ⟨css, h1, h2, h3⟩ := h
  exact ⟨css, h1, fun i k cs hk hc => (h2 i k cs hk hc).keep (fun _ _ => rfl) hp, h3⟩
theorem TokRow.lt {ts : List Tok} (h : TokRow T w base p v ts) : ∀ k, v.ownBlock = some k → base ≤ k ∧ k < w.heap.size := by
  obtain ⟨css, _, _, h3⟩ := h; exact h3.lt
theorem TokRow.slice {ts : List Tok} (h : TokRow T w base p v ts) : ∃ A cap, v = .slice A ts.length cap ∧ ts.length ≤ cap := by
  obtain ⟨css, _, _, h⟩ := h
  rcases h.2 with ⟨hv, hn⟩ | ⟨g, cap, cur, hv, _, _, hc, _⟩
  · exact ⟨none, 0, by rw [hv, hn], by omega⟩
  · exact ⟨_, cap, hv, hc⟩
theorem TokRow.toksP {ts : List Tok} (h : TokRow T w base p v ts) (hp : ∀ k, p k → p' k) (hr : ∀ k, v.ownBlock = some k → p' k) : ToksP w p' v ts := by
  obtain ⟨css, hl, hin, h⟩ := h
  rcases h.2 with ⟨hv, hn⟩ | ⟨g, cap, cur, hv, hg, hh, hc, _⟩
  · have : ts = [] := List.eq_nil_of_length_eq_zero hn
    subst this
    exact ⟨none, 0, hv, by simp, .inl rfl⟩
  · have hlen : ∀ cs ∈ css, cs.length = 6 := fun cs hcs => by
      obtain ⟨i, hi⟩ := List.getElem?_of_mem hcs
      have hik : i < ts.length := by rw [← hl]; exact (List.getElem?_eq_some_iff.1 hi).1
      exact (hin i _ cs (List.getElem?_eq_getElem hik) hi).len
    refine ⟨_, cap, hv, hc, .inr ⟨g, rfl, hr g (by rw [hv]; rfl), fun i k hi => ?_⟩⟩
    have hik : i < css.length := by rw [hl]; exact (List.getElem?_eq_some_iff.1 hi).1
    refine ⟨css[i], (hin i k _ hi (List.getElem?_eq_getElem hik)).keep (fun _ _ => rfl) hp, fun j u hu => ?_⟩
    have hj : j < 6 := by have := (List.getElem?_eq_some_iff.1 hu).1; rw [hlen _ (List.getElem_mem hik)] at this; exact this
    have hx := flat_at (c := 6) (css := css) hlen (i := i) (j := j) (List.getElem?_eq_getElem hik) hj
    have := h.cells (g := g) (by rw [hv]; rfl) (i * 6 + j) u (by rw [hx]; exact hu)
    rw [add_zero_block] at this
    exact this
end
/-- Appending a token. -/
theorem toks_append {T TS : TypeId} (hT : TokTy T TS) {ops : Array Oper} {rest : List Oper} {o : Oper} {a : Act} {Q : Exit → Act → World → Prop} (hgd : o.guard = none) (s x : Operand)
    (ho : o.op = .call { callee := .builtin .append, args := #[s, x], argTypes := #[TS, TS] })
    (w : World) (base : Nat) (p : Nat → Prop) (v : Value) (ts : List Tok) (hs : a.eval s = v) (h : TokRow T w base p v ts) (t : Tok) (cs : List Value) (H : Nat) (hH : w.heap.size = H) (hx : a.eval x = .slice (some ⟨H, 0, none⟩) 1 1) (ht : TokP w p t cs) (hB : ∀ j, p j → v.ownBlock ≠ some j) (hB2 : ∀ j, p j → j < w.heap.size) (hbase : base ≤ w.heap.size) (hlen : ts.length < 1000000000000)
    (hK : ∀ g cap w', (v.ownBlock = some g ∨ w.heap.size ≤ g) → g < w'.heap.size → TokRow T w' base p (.slice (some ⟨g, 0, none⟩) (ts.length + 1) cap) (ts ++ [t]) → Grew w v (.slice (some ⟨g, 0, none⟩) (ts.length + 1) cap) w' → Below base w w' → wpList Tryz.prog ops Q rest (a.put o.dst (.slice (some ⟨g, 0, none⟩) (ts.length + 1) cap)) w') :
    wpList Tryz.prog ops Q (o :: rest) a (w.alloc (.cells cs.toArray T)) := by
  subst hH
  obtain ⟨i0, hi0, hz0, hz1, hz2⟩ := info_parts hT.info
  obtain ⟨css, hl, hin, hown⟩ := h
  refine wpList_append_lies _ hgd s x TS ho base T i0 _ 6 80 hT.list hi0 hz0 hz1 hz2 rfl (by omega) v ts.length css.flatten hs (ownsRow_below hown ((Below.refl _ _).alloc (Nat.le_refl _) _)) ⟨w.heap.size, 0, none⟩ 1 1 cs hx (by rw [ht.len]) ?_ ht.one (by omega) (by unfold maxLen; omega) (by omega) (by simp; omega) _ rfl ?_
  · intro j u hu
    exact World.news_of_block (heap_alloc_new w (.cells cs.toArray T)) j u (by simpa using hu)
  · intro g cap w' h1 h2 hat hlt'
    have hlt := hown.lt
    have hgrew : Grew w v (.slice (some ⟨g, 0, none⟩) (ts.length + 1) cap) w' := ⟨⟨h2.os, h2.tape, h2.output, by have := h2.size; simp at this; omega, fun j hj hne => (h2.block j (by simp; omega) hne).trans (Below.heap_alloc w _ j hj)⟩, by have := h2.size; simp at this; omega⟩
    have hbelow : Below base w w' := ((Below.refl _ _).alloc hbase _).trans (row_grown h2 (by simp; omega) (fun k hk => by have := hlt k hk; simp; omega))
    have hkeep : ∀ (n : Tok) c, TokP w p n c → TokP w' p n c := fun n c hn => hn.keep (fun j hj => (h2.block j (by simp; have := hB2 j hj; omega) (fun e => hB j hj e.symm)).trans (Below.heap_alloc w _ j (hB2 j hj))) (fun _ h => h)
    refine hK g cap w' (hat.imp id (fun e => by rw [e]; simp)) hlt' ⟨css ++ [cs], by simp [hl], ?_, ?_⟩ hgrew hbelow
    · intro i k' cs' hk' hcs'
      by_cases hi : i < ts.length
      · rw [List.getElem?_append_left hi] at hk'
        rw [List.getElem?_append_left (by omega)] at hcs'
        exact hkeep _ _ (hin i k' cs' hk' hcs')
      · have hi2 : i = ts.length := by
          have := (List.getElem?_eq_some_iff.1 hk').1
          simp at this; omega
        subst hi2
        rw [List.getElem?_append_right (Nat.le_refl _)] at hk'
        rw [List.getElem?_append_right (by omega), hl] at hcs'
        simp at hk' hcs'
        subst hk' hcs'
        exact hkeep _ _ ht
    · rw [List.flatten_append, List.length_append]
      simpa using h1
theorem wp_load_tok {T TS : TypeId} (hT : TokTy T TS) {ops : Array Oper} {rest : List Oper} {o : Oper} {a : Act} {w : World} {Q : Exit → Act → World → Prop} (hgd : o.guard = none) (x : Operand) (ho : o.op = .load T x)
    (b off : Nat) (hx : a.eval x = .pointer (some ⟨b, off, none⟩)) (cs : List Value) (hl : cs.length = 6) (hr : w.rangeAt b off cs)
    (h : wpList Tryz.prog ops Q rest (a.put o.dst (.agg cs.toArray)) w) : wpList Tryz.prog ops Q (o :: rest) a w := by
  obtain ⟨d, hd, hrow⟩ := hT.row
  have hsz : (Tryz.prog.info? T).map (·.size) = some 6 := by
    have := hT.info
    cases hq : Tryz.prog.info? T with
    | none => simp [hq] at this
    | some i => simp [hq] at this ⊢; exact this.2.1
  exact wpList_load_mid hgd T x ho b off hx cs _ hr hd hrow (by rw [hl]; exact hsz) h
end Go.Proofs.YthbfahbjfioghaaGreatDoor
