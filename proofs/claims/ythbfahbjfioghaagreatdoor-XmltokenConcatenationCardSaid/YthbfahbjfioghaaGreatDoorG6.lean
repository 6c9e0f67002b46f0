/-
  Several texts in one file, in build order:
  - Plain laws of tokens: where attributes stand; no offset is negative. No program.
  - Storing a whole element into a row that the call has built itself.
  - Storing one cell of an element of a row that the call has built itself; attributes as elements.
-/
import Derived.Test.YthbfahbjfioghaaGreatDoorG3
import Derived.Test.YthbfahbjfioghaaGreatDoorElt
import Derived.Test.YthbfahbjfioghaaGreatDoorRow
set_option linter.unusedVariables false
namespace Go.Proofs.YthbfahbjfioghaaGreatDoor

theorem tagF_atts {l : Bytes} {a : Nat} {P : Att → Prop} (hP : ∀ n b e, n ≤ l.length → attAt l a n = .ok (b, e) → P b) : ∀ (f n : Nat) (bs cs : List Att) (em : Bool) (e : Nat), n ≤ l.length → (∀ b ∈ bs, P b) → tagF l a f n bs = .ok (cs, em, e) → ∀ b ∈ cs, P b
  | 0, _, _, _, _, _, _, _, h => by cases h
  | f + 1, n, bs, cs, em, e, hn, hb, h => by
    rw [tagF] at h
    split at h
    · cases h; exact hb
    · split at h
      · cases h; exact hb
      · split at h
        · cases h
        · split at h
          · cases h
          · cases ha : attAt l a (spEnd l n) with
            | error q => rw [ha] at h; cases h
            | ok r =>
              obtain ⟨b, x⟩ := r
              rw [ha] at h
              simp only at h
              split at h
              · cases h
              · refine tagF_atts hP f x _ cs em e (attAt_ok (spEnd_le hn) ha).2.1 (fun c hc => ?_) h
                rcases List.mem_append.1 hc with h1 | h1
                · exact hb c h1
                · simp at h1; subst h1; exact hP _ _ _ (spEnd_le hn) ha
def PosIn (l : Bytes) (b : Att) : Prop := 0 ≤ b.pos ∧ b.pos ≤ l.length
theorem attAt_pos {l : Bytes} {a n : Nat} {b : Att} {e : Nat} (hn : n ≤ l.length) (h : attAt l a n = .ok (b, e)) : PosIn l b := by
  have := (attAt_ok hn h).2.2
  unfold PosIn
  rw [this]
  omega
theorem consAt_atts {l : Bytes} {a : Nat} {t : Tok} {e : Nat} (ha : a < l.length) (h : consAt l a = .ok (t, e)) : ∀ b ∈ t.attrs, PosIn l b := by
  have hsk : ∀ {k : Nat} {s : Bytes} {t : Tok} {e : Nat}, ((skipAt l a k s).map fun e => (zTok 3, e)) = .ok (t, e) → ∀ b ∈ t.attrs, PosIn l b := by
    intro k s t e h
    cases hs : skipAt l a k s with
    | error q => rw [hs] at h; cases h
    | ok x => rw [hs] at h; cases h; intro b hb; cases hb
  unfold consAt at h
  split at h
  · exact hsk h
  · split at h
    · exact hsk h
    · split at h
      · cases hs : skipAt l a 9 sCdEnd with
        | error q => rw [hs] at h; cases h
        | ok x => rw [hs] at h; cases h; intro b hb; cases hb
      · split at h
        · cases h
        · split at h
          · cases h
          · split at h
            · unfold endAt at h
              split at h
              · cases h
              · split at h
                · cases h; intro b hb; cases hb
                · cases h
            · split at h
              · unfold startAt at h
                split at h
                · cases h
                · rename_i h0
                  have hk := nameLen_le (l.drop (a + 1))
                  rw [List.length_drop] at hk
                  cases hs : tagS l a (a + 1 + nameLen (l.drop (a + 1))) [] with
                  | error q => rw [hs] at h; cases h
                  | ok r =>
                    obtain ⟨bs, em, x⟩ := r
                    rw [hs] at h
                    cases h
                    exact tagF_atts (fun n b e hn h => attAt_pos hn h) _ _ _ _ _ _ (by omega) (fun b hb => by cases hb) hs
              · cases hc : cont false l a (textEnd l a) with
                | error q => rw [hc] at h; cases h
                | ok x => rw [hc] at h; cases h; intro b hb; cases hb
theorem tokF_atts {l : Bytes} : ∀ (f n : Nat) (ts ls : List Tok), (∀ t ∈ ts, ∀ b ∈ t.attrs, PosIn l b) → tokF l f n ts = .ok ls → ∀ t ∈ ls, ∀ b ∈ t.attrs, PosIn l b
  | 0, _, _, _, _, h => by cases h
  | f + 1, n, ts, ls, ht, h => by
    rw [tokF] at h
    split at h
    · rename_i hlt
      cases hc : consAt l n with
      | error q => rw [hc] at h; cases h
      | ok r =>
        obtain ⟨t, e⟩ := r
        rw [hc] at h
        refine tokF_atts f e _ ls (fun u hu => ?_) h
        split at hu
        · rcases List.mem_append.1 hu with h1 | h1
          · exact ht u h1
          · simp at h1; subst h1; exact consAt_atts hlt hc
        · exact ht u hu
    · cases h; exact ht
theorem toks_atts (l : Bytes) : ∀ t ∈ (toks l).1, ∀ b ∈ t.attrs, PosIn l b := by
  unfold toks
  split
  · intro t ht; cases ht
  · cases hq : tokS l (if hasAt l 0 sBom = true then 3 else 0) [] with
    | error q => intro t ht; cases ht
    | ok ls => exact tokF_atts _ _ _ _ (fun t ht => by cases ht) hq
theorem OffOk.ge {n : Nat} {ts : List Tok} (h : OffOk n ts) : ∀ (i : Nat) (hi : i < ts.length), 0 ≤ ts[i].pos
  | 0, hi => by
    have := h.inc 0 hi
    simp [prevP] at this; omega
  | i + 1, hi => by
    have := h.inc (i + 1) hi
    have ih := OffOk.ge h i (by omega)
    have e : prevP ts (i + 1) = ts[i].pos := by simp [prevP, show i < ts.length by omega]
    rw [e] at this; omega
theorem OffOk.ge_mem {n : Nat} {ts : List Tok} (h : OffOk n ts) {t : Tok} (ht : t ∈ ts) : 0 ≤ t.pos ∧ t.pos < n := by
  obtain ⟨i, hi, rfl⟩ := List.getElem_of_mem ht
  exact ⟨h.ge i hi, h.lt _ ht⟩
/-- The first j attributes moved on. -/
def attsTo (n : Nat) (l : List Att) (j : Nat) : List Att := (l.take j).map (shA n) ++ l.drop j
theorem attsTo_len (n : Nat) (l : List Att) (j : Nat) : (attsTo n l j).length = l.length := by simp [attsTo]; omega
theorem attsTo_zero (n : Nat) (l : List Att) : attsTo n l 0 = l := by simp [attsTo]
theorem attsTo_all (n : Nat) (l : List Att) : attsTo n l l.length = l.map (shA n) := by simp [attsTo]
theorem attsTo_get {n : Nat} {l : List Att} {j : Nat} (h : j < l.length) : (attsTo n l j)[j]'(by rw [attsTo_len]; exact h) = l[j] := by
  unfold attsTo
  rw [List.getElem_append_right (by simp; omega)]
  simp [Nat.min_eq_left (Nat.le_of_lt h)]
theorem attsTo_next {n : Nat} {l : List Att} {j : Nat} (h : j < l.length) : attsTo n l (j + 1) = (attsTo n l j).set j (shA n l[j]) := by
  unfold attsTo
  rw [List.drop_eq_getElem_cons h, List.take_succ_eq_append_getElem h, List.set_append_right _ _ (by simp; omega)]
  have : j - ((l.take j).map (shA n)).length = 0 := by simp; omega
  rw [this, List.set_cons_zero, List.map_append, List.append_assoc]
  rfl
end Go.Proofs.YthbfahbjfioghaaGreatDoor
set_option linter.unusedVariables false
namespace Go.Proofs.YthbfahbjfioghaaGreatDoor
open Go.RowKit

theorem flat_set {c : Nat} : ∀ {css : List (List Value)}, (∀ cs ∈ css, cs.length = c) → ∀ {i : Nat} (cs : List Value), i < css.length → (css.set i cs).flatten = css.flatten.take (i * c) ++ cs ++ css.flatten.drop (i * c + c)
  | [], _, i, cs, hi => by simp at hi
  | x :: css, h, 0, cs, hi => by
    have hx := h x (by simp)
    rw [List.set_cons_zero, List.flatten_cons, List.flatten_cons, Nat.zero_mul, List.take_zero, List.nil_append, Nat.zero_add, ← hx, List.drop_left]
  | x :: css, h, i + 1, cs, hi => by
    have hx := h x (by simp)
    have e1 : (x ++ css.flatten).take (i * c + c) = x ++ css.flatten.take (i * c) := by rw [show i * c + c = x.length + i * c by omega, List.take_length_add_append]
    have e2 : (x ++ css.flatten).drop (i * c + c + c) = css.flatten.drop (i * c + c) := by rw [show i * c + c + c = x.length + (i * c + c) by omega, List.drop_length_add_append]
    rw [List.set_cons_succ, List.flatten_cons, List.flatten_cons, flat_set (fun y hy => h y (by simp [hy])) cs (by simpa using hi), Nat.succ_mul, e1, e2]
    simp only [List.append_assoc]
theorem take_splice (A D cs : List Value) (s : Nat) (h : s + cs.length ≤ A.length) : (((A ++ D).take s ++ cs) ++ (A ++ D).drop (s + cs.length)).take A.length = A.take s ++ cs ++ A.drop (s + cs.length) := by
  rw [List.take_append_of_le_length (by omega : s ≤ A.length), List.drop_append_of_le_length h, ← List.append_assoc, List.take_append_of_le_length (by simp; omega), List.take_of_length_le (by simp; omega)]
/-- A whole element is stored. -/
theorem run_el_store {α : Type} {E : Elt α} (hE : E.Ok) {w : World} {base : Nat} {p : Nat → Prop} {g n cap : Nat} {l : List α} (h : ElRow E w base p (.slice (some ⟨g, 0, none⟩) n cap) l) {i : Nat} (hi : i < l.length) {a : α} {cs : List Value} (ha : E.El w p a cs) (hp : ∀ k, p k → k ≠ g) :
    ∃ w', (storeVar E.T ⟨g, i * E.c, none⟩ (.agg cs.toArray)).run Tryz.prog w = .ok () w' ∧ ElRow E w' base p (.slice (some ⟨g, 0, none⟩) n cap) (l.set i a) ∧ Upd g w w' ∧ w'.heap.size = w.heap.size := by
  obtain ⟨css, hl, hin, hown⟩ := h
  have hlen : ∀ cs ∈ css, cs.length = E.c := fun cs hcs => by
    obtain ⟨i, hi⟩ := List.getElem?_of_mem hcs
    have hik : i < l.length := by rw [← hl]; exact (List.getElem?_eq_some_iff.1 hi).1
    exact hE.len (hin i _ cs (List.getElem?_eq_getElem hik) hi)
  have hfl := flat_len hlen
  obtain ⟨hx, hown⟩ := hown
  rcases hown with ⟨hv, hn⟩ | ⟨g', cap', cur, hv, hg, hh, hc, hm, hcs, htk⟩
  · cases hv
  · have hgg : g = g' := by injection hv with e1; injection e1 with e1; injection e1
    have hnl : n = l.length := by injection hv
    have hcc : cap = cap' := by injection hv
    subst hgg hcc
    have hlc := hE.len ha
    have hle : i * E.c + E.c ≤ l.length * E.c := by rw [← Nat.succ_mul]; exact Nat.mul_le_mul_right _ hi
    have hle2 : l.length * E.c ≤ cap * E.c := Nat.mul_le_mul_right _ hc
    have hst := run_storeCells_at Tryz.prog g (i * E.c) E.T cs 0 cur w hh (by rw [hlc, hcs]; omega) (hE.one ha)
    obtain ⟨i0, hi0, hz0, hz1, hz2⟩ := info_parts hE.info
    have hsc : (storeVar E.T ⟨g, i * E.c, none⟩ (.agg cs.toArray)).run Tryz.prog w = .ok () (w.setRow g (cur.toList.take (i * E.c + 0) ++ cs ++ cur.toList.drop (i * E.c + 0 + cs.length)).toArray) := by
      have hs' : cs.length = i0.size := by rw [hlc, hz1]
      simp [storeVar, sizeOf, typeInfo, hi0, Value.cells, hs']
      rw [hs'] at hst
      simpa using hst
    refine ⟨_, hsc, ⟨css.set i cs, by simp [hl], ?_, ?_⟩, upd_setRow w g _, by simp [World.setRow]⟩
    · intro j b ds hb hd
      have hkeep : ∀ k, p k → (w.setRow g (cur.toList.take (i * E.c + 0) ++ cs ++ cur.toList.drop (i * E.c + 0 + cs.length)).toArray).heap[k]? = w.heap[k]? := fun k hk => setRow_other w g k _ (hp k hk)
      by_cases hj : i = j
      · subst hj
        rw [List.getElem?_set_self (by omega)] at hd
        rw [List.getElem?_set_self hi] at hb
        cases hb; cases hd
        exact hE.keep ha hkeep (fun _ h => h)
      · rw [List.getElem?_set_ne hj] at hb hd
        exact hE.keep (hin j b ds hb hd) hkeep (fun _ h => h)
    · rw [List.length_set]
      refine ⟨?_, .inr ⟨g, cap, _, by rw [hnl], hg, setRow_heap w g cur _ E.T (0, 0) hh, hc, hm, ?_, ?_⟩⟩
      · rw [flat_len (fun ds hd => ?_), List.length_set, hl]
        rcases List.mem_or_eq_of_mem_set hd with h | rfl
        · exact hlen ds h
        · exact hlc
      · simp only [List.size_toArray, List.length_append, List.length_take, List.length_drop, Array.length_toList, hcs, hlc]
        omega
      · have hcur : cur.toList = css.flatten ++ cur.toList.drop (l.length * E.c) := by rw [← htk, List.take_append_drop]
        rw [flat_set hlen cs (by omega)]
        simp only [Nat.add_zero, hlc]
        have hf : css.flatten.length = l.length * E.c := by rw [hfl, hl]
        rw [hcur, ← hf, ← hlc]
        exact take_splice _ _ cs _ (by rw [hlc, hf]; exact hle)
theorem step_el_store {α : Type} {E : Elt α} (hE : E.Ok) {ops : Array Oper} {o : Oper} {a : Act} {K : Act → World → Prop} {Q : Exit → Act → World → Prop} {Z : Prop} (hgd : o.guard = none) (x y : Operand) (ho : o.op = .store E.T x y)
    (w : World) (base : Nat) (p : Nat → Prop) (g n cap : Nat) (l : List α) (h : ElRow E w base p (.slice (some ⟨g, 0, none⟩) n cap) l) (i : Nat) (hi : i < l.length) (t : α) (cs : List Value) (ht : E.El w p t cs) (hp : ∀ k, p k → k ≠ g)
    (hx : a.eval x = .pointer (some ⟨g, i * E.c, none⟩)) (hy : a.eval y = .agg cs.toArray)
    (hK : ∀ w', ElRow E w' base p (.slice (some ⟨g, 0, none⟩) n cap) (l.set i t) → Upd g w w' → w'.heap.size = w.heap.size → K (a.put o.dst undef) w') :
    if Region.wanted o (yielded ops a.tmps) = true then Oper.wp Tryz.prog o a w K Q else Z := by
  have hw : Region.wanted o (yielded ops a.tmps) = true := by simp [Region.wanted, hgd]
  rw [if_pos hw]
  obtain ⟨w', hrun, h1, h2, h3⟩ := run_el_store hE h hi ht hp
  unfold Oper.wp execOp
  simp only [ho, hx, hy, Instr.storeAt, Instr.sureAddr, Sem.run_bind, Sem.run_pure, Result.andThen_ok, hrun]
  exact hK w' h1 h2 h3
end Go.Proofs.YthbfahbjfioghaaGreatDoor
set_option linter.unusedVariables false
namespace Go.Proofs.YthbfahbjfioghaaGreatDoor
open Go.RowKit

theorem flat_set_cell {c : Nat} (u : Value) : ∀ {css : List (List Value)}, (∀ cs ∈ css, cs.length = c) → ∀ {i j : Nat} (hi : i < css.length), j < c → (css.set i ((css[i]'hi).set j u)).flatten = css.flatten.set (i * c + j) u
  | [], _, i, j, hi, _ => by simp at hi
  | x :: css, h, 0, j, hi, hj => by
    have hx := h x (by simp)
    rw [List.set_cons_zero, List.flatten_cons, List.flatten_cons, Nat.zero_mul, Nat.zero_add, List.set_append_left _ _ (by omega)]
    rfl
  | x :: css, h, i + 1, j, hi, hj => by
    have hx := h x (by simp)
    have e : (i + 1) * c + j - x.length = i * c + j := by rw [Nat.succ_mul]; omega
    rw [List.set_cons_succ, List.flatten_cons, List.flatten_cons, List.set_append_right _ _ (by rw [Nat.succ_mul]; omega), e, ← flat_set_cell u (fun y hy => h y (by simp [hy])) (by simpa using hi) hj]
    rfl
/-- One cell of an element is stored. -/
theorem ElRow.setCell {α : Type} {E : Elt α} (hE : E.Ok) {w : World} {base : Nat} {p : Nat → Prop} {g n cap : Nat} {l : List α} (h : ElRow E w base p (.slice (some ⟨g, 0, none⟩) n cap) l) {i j : Nat} (hi : i < l.length) (hj : j < E.c) {u : Value} {a : α}
    (ha : ∀ cs, E.El w p l[i] cs → E.El w p a (cs.set j u)) (hp : ∀ k, p k → k ≠ g) :
    ElRow E (w.setCell ⟨g, i * E.c + j, none⟩ u) base p (.slice (some ⟨g, 0, none⟩) n cap) (l.set i a) := by
  obtain ⟨css, hl, hin, hown⟩ := h
  have hlen : ∀ cs ∈ css, cs.length = E.c := fun cs hcs => by
    obtain ⟨i, hi⟩ := List.getElem?_of_mem hcs
    have hik : i < l.length := by rw [← hl]; exact (List.getElem?_eq_some_iff.1 hi).1
    exact hE.len (hin i _ cs (List.getElem?_eq_getElem hik) hi)
  obtain ⟨hx, hown⟩ := hown
  rcases hown with ⟨hv, hn⟩ | ⟨g', cap', cur, hv, hg, hh, hc, hm, hcs, htk⟩
  · cases hv
  · have hgg : g = g' := by injection hv with e1; injection e1 with e1; injection e1
    have hnl : n = l.length := by injection hv
    have hcc : cap = cap' := by injection hv
    subst hgg hcc
    have hkeep : ∀ k, p k → (w.setCell ⟨g, i * E.c + j, none⟩ u).heap[k]? = w.heap[k]? := fun k hk => Below.heap_setCell _ _ _ _ (by simpa using hp k hk)
    refine ⟨css.set i ((css[i]'(by omega)).set j u), by simp [hl], ?_, ?_⟩
    · intro q b ds hb hd
      by_cases hq : i = q
      · subst hq
        rw [List.getElem?_set_self (by omega)] at hd
        rw [List.getElem?_set_self hi] at hb
        cases hb; cases hd
        exact hE.keep (ha _ (hin i _ _ (List.getElem?_eq_getElem hi) (List.getElem?_eq_getElem (by omega)))) hkeep (fun _ h => h)
      · rw [List.getElem?_set_ne hq] at hb hd
        exact hE.keep (hin q b ds hb hd) hkeep (fun _ h => h)
    · rw [List.length_set, flat_set_cell u hlen (by omega) hj]
      refine ⟨by rw [List.length_set]; exact hx, .inr ⟨g, cap, _, by rw [hnl], by simpa using hg, heap_set hh u, hc, hm, by simpa using hcs, ?_⟩⟩
      rw [Array.toList_setIfInBounds, List.take_set, htk]
/-- Attributes as elements. -/
def attE : Elt Att where
  T := 42
  TS := 32
  c := 4
  bytes := 56
  zero := .agg #[.string ByteArray.empty, .string ByteArray.empty, .string ByteArray.empty, .int .i64 0]
  El := fun _ _ a cs => cs = attCells a
theorem attE_ok : attE.Ok where
  info := infoAtt
  list := by kernel_rfl
  zc := rfl
  pos := by decide
  small := by decide
  keep := fun h _ _ => h
  len := fun {w p a cs} h => by rw [show cs = attCells a from h]; rfl
  one := fun {w p a cs} h => by
    intro u hu
    rw [show cs = attCells a from h] at hu
    simp [attCells] at hu
    rcases hu with rfl | rfl | rfl | rfl <;> rfl
theorem attE_elsP {w : World} {p : Nat → Prop} {v : Value} {l : List Att} : ElsP attE w p v l ↔ AttsP w p v l := by
  constructor
  · rintro ⟨A, cap, hv, hc, h⟩
    refine ⟨A, cap, hv, hc, h.imp id ?_⟩
    rintro ⟨b, off, hA, hb, hr⟩
    refine ⟨b, off, hA, hb, fun i a hi => ?_⟩
    obtain ⟨cs, rfl, h2⟩ := hr i a hi
    exact h2
  · rintro ⟨A, cap, hv, hc, h⟩
    refine ⟨A, cap, hv, hc, h.imp id ?_⟩
    rintro ⟨b, off, hA, hb, hr⟩
    exact ⟨b, off, hA, hb, fun i a hi => ⟨_, rfl, hr i a hi⟩⟩
end Go.Proofs.YthbfahbjfioghaaGreatDoor
