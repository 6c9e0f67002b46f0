/-
  A map with string keys that the call has made itself, told by the list of its entries.
-/
import Derived.Test.YtooabnmmgmmklaaDoorMem
import Derived.Maps.Own
import Derived.Maps.OwnOps
set_option linter.unusedVariables false
namespace Go.Proofs.YtooabnmmgmmklaaDoor
open Go.RowKit

/-- Block b is a map that holds these entries, one behind the other. -/
def MapOf (w : World) (b : Nat) (l : List (Bytes × Value)) : Prop :=
  ∃ es clock, w.heap[b]? = some (.map es clock) ∧ es.toList.map (fun e => (e.key, e.val)) = l.map (fun p => (Value.string (S p.1), p.2))
/-- What the first entry with this key holds. -/
def look (k : Bytes) : List (Bytes × Value) → Option Value
  | [] => none
  | p :: l => if k == p.1 then some p.2 else look k l
/-- A store. -/
def putM (k : Bytes) (v : Value) : List (Bytes × Value) → List (Bytes × Value)
  | [] => [(k, v)]
  | p :: l => if k == p.1 then (k, v) :: l else p :: putM k v l

theorem MapOf.lt {w : World} {b : Nat} {l : List (Bytes × Value)} (h : MapOf w b l) : b < w.heap.size := by
  obtain ⟨es, clock, hb, _⟩ := h
  exact (Array.getElem?_eq_some_iff.1 hb).1
theorem MapOf.keep {w w' : World} {b : Nat} {l : List (Bytes × Value)} (h : MapOf w b l) (hb : w'.heap[b]? = w.heap[b]?) : MapOf w' b l := by
  obtain ⟨es, clock, h1, h2⟩ := h
  exact ⟨es, clock, hb.trans h1, h2⟩
theorem MapOf.below {w w' : World} {b : Nat} {l : List (Bytes × Value)} (h : MapOf w b l) (hb : Below w.heap.size w w') : MapOf w' b l := h.keep (hb.block b h.lt)
theorem MapOf.new (w : World) : MapOf (w.alloc (.map #[] 0)) w.heap.size [] := ⟨#[], 0, heap_alloc_new w _, rfl⟩

theorem S_beq (a b : Bytes) : (S a == S b) = (a == b) := by
  have h : (S a == S b) = (a.toArray == b.toArray) := rfl
  rw [h, List.beq_toArray]
theorem findNow_S (k : Bytes) : ∀ (es : List MapEntry) (l : List (Bytes × Value)) (i : Nat), es.map (fun e => (e.key, e.val)) = l.map (fun p => (Value.string (S p.1), p.2)) →
    ∃ r, Instr.findNow .string (.string (S k)) es i = some r ∧ r.map (·.2) = look k l ∧ (∀ j v, r = some (j, v) → i ≤ j ∧ ∃ e, es[j - i]? = some e ∧ e.key = .string (S k))
  | [], l, i, h => by
    have : l = [] := by cases l with | nil => rfl | cons => simp at h
    subst this
    exact ⟨none, rfl, rfl, fun j v hj => by cases hj⟩
  | e :: es, l, i, h => by
    cases l with
    | nil => simp at h
    | cons p l =>
      simp only [List.map_cons, List.cons.injEq, Prod.mk.injEq] at h
      obtain ⟨⟨hk, hv⟩, h⟩ := h
      simp only [Instr.findNow, hk, Instr.sameNow, S_beq, look]
      cases hb : (k == p.1) with
      | true =>
        refine ⟨some (i, e.val), rfl, by simp [hv], fun j v hj => ?_⟩
        cases hj
        exact ⟨Nat.le_refl _, e, by simp, by rw [hk, eq_of_beq hb]⟩
      | false =>
        obtain ⟨r, h1, h2, h3⟩ := findNow_S k es l (i + 1) h
        refine ⟨r, h1, by simpa using h2, fun j v hj => ?_⟩
        obtain ⟨h4, e', h5, h6⟩ := h3 j v hj
        refine ⟨by omega, e', ?_, h6⟩
        rw [show j - i = (j - (i + 1)) + 1 by omega, List.getElem?_cons_succ]
        exact h5

section
variable {w : World} {b : Nat} {l : List (Bytes × Value)} {t e kt : TypeId} {P : Program} {z : Value}
theorem run_checkKey_string (w : World) (em : Bool) (hk : P.underlying kt = some .string) (v : Value) : (Instr.checkKey em 10000 kt v).run P w = .ok () w := by
  rw [Instr.checkKey]
  simp [run_underlying hk]
theorem run_findKey (w : World) (hk : P.underlying kt = some .string) (k : Bytes) (es : List MapEntry) (r : Option (Nat × Value)) (h : Instr.findNow .string (.string (S k)) es 0 = some r) :
    (Instr.findKey kt (.string (S k)) es).run P w = .ok r w := by
  unfold Instr.findKey
  simp [run_underlying hk, h]
theorem MapOf.run_lookup (h : MapOf w b l) (ht : P.underlying t = some (.map kt e)) (hk : P.underlying kt = some .string) (hz : (zeroValue e).run P w = .ok z w) (k : Bytes) :
    (Instr.lookup t (.map (some b)) (.string (S k)) false).run P w = .ok ((look k l).getD z) w := by
  obtain ⟨es, clock, hb, hes⟩ := h
  obtain ⟨r, h1, h2, _⟩ := findNow_S k es.toList l 0 hes
  unfold Instr.lookup
  simp only [Sem.run_bind, run_underlying ht, Result.andThen_ok, run_getObj_map w b es clock hb, Sem.run_pure]
  rw [run_checkKey_string w es.isEmpty hk]
  simp only [Result.andThen_ok]
  rw [run_findKey w hk k es.toList r h1]
  simp only [Result.andThen_ok]
  cases r with
  | none => simp [← h2, hz]
  | some x => obtain ⟨j, v⟩ := x; simp [← h2]
theorem MapOf.run_lookup_ok (h : MapOf w b l) (ht : P.underlying t = some (.map kt e)) (hk : P.underlying kt = some .string) (hz : (zeroValue e).run P w = .ok z w) (k : Bytes) :
    (Instr.lookup t (.map (some b)) (.string (S k)) true).run P w = .ok (.tuple #[(look k l).getD z, .bool (look k l).isSome]) w := by
  obtain ⟨es, clock, hb, hes⟩ := h
  obtain ⟨r, h1, h2, _⟩ := findNow_S k es.toList l 0 hes
  unfold Instr.lookup
  simp only [Sem.run_bind, run_underlying ht, Result.andThen_ok, run_getObj_map w b es clock hb, Sem.run_pure, run_checkKey_string w es.isEmpty hk, run_findKey w hk k es.toList r h1]
  cases r with
  | none => simp [← h2, hz]
  | some x => obtain ⟨j, v⟩ := x; simp [← h2]
theorem putM_push {k : Bytes} {v : Value} {l : List (Bytes × Value)} (h : look k l = none) : putM k v l = l ++ [(k, v)] := by
  induction l with
  | nil => rfl
  | cons p l ih =>
    rw [look] at h
    rw [putM]
    split at h
    · cases h
    · rename_i hb
      rw [if_neg hb, ih h]; rfl
theorem findNow_at (k : Bytes) : ∀ (es : List MapEntry) (l : List (Bytes × Value)) (i j : Nat) (u : Value), es.map (fun e => (e.key, e.val)) = l.map (fun p => (Value.string (S p.1), p.2)) →
    Instr.findNow .string (.string (S k)) es i = some (some (j, u)) → i ≤ j ∧ ∀ v, (es.modify (j - i) (fun e => { e with key := .string (S k), val := v })).map (fun e => (e.key, e.val)) = (putM k v l).map (fun p => (Value.string (S p.1), p.2))
  | [], l, i, j, u, h, hf => by simp [Instr.findNow] at hf
  | e :: es, l, i, j, u, h, hf => by
    cases l with
    | nil => simp at h
    | cons p l =>
      simp only [List.map_cons, List.cons.injEq, Prod.mk.injEq] at h
      obtain ⟨⟨hk, hv⟩, h⟩ := h
      simp only [Instr.findNow, hk, Instr.sameNow, S_beq] at hf
      cases hb : (k == p.1) with
      | true =>
        rw [hb] at hf
        simp at hf
        obtain ⟨rfl, _⟩ := hf
        refine ⟨Nat.le_refl _, fun v => ?_⟩
        simp [putM, hb, h]
      | false =>
        rw [hb] at hf
        obtain ⟨h4, h5⟩ := findNow_at k es l (i + 1) j u h hf
        refine ⟨by omega, fun v => ?_⟩
        rw [show j - i = (j - (i + 1)) + 1 by omega]
        simp only [List.modify_succ_cons, List.map_cons, hk, hv, putM, hb, Bool.false_eq_true, if_false]
        rw [h5 v]
theorem sameBits_S (n : Nat) (k : Bytes) : Instr.sameBits n (.string (S k)) (.string (S k)) = true := by
  cases n <;> simp [Instr.sameBits, S_beq]
theorem MapOf.run_update (h : MapOf w b l) (ht : P.underlying t = some (.map kt e)) (hk : P.underlying kt = some .string) (k : Bytes) (v : Value) :
    ∃ w', (Instr.mapUpdate t (.map (some b)) (.string (S k)) v).run P w = .ok () w' ∧ MapOf w' b (putM k v l) ∧ Upd b w w' ∧ w'.heap.size = w.heap.size := by
  obtain ⟨es, clock, hb, hes⟩ := h
  have hlt : b < w.heap.size := (Array.getElem?_eq_some_iff.1 hb).1
  obtain ⟨r, h1, h2, h3⟩ := findNow_S k es.toList l 0 hes
  have hset : ∀ o, (setObj b o).run P w = .ok () { w with heap := w.heap.setIfInBounds b o } := fun o => MapKept.run_setObj_map o hb
  have hupd : ∀ o, Upd b w { w with heap := w.heap.setIfInBounds b o } := fun o => ⟨rfl, rfl, rfl, by simp, fun j hj hne => by simp [Ne.symm hne]⟩
  unfold Instr.mapUpdate
  simp only [Sem.run_bind, run_underlying ht, Result.andThen_ok, run_getObj_map w b es clock hb, run_checkKey_string w false hk, run_findKey w hk k es.toList r h1]
  cases r with
  | none =>
    refine ⟨_, hset _, ⟨es.push { key := .string (S k), val := v, born := clock }, clock + 1, by simp [hlt], ?_⟩, hupd _, by simp⟩
    rw [putM_push (by rw [← h2]; rfl)]
    simp [hes]
  | some x =>
    obtain ⟨j, u⟩ := x
    obtain ⟨_, e0, h5, h6⟩ := h3 j u rfl
    simp only [Nat.sub_zero] at h5
    have h5' : es[j]? = some e0 := by simpa using h5
    have hkt : (Instr.keyThatStays (((es[j]?).map (·.key)).getD (.string (S k))) (.string (S k))).run P w = .ok (.string (S k)) w := by
      rw [h5']
      simp only [Option.map_some, Option.getD_some, h6]
      unfold Instr.keyThatStays
      rw [if_pos (sameBits_S _ _)]
      rfl
    simp only [Sem.run_bind, hkt, Result.andThen_ok]
    refine ⟨_, hset _, ⟨es.modify j fun e => { e with key := .string (S k), val := v }, clock, by simp [hlt], ?_⟩, hupd _, by simp⟩
    have := (findNow_at k es.toList l 0 j u hes h1).2 v
    simpa [Array.toList_modify] using this
end
theorem wpList_map_put {P : Program} {w : World} {ops : Array Oper} {rest : List Oper} {o : Oper} {a : Act} {Q : Exit → Act → World → Prop} (hg : o.guard = none) (m x y : Operand) (t : TypeId) (hop : o.op = Op.mapUpdate t m x y)
    {kt e : TypeId} (ht : P.underlying t = some (.map kt e)) (hk : P.underlying kt = some .string) (b : Nat) (l : List (Bytes × Value)) (h : MapOf w b l) (hm : a.eval m = .map (some b)) (k : Bytes) (hx : a.eval x = .string (S k)) (v : Value) (hy : a.eval y = v)
    (hK : ∀ w', MapOf w' b (putM k v l) → Upd b w w' → w'.heap.size = w.heap.size → wpList P ops Q rest (a.put o.dst undef) w') : wpList P ops Q (o :: rest) a w := by
  refine wpList_plain hg fun K' hK' => ?_
  obtain ⟨w', hrun, r1, r2, r3⟩ := h.run_update ht hk k v
  unfold Oper.wp
  simp [execOp, hop, hm, hx, hy, hrun, Result.andThen]
  exact hK' _ _ (hK w' r1 r2 r3)
theorem wpList_map_ins {P : Program} {w : World} {ops : Array Oper} {rest : List Oper} {o : Oper} {a : Act} {Q : Exit → Act → World → Prop} (hg : o.guard = none) (m x y : Operand) (t : TypeId) (hop : o.op = Op.insert t m x y)
    {kt e : TypeId} (ht : P.underlying t = some (.map kt e)) (hk : P.underlying kt = some .string) (b : Nat) (l : List (Bytes × Value)) (h : MapOf w b l) (hm : a.eval m = .map (some b)) (k : Bytes) (hx : a.eval x = .string (S k)) (v : Value) (hy : a.eval y = v)
    (hK : ∀ w', MapOf w' b (putM k v l) → Upd b w w' → w'.heap.size = w.heap.size → wpList P ops Q rest (a.put o.dst undef) w') : wpList P ops Q (o :: rest) a w := by
  refine wpList_plain hg fun K' hK' => ?_
  obtain ⟨w', hrun, r1, r2, r3⟩ := h.run_update ht hk k v
  unfold Oper.wp
  simp [execOp, hop, hm, hx, hy, hrun, Result.andThen]
  exact hK' _ _ (hK w' r1 r2 r3)
end Go.Proofs.YtooabnmmgmmklaaDoor
