/-
  Several texts in one file, in build order:
  - A map with string keys that the call has made itself, told by the list of its entries.
  - A map that serves as a set of strings.
  - Walks of chapter 9: characters and attributes (the program).
  - Walk of chapter 9: is a tree valid (the program).
  - Walk of chapter 9: Check and Write (the program).
  - Walks of chapter 9: the reference's Check and Write.
  - Slices of strings in memory; copying and appending attributes out of a slice.
  - Walks of chapter 9: Text and Elem (program and reference).
-/
import Derived.Test.YtclhdppppgjgfaaGreatDoorH1
import Derived.Maps.Own
import Derived.Maps.OwnOps
import Derived.Test.YtclhdppppgjgfaaGreatDoorH27
import Derived.Test.YtclhdppppgjgfaaGreatDoorH4
import Derived.Test.YtclhdppppgjgfaaGreatDoorH3
import Derived.Test.YtclhdppppgjgfaaGreatDoorH38
import Derived.Laws.EntriesVeiled
import Derived.Test.YtclhdppppgjgfaaGreatDoorH26
import Derived.Maps.AppendAt
import Derived.Deep.RegionHeld3
import Derived.Laws.ResultCell
set_option linter.unusedVariables false
namespace Go.Proofs.YtclhdppppgjgfaaGreatDoor
open Go.RowKit

/-- Block b is a map that holds these entries, one behind the other. -/
def MapOf (w : World) (b : Nat) (l : List (Bytes × Value)) : Prop :=
  ∃ es clock, w.heap[b]? = some (.map es clock) ∧ es.toList.map (fun e => (e.key, e.val)) = l.map (fun p => (Value.string (S p.1), p.2))
/-- What the first entry with this key holds. -/
def look (k : Bytes) : List (Bytes × Value) → Option Value
  | [] => none
  | p :: l => if k == p.1 then some p.2 else look k l
/-- A store. -/
def putM (k : Bytes) (v : Value) : List (Bytes × Value) → List (Bytes × Value)
  | [] => [(k, v)]
  | p :: l => if k == p.1 then (k, v) :: l else p :: putM k v l

theorem MapOf.lt {w : World} {b : Nat} {l : List (Bytes × Value)} (h : MapOf w b l) : b < w.heap.size := by
  obtain ⟨es, clock, hb, _⟩ := h
  exact (Array.getElem?_eq_some_iff.1 hb).1
theorem MapOf.keep {w w' : World} {b : Nat} {l : List (Bytes × Value)} (h : MapOf w b l) (hb : w'.heap[b]? = w.heap[b]?) : MapOf w' b l := by
  obtain ⟨es, clock, h1, h2⟩ := h
  exact ⟨es, clock, hb.trans h1, h2⟩
theorem MapOf.below {w w' : World} {b : Nat} {l : List (Bytes × Value)} (h : MapOf w b l) (hb : Below w.heap.size w w') : MapOf w' b l := h.keep (hb.block b h.lt)
theorem MapOf.new (w : World) : MapOf (w.alloc (.map #[] 0)) w.heap.size [] := ⟨#[], 0, heap_alloc_new w _, rfl⟩

theorem S_beq (a b : Bytes) : (S a == S b) = (a == b) := by
  have h : (S a == S b) = (a.toArray == b.toArray) := rfl
  rw [h, List.beq_toArray]
theorem findNow_S (k : Bytes) : ∀ (es : List MapEntry) (l : List (Bytes × Value)) (i : Nat), es.map (fun e => (e.key, e.val)) = l.map (fun p => (Value.string (S p.1), p.2)) →
    ∃ r, Instr.findNow .string (.string (S k)) es i = some r ∧ r.map (·.2) = look k l ∧ (∀ j v, r = some (j, v) → i ≤ j ∧ ∃ e, es[j - i]? = some e ∧ e.key = .string (S k))
  | [], l, i, h => by
    have : l = [] := by cases l with | nil => rfl | cons => simp at h
    subst this
    exact ⟨none, rfl, rfl, fun j v hj => by cases hj⟩
  | e :: es, l, i, h => by
    cases l with
    | nil => simp at h
    | cons p l =>
      simp only [List.map_cons, List.cons.injEq, Prod.mk.injEq] at h
      obtain ⟨⟨hk, hv⟩, h⟩ := h
      simp only [Instr.findNow, hk, Instr.sameNow, S_beq, look]
      cases hb : (k == p.1) with
      | true =>
        refine ⟨some (i, e.val), rfl, by simp [hv], fun j v hj => ?_⟩
        cases hj
        exact ⟨Nat.le_refl _, e, by simp, by rw [hk, eq_of_beq hb]⟩
      | false =>
        obtain ⟨r, h1, h2, h3⟩ := findNow_S k es l (i + 1) h
        refine ⟨r, h1, by simpa using h2, fun j v hj => ?_⟩
        obtain ⟨h4, e', h5, h6⟩ := h3 j v hj
        refine ⟨by omega, e', ?_, h6⟩
        rw [show j - i = (j - (i + 1)) + 1 by omega, List.getElem?_cons_succ]
        exact h5

section
variable {w : World} {b : Nat} {l : List (Bytes × Value)} {t e kt : TypeId} {P : Program} {z : Value}
theorem run_checkKey_string (w : World) (em : Bool) (hk : P.underlying kt = some .string) (v : Value) : (Instr.checkKey em 10000 kt v).run P w = .ok () w := by
  rw [Instr.checkKey]
  simp [run_underlying hk]
theorem run_findKey (w : World) (hk : P.underlying kt = some .string) (k : Bytes) (es : List MapEntry) (r : Option (Nat × Value)) (h : Instr.findNow .string (.string (S k)) es 0 = some r) :
    (Instr.findKey kt (.string (S k)) es).run P w = .ok r w := by
  unfold Instr.findKey
  simp [run_underlying hk, h]
theorem MapOf.run_lookup (h : MapOf w b l) (ht : P.underlying t = some (.map kt e)) (hk : P.underlying kt = some .string) (hz : (zeroValue e).run P w = .ok z w) (k : Bytes) :
    (Instr.lookup t (.map (some b)) (.string (S k)) false).run P w = .ok ((look k l).getD z) w := by
  obtain ⟨es, clock, hb, hes⟩ := h
  obtain ⟨r, h1, h2, _⟩ := findNow_S k es.toList l 0 hes
  unfold Instr.lookup
  simp only [Sem.run_bind, run_underlying ht, Result.andThen_ok, run_getObj_map w b es clock hb, Sem.run_pure]
  rw [run_checkKey_string w es.isEmpty hk]
  simp only [Result.andThen_ok]
  rw [run_findKey w hk k es.toList r h1]
  simp only [Result.andThen_ok]
  cases r with
  | none => simp [← h2, hz]
  | some x => obtain ⟨j, v⟩ := x; simp [← h2]
theorem putM_push {k : Bytes} {v : Value} {l : List (Bytes × Value)} (h : look k l = none) : putM k v l = l ++ [(k, v)] := by
  induction l with
  | nil => rfl
  | cons p l ih =>
    rw [look] at h
    rw [putM]
    split at h
    · cases h
    · rename_i hb
      rw [if_neg hb, ih h]; rfl
theorem findNow_at (k : Bytes) : ∀ (es : List MapEntry) (l : List (Bytes × Value)) (i j : Nat) (u : Value), es.map (fun e => (e.key, e.val)) = l.map (fun p => (Value.string (S p.1), p.2)) →
    Instr.findNow .string (.string (S k)) es i = some (some (j, u)) → i ≤ j ∧ ∀ v, (es.modify (j - i) (fun e => { e with key := .string (S k), val := v })).map (fun e => (e.key, e.val)) = (putM k v l).map (fun p => (Value.string (S p.1), p.2))
  | [], l, i, j, u, h, hf => by simp [Instr.findNow] at hf
  | e :: es, l, i, j, u, h, hf => by
    cases l with
    | nil => simp at h
    | cons p l =>
      simp only [List.map_cons, List.cons.injEq, Prod.mk.injEq] at h
      obtain ⟨⟨hk, hv⟩, h⟩ := h
      simp only [Instr.findNow, hk, Instr.sameNow, S_beq] at hf
      cases hb : (k == p.1) with
      | true =>
        rw [hb] at hf
        simp at hf
        obtain ⟨rfl, _⟩ := hf
        refine ⟨Nat.le_refl _, fun v => ?_⟩
        simp [putM, hb, h]
      | false =>
        rw [hb] at hf
        obtain ⟨h4, h5⟩ := findNow_at k es l (i + 1) j u h hf
        refine ⟨by omega, fun v => ?_⟩
        rw [show j - i = (j - (i + 1)) + 1 by omega]
        simp only [List.modify_succ_cons, List.map_cons, hk, hv, putM, hb, Bool.false_eq_true, if_false]
        rw [h5 v]
theorem sameBits_S (n : Nat) (k : Bytes) : Instr.sameBits n (.string (S k)) (.string (S k)) = true := by
  cases n <;> simp [Instr.sameBits, S_beq]
theorem MapOf.run_update (h : MapOf w b l) (ht : P.underlying t = some (.map kt e)) (hk : P.underlying kt = some .string) (k : Bytes) (v : Value) :
    ∃ w', (Instr.mapUpdate t (.map (some b)) (.string (S k)) v).run P w = .ok () w' ∧ MapOf w' b (putM k v l) ∧ Upd b w w' ∧ w'.heap.size = w.heap.size := by
  obtain ⟨es, clock, hb, hes⟩ := h
  have hlt : b < w.heap.size := (Array.getElem?_eq_some_iff.1 hb).1
  obtain ⟨r, h1, h2, h3⟩ := findNow_S k es.toList l 0 hes
  have hset : ∀ o, (setObj b o).run P w = .ok () { w with heap := w.heap.setIfInBounds b o } := fun o => MapKept.run_setObj_map o hb
  have hupd : ∀ o, Upd b w { w with heap := w.heap.setIfInBounds b o } := fun o => ⟨rfl, rfl, rfl, by simp, fun j hj hne => by simp [Ne.symm hne]⟩
  unfold Instr.mapUpdate
  simp only [Sem.run_bind, run_underlying ht, Result.andThen_ok, run_getObj_map w b es clock hb, run_checkKey_string w false hk, run_findKey w hk k es.toList r h1]
  cases r with
  | none =>
    refine ⟨_, hset _, ⟨es.push { key := .string (S k), val := v, born := clock }, clock + 1, by simp [hlt], ?_⟩, hupd _, by simp⟩
    rw [putM_push (by rw [← h2]; rfl)]
    simp [hes]
  | some x =>
    obtain ⟨j, u⟩ := x
    obtain ⟨_, e0, h5, h6⟩ := h3 j u rfl
    simp only [Nat.sub_zero] at h5
    have h5' : es[j]? = some e0 := by simpa using h5
    have hkt : (Instr.keyThatStays (((es[j]?).map (·.key)).getD (.string (S k))) (.string (S k))).run P w = .ok (.string (S k)) w := by
      rw [h5']
      simp only [Option.map_some, Option.getD_some, h6]
      unfold Instr.keyThatStays
      rw [if_pos (sameBits_S _ _)]
      rfl
    simp only [Sem.run_bind, hkt, Result.andThen_ok]
    refine ⟨_, hset _, ⟨es.modify j fun e => { e with key := .string (S k), val := v }, clock, by simp [hlt], ?_⟩, hupd _, by simp⟩
    have := (findNow_at k es.toList l 0 j u hes h1).2 v
    simpa [Array.toList_modify] using this
end
theorem wpList_map_put {P : Program} {w : World} {ops : Array Oper} {rest : List Oper} {o : Oper} {a : Act} {Q : Exit → Act → World → Prop} (hg : o.guard = none) (m x y : Operand) (t : TypeId) (hop : o.op = Op.mapUpdate t m x y)
    {kt e : TypeId} (ht : P.underlying t = some (.map kt e)) (hk : P.underlying kt = some .string) (b : Nat) (l : List (Bytes × Value)) (h : MapOf w b l) (hm : a.eval m = .map (some b)) (k : Bytes) (hx : a.eval x = .string (S k)) (v : Value) (hy : a.eval y = v)
    (hK : ∀ w', MapOf w' b (putM k v l) → Upd b w w' → w'.heap.size = w.heap.size → wpList P ops Q rest (a.put o.dst undef) w') : wpList P ops Q (o :: rest) a w := by
  refine wpList_plain hg fun K' hK' => ?_
  obtain ⟨w', hrun, r1, r2, r3⟩ := h.run_update ht hk k v
  unfold Oper.wp
  simp [execOp, hop, hm, hx, hy, hrun, Result.andThen]
  exact hK' _ _ (hK w' r1 r2 r3)
end Go.Proofs.YtclhdppppgjgfaaGreatDoor
set_option linter.unusedVariables false
namespace Go.Proofs.YtclhdppppgjgfaaGreatDoor
open Go.RowKit

theorem zeroBool (w : World) : (zeroValue 4).run Tryz.prog w = .ok (.bool false) w := by kernel_rfl
/-- The set of the names seen so far. -/
def seenOf (l : List Bytes) : List (Bytes × Value) := l.map fun k => (k, .bool true)
theorem look_seen (k : Bytes) (l : List Bytes) : (look k (seenOf l)).getD (.bool false) = .bool (l.contains k) := by
  induction l with
  | nil => rfl
  | cons x l ih =>
    rw [seenOf, List.map_cons, look]
    by_cases h : k = x
    · subst h; simp
    · have : (k == x) = false := by simp [h]
      rw [this]
      simp only [Bool.false_eq_true, if_false]
      rw [show (look k (l.map fun k => (k, Value.bool true))) = look k (seenOf l) from rfl, ih]
      congr 1
      rw [Bool.eq_iff_iff]
      simp [h]
theorem putM_seen (k : Bytes) (l : List Bytes) (h : l.contains k = false) : putM k (.bool true) (seenOf l) = seenOf (l ++ [k]) := by
  rw [putM_push]
  · simp [seenOf]
  · have := look_seen k l
    rw [h] at this
    cases hl : look k (seenOf l) with
    | none => rfl
    | some v =>
      exfalso
      rw [hl] at this
      simp only [Option.getD_some] at this
      subst this
      have hn : ∀ (l : List Bytes) (v : Value), look k (seenOf l) = some v → v = .bool true := by
        intro l
        induction l with
        | nil => intro v h; cases h
        | cons x l ih =>
          intro v h
          rw [seenOf, List.map_cons, look] at h
          split at h
          · cases h; rfl
          · exact ih v h
      have := hn l _ hl
      cases this
end Go.Proofs.YtclhdppppgjgfaaGreatDoor
set_option linter.unusedVariables false
namespace Go.Proofs.YtclhdppppgjgfaaGreatDoor
open Go.RowKit

set_option maxHeartbeats 1000000 in
theorem chars_any (l : Bytes) (w : World) (hT : Tabs w) (hl : l.length ≤ 4611686018427387904) :
    Calls Tryz.prog 105 #[.string (S l)] w fun e w' => e = .returned (.bool (charsOk l)) ∧ Below w.heap.size w w' := by
  have hc := check_any l w hT hl
  have he : charsOk l = ((((check l).2 : Nat) : Int) == 0) := by unfold charsOk; rw [Bool.eq_iff_iff]; simp
  rw [he]
  generalize check l = c at *
  obtain ⟨c1, c2⟩ := c
  have HC := Lib.hid hc
  clear hc he hT
  go_enter Tryz.func105, Tryz.ntmps105
  go_wp2_with (go_at_call 58; refine HC.out.mono ?_; rintro e w' ⟨rfl, hb⟩)
  go_ret
  exact ⟨rfl, hb⟩

set_option maxHeartbeats 2000000 in
set_option maxRecDepth 100000 in
theorem attrs_any (l : List Att) (v : Value) (w : World) (hT : Tabs w) (hv : AttsIn w w.heap.size v l) (hl : l.length ≤ 4611686018427387904) (hp : ∀ a ∈ l, a.name.length ≤ 4611686018427387904 ∧ a.value.length ≤ 4611686018427387904) :
    Calls Tryz.prog 104 #[v] w fun e w' => e = .returned (.bool (attsOk l)) ∧ Below w.heap.size w w' := by
  obtain ⟨A, cap, rfl, hcap⟩ := hv.slice
  generalize hE : attsOk l = E at *
  have HE := Lib.hid hE
  have HV := Lib.hid hv
  have HT := Lib.hid hT
  have HP := Lib.hid hp
  have hmm := @run_makeMap Tryz.prog
  have hm0 := MapOf.new w
  have HM0 := Lib.hid hm0
  clear hE hv hT hp hm0
  go_enter Tryz.func104, Tryz.ntmps104
  go_wp2_with fail
  clear hmm
  go_loopw [9] (fun i9 wr => ∃ (i : Nat) (seen : List Bytes), i ≤ l.length ∧ i9 = .int .i64 i ∧ MapOf wr w.heap.size (seenOf seen) ∧ attsOkS seen (l.drop i) = E ∧ Below w.heap.size w wr ∧ w.heap.size < wr.heap.size) (fun i9 _ => l.length - (intOf i9).toNat)
  case atStart => exact ⟨0, [], Nat.zero_le _, rfl, HM0.out, HE.out, (Below.refl _ _).alloc (Nat.le_refl _) _, by simp⟩
  case round =>
    obtain ⟨i, seen, hi, rfl, hmap, hrem, hb, hsz⟩ := hrel
    have HM := Lib.hid hmap
    have HR := Lib.hid hrem
    have HB := Lib.hid hb
    clear hmap hrem hb
    by_cases hlt : i < l.length
    · obtain ⟨b, off, rfl, hbl, hr⟩ := HV.out.at_ hlt
      have hr' : wr.rangeAt b (off + i * 4) (attCells l[i]) := rangeAt_keep hr (HB.out.block b hbl)
      have hstep := attsOkS_step (seen := seen) hlt
      rw [HR.out] at hstep
      have hpa := HP.out l[i] (List.getElem_mem hlt)
      generalize l[i] = a at *
      have HRR := Lib.hid hr'
      have HS := Lib.hid hstep
      clear hr hr' hstep
      have hlook : ∀ o, (Instr.lookup 153 (.map (some w.heap.size)) (.string (S a.name)) false).run Tryz.prog (wr.alloc o) = .ok (.bool (seen.contains a.name)) (wr.alloc o) := fun o => by
        rw [MapOf.run_lookup (HM.out.keep (Below.heap_alloc wr o _ hsz)) Tryz.underlying153 Tryz.underlying9 (zeroBool _) a.name, look_seen]
      have hq := fun W => fun hW : Below w.heap.size w W => isQName_any a.name W (HT.out.next hW) hpa.1
      have hc := fun W => fun hW : Below w.heap.size w W => chars_any a.value W (HT.out.next hW) hpa.2
      have h01 : w.heap.size ≤ wr.heap.size := by omega
      have F1 : Hid (∀ o, Below w.heap.size w (wr.alloc o)) := fun o => HB.out.alloc h01 _
      clear hpa
      by_cases h1 : a.space = []
      · cases h2 : seen.contains a.name
        · rw [h1, h2] at HS
          rw [h2] at hlook
          have HSE := Lib.hid (putM_seen a.name seen h2)
          cases h3 : isQName a.name
          · rw [h3] at hq HS
            have HQ := Lib.hid hq
            have hfin : E = false := by rw [HS.out]; simp
            have HF := Lib.hid hfin
            clear hq hfin h3 h2
            go_wp2_with (first
              | (refine wp_load_att rfl _ rfl b (off + i * 4) rfl a HRR.out ?_)
              | (go_at_call 103; refine (HQ.out _ (F1.out _)).mono ?_; rintro e w1 ⟨rfl, hb1⟩; have k1 := hb1.cell (p := ⟨wr.heap.size, 1, none⟩) (by simp); have k2 := hb1.cell (p := ⟨wr.heap.size, 2, none⟩) (by simp); have k3 : wr.heap.size + 1 ≤ w1.heap.size := by simpa using hb1.size))
            go_ret
            exact ⟨ret_bool HF.out.symm, (F1.out _).trans (hb1.mono (by simp; omega))⟩
          · rw [h3] at hq HS
            have HQ := Lib.hid hq
            cases h4 : charsOk a.value
            · rw [h4] at hc HS
              have HC := Lib.hid hc
              have hfin : E = false := by rw [HS.out]; simp
              have HF := Lib.hid hfin
              clear hq hc hfin h3 h4 h2
              go_wp2_with (first
                | (refine wp_load_att rfl _ rfl b (off + i * 4) rfl a HRR.out ?_)
                | (go_at_call 103; refine (HQ.out _ (F1.out _)).mono ?_; rintro e w1 ⟨rfl, hb1⟩; have k1 := hb1.cell (p := ⟨wr.heap.size, 1, none⟩) (by simp); have k2 := hb1.cell (p := ⟨wr.heap.size, 2, none⟩) (by simp); have k3 : wr.heap.size + 1 ≤ w1.heap.size := by simpa using hb1.size)
                | (go_at_call 105; refine (HC.out _ ((F1.out _).trans (hb1.mono (by simp; omega)))).mono ?_; rintro e w2 ⟨rfl, hb2⟩; have k4 := hb2.cell (p := ⟨wr.heap.size, 1, none⟩) (show wr.heap.size < w1.heap.size from k3); have k5 : w1.heap.size ≤ w2.heap.size := hb2.size; have HM2 := Lib.hid (((HM.out.keep (w' := wr.alloc _) (Below.heap_alloc wr _ _ hsz)).below hb1).below hb2); clear hlook))
              go_ret
              exact ⟨ret_bool HF.out.symm, ((F1.out _).trans (hb1.mono (by simp; omega))).trans (hb2.mono (by omega))⟩
            · rw [h4] at hc HS
              have HC := Lib.hid hc
              have hfin : attsOkS (a.name :: seen) (l.drop (i + 1)) = E := by rw [HS.out]; simp
              have HF := Lib.hid hfin
              clear hq hc hfin h3 h4 h2
              go_wp2_with (first
                | (refine wp_load_att rfl _ rfl b (off + i * 4) rfl a HRR.out ?_)
                | (go_at_call 103; refine (HQ.out _ (F1.out _)).mono ?_; rintro e w1 ⟨rfl, hb1⟩; have k1 := hb1.cell (p := ⟨wr.heap.size, 1, none⟩) (by simp); have k2 := hb1.cell (p := ⟨wr.heap.size, 2, none⟩) (by simp); have k3 : wr.heap.size + 1 ≤ w1.heap.size := by simpa using hb1.size)
                | (go_at_call 105; refine (HC.out _ ((F1.out _).trans (hb1.mono (by simp; omega)))).mono ?_; rintro e w2 ⟨rfl, hb2⟩; have k4 := hb2.cell (p := ⟨wr.heap.size, 1, none⟩) (show wr.heap.size < w1.heap.size from k3); have k5 : w1.heap.size ≤ w2.heap.size := hb2.size; have HM2 := Lib.hid (((HM.out.keep (w' := wr.alloc _) (Below.heap_alloc wr _ _ hsz)).below hb1).below hb2); clear hlook)
                | (at_mapUpdate; refine wpList_map_put rfl _ _ _ 153 rfl Tryz.underlying153 Tryz.underlying9 w.heap.size (seenOf seen) HM2.out rfl a.name rfl (.bool true) rfl ?_; intro w3 hm3 hu3 hs3))
              have HB3 := Lib.hid ((((F1.out _).trans (hb1.mono (by simp; omega))).trans (hb2.mono (by omega))).trans (hu3.below (Nat.le_refl _) (by omega)))
              go_roundw
              case rel =>
                refine ⟨i + 1, seen ++ [a.name], by omega, by go_num, by rw [← HSE.out]; exact hm3, ?_, HB3.out, by omega⟩
                rw [← HF.out]
                exact attsOkS_perm _ _ _ (fun x => by simp [or_comm])
              case measure => simp [intOf]; omega
        · have hfin : E = false := by rw [HS.out, h2]; simp
          rw [h2] at hlook
          have HF := Lib.hid hfin
          clear hfin h2 hq hc
          go_wp2_with (refine wp_load_att rfl _ rfl b (off + i * 4) rfl a HRR.out ?_)
          go_ret
          exact ⟨ret_bool HF.out.symm, F1.out _⟩
      · have hfin : E = false := by rw [HS.out]; simp [h1]
        have HF := Lib.hid hfin
        clear hfin hq hc hlook
        go_wp2_with (refine wp_load_att rfl _ rfl b (off + i * 4) rfl a HRR.out ?_)
        go_ret
        exact ⟨ret_bool HF.out.symm, F1.out _⟩
    · obtain rfl : i = l.length := by omega
      have hfin := HR.out
      rw [List.drop_length, attsOkS] at hfin
      have HF := Lib.hid hfin
      clear hfin
      go_wp2_with fail
      go_ret
      exact ⟨ret_bool HF.out, HB.out⟩
end Go.Proofs.YtclhdppppgjgfaaGreatDoor
set_option linter.unusedVariables false
namespace Go.Proofs.YtclhdppppgjgfaaGreatDoor
open Go.RowKit

theorem headOk_mk (k : Int) (s nm : Bytes) (ats : List Att) (ks : List Node) (t : Bytes) (p : Int) : headOk (.mk k s nm ats ks t p) = (k == 0 && s == [] && t == [] && isQName nm && attsOk ats) := rfl
theorem dataOk_mk (k : Int) (s nm : Bytes) (ats : List Att) (ks : List Node) (t : Bytes) (p : Int) : dataOk (.mk k s nm ats ks t p) = (t != [] && charsOk t && s == [] && nm == [] && ats.length == 0 && ks.length == 0) := rfl

set_option maxHeartbeats 4000000 in
set_option maxRecDepth 100000 in
theorem valid_any (m : Nat) : ∀ (n : Node) (v : Value) (d : Nat) (w : World), nsz n ≤ m → full n ≤ 1000000 → d ≤ 1000 → Tabs w → NodeV w w.heap.size n v →
    Calls Tryz.prog 76 #[v, .int .i64 d] w fun e w' => e = .returned (.bool (vld true n d)) ∧ Below w.heap.size w w' := by
  induction m with
  | zero => intro n v d w h; cases n; rw [nsz] at h; omega
  | succ m ih =>
    intro n v d w hm hs hd hT hv
    obtain ⟨A, cap, K, kcap, rfl, ha, hk, hcap, hkcap⟩ := hv.open_
    have hp := parts n hs
    have hge := fun (i : Nat) (h : i < n.kids.length) => nsz_get n h
    obtain ⟨k, s, nm, ats, ks, t, p⟩ := n
    generalize hE : vld true (.mk k s nm ats ks t p) d = E at *
    rw [vld, headOk_mk] at hE
    simp only [Node.kind, Node.space, Node.name, Node.attrs, Node.kids, Node.text, Node.pos] at *
    have hq := fun W => fun hW : Below w.heap.size w W => isQName_any nm W (hT.next hW) (by have := hp.name; simp only [Node.name] at this; omega)
    have hat := fun W => fun hW : Below w.heap.size w W => attrs_any ats _ W (hT.next hW) (ha.keep hW.block hW.size) (by have := hp.attrs; simp only [Node.attrs] at this; omega) (fun a h => by have := hp.att a h; omega)
    have F1 : Hid (∀ o, Below w.heap.size w (w.alloc o)) := fun o => (Below.refl _ _).alloc (Nat.le_refl _) o
    have HIH := Lib.hid ih
    have hkl : ks.length < 1000000 := hp.kids
    have HK := Lib.hid hk
    have HM := Lib.hid hm
    have HP := Lib.hid hp
    have HGE := Lib.hid hge
    have HT := Lib.hid hT
    have HS := Lib.hid hs
    have HE := Lib.hid hE
    clear ih ha hk hm hp hge hT hs hE hv
    -- the element itself
    by_cases h1 : k = 0
    · subst h1
      by_cases h2 : d ≤ 100
      · have h2' : (d : Int) ≤ 100 := by omega
        by_cases h3 : s = []
        · subst h3
          by_cases h4 : t = []
          · subst h4
            cases h5 : isQName nm
            · rw [h5] at hq HE
              have HQ := Lib.hid hq
              clear hq hat h5
              have hF : E = false := by rw [← HE.out]; simp
              have HF := Lib.hid hF
              clear hF
              go_enter Tryz.func76, Tryz.ntmps76
              go_wp2_with (go_at_call 103; refine (HQ.out _ (F1.out _)).mono ?_; rintro e w1 ⟨rfl, hb1⟩)
              go_ret
              exact ⟨ret_bool HF.out.symm, (F1.out _).trans (hb1.mono (by simp))⟩
            · rw [h5] at hq HE
              have HQ := Lib.hid hq
              clear hq h5
              cases h6 : attsOk ats
              · rw [h6] at hat HE
                have HA := Lib.hid hat
                clear hat h6
                have hF : E = false := by rw [← HE.out]; simp
                have HF := Lib.hid hF
                clear hF
                go_enter Tryz.func76, Tryz.ntmps76
                go_wp2_with (first
                  | (go_at_call 103; refine (HQ.out _ (F1.out _)).mono ?_; rintro e w1 ⟨rfl, hb1⟩; have c3 := hb1.cell (p := ⟨w.heap.size, 3, none⟩) (by simp); have z1 : w.heap.size + 1 ≤ w1.heap.size := by simpa using hb1.size)
                  | (go_at_call 104; refine (HA.out _ ((F1.out _).trans (hb1.mono (by simp)))).mono ?_; rintro e w2 ⟨rfl, hb2⟩))
                go_ret
                exact ⟨ret_bool HF.out.symm, ((F1.out _).trans (hb1.mono (by simp))).trans (hb2.mono (by have := hb1.size; simp at this; omega))⟩
              · rw [h6] at hat HE
                have HA := Lib.hid hat
                clear hat h6
                have hF : vldL true ks d false = E := by rw [← HE.out]; simp [show ¬ 100 < d from by omega]
                have HF := Lib.hid hF
                clear hF HE
                go_enter Tryz.func76, Tryz.ntmps76
                go_wp2_with (first
                  | (go_at_call 103; refine (HQ.out _ (F1.out _)).mono ?_; rintro e w1 ⟨rfl, hb1⟩; have c3 := hb1.cell (p := ⟨w.heap.size, 3, none⟩) (by simp); have z1 : w.heap.size + 1 ≤ w1.heap.size := by simpa using hb1.size)
                  | (go_at_call 104; refine (HA.out _ ((F1.out _).trans (hb1.mono (by simp)))).mono ?_; rintro e w2 ⟨rfl, hb2⟩; have c4 := (hb2.cell (p := ⟨w.heap.size, 4, none⟩) (show w.heap.size < w1.heap.size from z1)).trans (hb1.cell (p := ⟨w.heap.size, 4, none⟩) (by simp)); have z2 : w1.heap.size ≤ w2.heap.size := hb2.size))
                have hbw : Below w.heap.size w w2 := ((F1.out _).trans (hb1.mono (by simp))).trans (hb2.mono (by omega))
                have HBW := Lib.hid hbw
                clear hbw hb1 hb2 c3 c4
                go_loopw [5, 40] (fun s5 i40 wr => ∃ (i : Nat) (data : Bool), i ≤ ks.length ∧ i40 = .int .i64 i ∧ s5 = .bool data ∧ vldL true (ks.drop i) d data = E ∧ Below w.heap.size w wr) (fun _ i40 _ => ks.length - (intOf i40).toNat)
                case atStart => exact ⟨0, false, Nat.zero_le _, rfl, rfl, HF.out, HBW.out⟩
                case round =>
                  obtain ⟨i, data, hi, rfl, rfl, hrem, hb⟩ := hrel
                  have HB := Lib.hid hb
                  have HR := Lib.hid hrem
                  have hsz := hb.size
                  clear hb hrem
                  by_cases hlt : i < ks.length
                  · have hstep := vldL_step (lim := true) (d := d) (data := data) hlt
                    rw [HR.out] at hstep
                    obtain ⟨b, off, cs, rfl, hbl, hr, hcs⟩ := HK.out.at_ hlt
                    have hr' : wr.rangeAt b (off + i * 7) cs := rangeAt_keep hr (HB.out.block b hbl)
                    have hnv : NodeV w w.heap.size ks[i] (.agg cs.toArray) := ⟨cs, rfl, hcs⟩
                    have hfk : full ks[i] ≤ 1000000 := by have := HP.out.kid ks[i] (List.getElem_mem hlt); omega
                    have hsn : nsz ks[i] ≤ m := by have := HGE.out i hlt; have := HM.out; omega
                    have hcall := fun W => fun hW : Below w.heap.size w W => HIH.out ks[i] _ (d + 1) W hsn hfk (by omega) (HT.out.next hW) (hnv.keep hW.block hW.size)
                    have hpk := parts ks[i] hfk
                    obtain ⟨A', c', K', d', rfl, _, _, _, _⟩ := hcs.open_
                    have F2 : Hid (∀ o, Below w.heap.size w (wr.alloc o)) := fun o => HB.out.alloc hsz _
                    have HRR := Lib.hid hr'
                    clear hr hr' hcs hnv hfk hsn
                    generalize ks[i] = kid at *
                    obtain ⟨k', s', nm', ats', ks', t', p'⟩ := kid
                    simp only [Node.kind, Node.space, Node.name, Node.attrs, Node.kids, Node.text, Node.pos] at *
                    have hch := fun W => fun hW : Below w.heap.size w W => chars_any t' W (HT.out.next hW) (by have := hpk.text; simp only [Node.text] at this; omega)
                    have hl1 : s'.length < 1000000 := hpk.space
                    have hl2 : nm'.length < 1000000 := hpk.name
                    have hl3 : ats'.length < 1000000 := hpk.attrs
                    have hl4 : ks'.length < 1000000 := hpk.kids
                    rw [dataOk_mk] at hstep
                    have HST := Lib.hid hstep
                    clear hstep hpk
                    by_cases g1 : k' = 1
                    · subst g1
                      clear hcall
                      cases data
                      · by_cases g2 : t' = []
                        · subst g2
                          have hF : E = false := by rw [HST.out]; simp
                          have HF2 := Lib.hid hF
                          clear hF
                          go_wp2_with (with_reducible refine gate ?_; refine wp_load_node rfl _ rfl b (off + i * 7) rfl _ rfl HRR.out ?_)
                          go_ret
                          exact ⟨ret_bool HF2.out.symm, F2.out _⟩
                        · have e0 : List.isEmpty t' = false := by cases t' with
                            | nil => exact (g2 rfl).elim
                            | cons a l => rfl
                          cases g3 : charsOk t'
                          · rw [g3] at hch HST
                            have HC := Lib.hid hch
                            have hF : E = false := by rw [HST.out]; simp
                            clear hch g3
                            have HF2 := Lib.hid hF
                            clear hF
                            go_wp2_with (first
                              | (with_reducible refine gate ?_; refine wp_load_node rfl _ rfl b (off + i * 7) rfl _ rfl HRR.out ?_)
                              | (go_at_call 105; refine (HC.out _ (F2.out _)).mono ?_; rintro e w3 ⟨rfl, hb3⟩; have k0 := hb3.cell (p := ⟨wr.heap.size, 0, none⟩) (by simp); have k1 := hb3.cell (p := ⟨wr.heap.size, 1, none⟩) (by simp); have k2 := hb3.cell (p := ⟨wr.heap.size, 2, none⟩) (by simp); have k3 := hb3.cell (p := ⟨wr.heap.size, 3, none⟩) (by simp); have k4 := hb3.cell (p := ⟨wr.heap.size, 4, none⟩) (by simp)))
                            go_ret
                            exact ⟨ret_bool HF2.out.symm, (F2.out _).trans (hb3.mono (by simp; omega))⟩
                          · rw [g3] at hch HST
                            have HC := Lib.hid hch
                            clear hch g3
                            by_cases g4 : s' = [] ∧ nm' = []
                            · obtain ⟨g4, g5⟩ := g4
                              subst g4 g5
                              by_cases g6 : ats'.length + ks'.length = 0
                              · have e1 : ats'.length ≤ 0 := by omega
                                have e2 : ks'.length ≤ 0 := by omega
                                have e3 : (ats'.length : Int) + ks'.length ≤ 0 := by omega
                                have hF : vldL true (ks.drop (i + 1)) d true = E := by
                                  rw [HST.out]
                                  simp [g2, show ats' = [] from List.eq_nil_of_length_eq_zero (by omega), show ks' = [] from List.eq_nil_of_length_eq_zero (by omega)]
                                have HF2 := Lib.hid hF
                                clear hF g6 g2
                                go_wp2_with (first
                                  | (with_reducible refine gate ?_; refine wp_load_node rfl _ rfl b (off + i * 7) rfl _ rfl HRR.out ?_)
                                  | (go_at_call 105; refine (HC.out _ (F2.out _)).mono ?_; rintro e w3 ⟨rfl, hb3⟩; have k0 := hb3.cell (p := ⟨wr.heap.size, 0, none⟩) (by simp); have k1 := hb3.cell (p := ⟨wr.heap.size, 1, none⟩) (by simp); have k2 := hb3.cell (p := ⟨wr.heap.size, 2, none⟩) (by simp); have k3 := hb3.cell (p := ⟨wr.heap.size, 3, none⟩) (by simp); have k4 := hb3.cell (p := ⟨wr.heap.size, 4, none⟩) (by simp)))
                                go_roundw
                                case rel => exact ⟨i + 1, true, by omega, by go_num, rfl, HF2.out, (F2.out _).trans (hb3.mono (by simp; omega))⟩
                                case measure => simp [intOf]; omega
                              · have e1 : (0 : Int) < (ats'.length : Int) + ks'.length := by omega
                                have hF : E = false := by
                                  rw [HST.out, Bool.eq_false_iff]
                                  intro hh
                                  simp at hh
                                  obtain ⟨⟨_, ha0⟩, _⟩ := hh
                                  apply g6
                                  simp_all
                                clear g6
                                have HF2 := Lib.hid hF
                                clear hF
                                go_wp2_with (first
                                  | (with_reducible refine gate ?_; refine wp_load_node rfl _ rfl b (off + i * 7) rfl _ rfl HRR.out ?_)
                                  | (go_at_call 105; refine (HC.out _ (F2.out _)).mono ?_; rintro e w3 ⟨rfl, hb3⟩; have k0 := hb3.cell (p := ⟨wr.heap.size, 0, none⟩) (by simp); have k1 := hb3.cell (p := ⟨wr.heap.size, 1, none⟩) (by simp); have k2 := hb3.cell (p := ⟨wr.heap.size, 2, none⟩) (by simp); have k3 := hb3.cell (p := ⟨wr.heap.size, 3, none⟩) (by simp); have k4 := hb3.cell (p := ⟨wr.heap.size, 4, none⟩) (by simp)))
                                go_ret
                                exact ⟨ret_bool HF2.out.symm, (F2.out _).trans (hb3.mono (by simp; omega))⟩
                            · have e1 : ¬ (s' ++ nm' = []) := by simpa using g4
                              have hF : E = false := by
                                rw [HST.out, Bool.eq_false_iff]
                                intro hh
                                simp at hh
                                apply g4
                                simp_all
                              clear g4
                              have HF2 := Lib.hid hF
                              clear hF
                              go_wp2_with (first
                                | (with_reducible refine gate ?_; refine wp_load_node rfl _ rfl b (off + i * 7) rfl _ rfl HRR.out ?_)
                                | (go_at_call 105; refine (HC.out _ (F2.out _)).mono ?_; rintro e w3 ⟨rfl, hb3⟩; have k0 := hb3.cell (p := ⟨wr.heap.size, 0, none⟩) (by simp); have k1 := hb3.cell (p := ⟨wr.heap.size, 1, none⟩) (by simp); have k2 := hb3.cell (p := ⟨wr.heap.size, 2, none⟩) (by simp); have k3 := hb3.cell (p := ⟨wr.heap.size, 3, none⟩) (by simp); have k4 := hb3.cell (p := ⟨wr.heap.size, 4, none⟩) (by simp)))
                              go_ret
                              exact ⟨ret_bool HF2.out.symm, (F2.out _).trans (hb3.mono (by simp; omega))⟩
                      · have hF : E = false := by rw [HST.out]; simp
                        clear hch
                        have HF2 := Lib.hid hF
                        clear hF
                        go_wp2_with (with_reducible refine gate ?_; refine wp_load_node rfl _ rfl b (off + i * 7) rfl _ rfl HRR.out ?_)
                        go_ret
                        exact ⟨ret_bool HF2.out.symm, F2.out _⟩
                    · have t1 : (k' == 1) = false := by rw [beq_eq_false_iff_ne]; exact g1
                      have hs2 : E = (vld true (.mk k' s' nm' ats' ks' t' p') (d + 1) && vldL true (ks.drop (i + 1)) d false) := by simpa [Node.kind, g1, t1] using HST.out
                      clear HST
                      have HST := Lib.hid hs2
                      clear hs2
                      generalize vld true (.mk k' s' nm' ats' ks' t' p') (d + 1) = q at *
                      have e3 : ((d + 1 : Nat) : Int) = (d : Int) + 1 := by omega
                      rw [e3] at hcall
                      have HC := Lib.hid hcall
                      clear hch hcall g1 e3
                      cases q
                      · have hF : E = false := by rw [HST.out]; simp
                        have HF2 := Lib.hid hF
                        clear hF
                        go_wp2_with (first
                          | (with_reducible refine gate ?_; refine wp_load_node rfl _ rfl b (off + i * 7) rfl _ rfl HRR.out ?_)
                          | (go_at_call 76; refine (HC.out _ (F2.out _)).mono ?_; rintro e w3 ⟨rfl, hb3⟩))
                        go_ret
                        exact ⟨ret_bool HF2.out.symm, (F2.out _).trans (hb3.mono (by simp; omega))⟩
                      · have hF : vldL true (ks.drop (i + 1)) d false = E := by rw [HST.out]; simp
                        have HF2 := Lib.hid hF
                        clear hF
                        go_wp2_with (first
                          | (with_reducible refine gate ?_; refine wp_load_node rfl _ rfl b (off + i * 7) rfl _ rfl HRR.out ?_)
                          | (go_at_call 76; refine (HC.out _ (F2.out _)).mono ?_; rintro e w3 ⟨rfl, hb3⟩; have k0 := hb3.cell (p := ⟨wr.heap.size, 0, none⟩) (by simp)))
                        go_roundw
                        case rel => exact ⟨i + 1, false, by omega, by go_num, rfl, HF2.out, (F2.out _).trans (hb3.mono (by simp; omega))⟩
                        case measure => simp [intOf]; omega
                  · obtain rfl : i = ks.length := by omega
                    have hfin := HR.out
                    rw [List.drop_length, vldL] at hfin
                    have HFF := Lib.hid hfin
                    clear hfin
                    go_wp2_with fail
                    go_ret
                    exact ⟨ret_bool HFF.out, HB.out⟩
          · have hF : E = false := by rw [← HE.out]; simp [h4]
            have HF := Lib.hid hF
            clear hF hq hat
            go_enter Tryz.func76, Tryz.ntmps76
            go_wp2_with fail
            go_ret
            exact ⟨ret_bool HF.out.symm, F1.out _⟩
        · have hF : E = false := by rw [← HE.out]; simp [h3]
          have HF := Lib.hid hF
          clear hF hq hat
          go_enter Tryz.func76, Tryz.ntmps76
          go_wp2_with fail
          go_ret
          exact ⟨ret_bool HF.out.symm, F1.out _⟩
      · have h2' : 100 < (d : Int) := by omega
        have hF : E = false := by rw [← HE.out]; simp [show 100 < d from by omega]
        have HF := Lib.hid hF
        clear hF hq hat
        go_enter Tryz.func76, Tryz.ntmps76
        go_wp2_with fail
        go_ret
        exact ⟨ret_bool HF.out.symm, F1.out _⟩
    · have t1 : (k != 0) = true := by rw [bne_iff_ne]; exact h1
      have hF : E = false := by rw [← HE.out]; simp [h1]
      have HF := Lib.hid hF
      clear hF hq hat
      go_enter Tryz.func76, Tryz.ntmps76
      go_wp2_with fail
      go_ret
      exact ⟨ret_bool HF.out.symm, F1.out _⟩
end Go.Proofs.YtclhdppppgjgfaaGreatDoor
set_option linter.unusedVariables false
namespace Go.Proofs.YtclhdppppgjgfaaGreatDoor
open Go.RowKit

def errOf (b : Bool) : Int := if b then 0 else 22
set_option maxHeartbeats 1000000 in
set_option maxRecDepth 100000 in
theorem check9_any (n : Node) (v : Value) (w : World) (hs : full n ≤ 1000000) (hT : Tabs w) (hv : NodeV w w.heap.size n v) :
    Calls Tryz.prog 53 #[v] w fun e w' => e = .returned (.int .i64 (errOf (vld true n 1))) ∧ Below w.heap.size w w' := by
  have hc := fun W => fun (hW : Below w.heap.size w W) => valid_any _ n v 1 W (Nat.le_refl _) hs (by omega) (hT.next hW) (hv.keep hW.block hW.size)
  have e1 : ((1 : Nat) : Int) = 1 := rfl
  rw [e1] at hc
  obtain ⟨A, cap, K, kcap, rfl, ha, hk, hcap, hkcap⟩ := hv.open_
  have HC := Lib.hid hc
  clear hc hv ha hk hs hT e1
  have F1 : Hid (∀ o, Below w.heap.size w (w.alloc o)) := fun o => (Below.refl _ _).alloc (Nat.le_refl _) o
  generalize vld true n 1 = E at *
  cases E
  · go_enter Tryz.func53, Tryz.ntmps53
    go_wp2_with (go_at_call 76; refine (HC.out _ (F1.out _)).mono ?_; rintro e w1 ⟨rfl, hb1⟩)
    go_ret
    exact ⟨rfl, (F1.out _).trans (hb1.mono (by simp))⟩
  · go_enter Tryz.func53, Tryz.ntmps53
    go_wp2_with (go_at_call 76; refine (HC.out _ (F1.out _)).mono ?_; rintro e w1 ⟨rfl, hb1⟩)
    go_ret
    exact ⟨rfl, (F1.out _).trans (hb1.mono (by simp))⟩

theorem wr_new (w : World) : Wr w.heap.size w.heap.size (w.heap.size + 1) [] ((w.alloc (.cells #[.pointer none, .slice none 0 0] 68)).alloc (.cells #[wFn w.heap.size (w.heap.size + 1)] 87)) := by
  refine ⟨(Bld.new w).alloc _, ?_, by omega, by simp; omega⟩
  have h := heap_alloc_new (w.alloc (.cells #[.pointer none, .slice none 0 0] 68)) (.cells #[wFn w.heap.size (w.heap.size + 1)] 87)
  simp only [World.size_alloc] at h
  exact h
theorem wr_cell0 (w : World) (z : Value) : ((w.alloc (.cells #[.pointer none, .slice none 0 0] 68)).alloc (.cells #[z] 87)).cell? ⟨w.heap.size + 1, 0, none⟩ = some z := by
  have h := heap_alloc_new (w.alloc (.cells #[.pointer none, .slice none 0 0] 68)) (.cells #[z] 87)
  simp only [World.size_alloc] at h
  rw [Lib.cell_of_heap h]; rfl
theorem wr_froz0 (w : World) (z : Value) : ((w.alloc (.cells #[.pointer none, .slice none 0 0] 68)).alloc (.cells #[z] 87)).frozen? ⟨w.heap.size + 1, 0, none⟩ = false := by
  have h := heap_alloc_new (w.alloc (.cells #[.pointer none, .slice none 0 0] 68)) (.cells #[z] 87)
  simp only [World.size_alloc] at h
  exact Lib.frozen_of_heap h 0
/-- What Write returns. -/
def outOf (n : Node) (b : Bool) : Bytes := if b then doc n else []
set_option maxHeartbeats 2000000 in
set_option maxRecDepth 100000 in
theorem write9_any (n : Node) (v : Value) (w : World) (hs : full n ≤ 1000000) (hc : (canon n).length ≤ 140737488355000) (hT : Tabs w) (hv : NodeV w w.heap.size n v) :
    Calls Tryz.prog 29 #[v] w fun e w' => e = .returned (.tuple #[.string (S (outOf n (vld true n 1))), .int .i64 (errOf (vld true n 1))]) ∧ Below w.heap.size w w' := by
  have hck := fun W => fun (hW : Below w.heap.size w W) => check9_any n v W hs (hT.next hW) (hv.keep hW.block hW.size)
  have hwr := fun W (B b cl : Nat) X => fun (h1 : Wr B b cl X W) (hW : Below w.heap.size w W) (hB : w.heap.size ≤ B) (h : (X ++ canon n).length ≤ 140737488355328) => write1_any _ n v B b cl X W (Nat.le_refl _) hs h1 (hv.keep hW.block hB) h
  obtain ⟨A, cap, K, kcap, rfl, ha, hk, hcap, hkcap⟩ := hv.open_
  have hhd : header.length = 39 := rfl
  have HC := Lib.hid hck
  have HW := Lib.hid hwr
  clear hck hwr hv ha hk hs hT
  have F1 : Hid (∀ o, Below w.heap.size w (w.alloc o)) := fun o => (Below.refl _ _).alloc (Nat.le_refl _) o
  generalize vld true n 1 = E at *
  cases E
  · go_enter Tryz.func29, Tryz.ntmps29
    go_wp2_with (go_at_call 53; refine (HC.out _ (F1.out _)).mono ?_; rintro e w1 ⟨rfl, hb1⟩)
    go_ret2
    exact ⟨rfl, (F1.out _).trans (hb1.mono (by simp))⟩
  · have hd : outOf n true = header ++ (canon n ++ [10]) := by show header ++ canon n ++ [10] = _; rw [List.append_assoc]
    rw [hd]
    clear hd
    generalize canon n = N at *
    go_enter Tryz.func29, Tryz.ntmps29
    have hmf : ∀ (fn : Fn) (first cap : Array Value) (w : World), (Instr.makeFunc fn first cap).run Tryz.prog w = .ok (.func fn first cap) w := fun _ _ _ _ => rfl
    go_wp2_with (first
      | (go_at_call 53; refine (HC.out _ (F1.out _)).mono ?_; rintro e w1 ⟨rfl, hb1⟩; have q1 := wr_cell0 w1 .nilFunc; have q2 := wr_froz0 w1 .nilFunc; have hbx := (hb1.block w.heap.size (by simp)).trans (heap_alloc_new w (nodeBox n A cap K kcap)); have hz1 : w.heap.size + 1 ≤ w1.heap.size := by simpa using hb1.size)
      | (go_at_call 47; refine (wr_str header (wr_new w1) (by rw [hhd]; decide)).mono ?_; rintro e w2 ⟨rfl, h2, f2⟩; have d2 := h2.cell; have fb : Below w1.heap.size w1 w2 := (((Below.refl _ w1).alloc (Nat.le_refl _) _).alloc (by simp) _).trans f2.below; have hbx2 := (fb.block w.heap.size (by omega)).trans hbx; obtain ⟨k0, k1, k2, k3, k4, k5, k6⟩ := box_cells hbx2; have hb2 := ((F1.out _).trans (hb1.mono (by simp))).trans (fb.mono (show w.heap.size ≤ w1.heap.size by omega)))
      | (go_at_call 54; refine (HW.out _ _ _ _ _ h2 hb2 (by omega) (by rw [List.nil_append, List.length_append, hhd]; omega)).mono ?_; rintro e w3 ⟨rfl, h3, f3⟩)
      | (go_at_call 57; refine (wr_byte 10 h3 (by omega) (by rw [List.nil_append, List.length_append, hhd]; omega)).mono ?_; rintro e w4 ⟨rfl, h4, f4⟩)
      | (go_at_call 39; refine (builderString_any _ _ _ _ h4.bld h4.le).mono ?_; rintro e w5 ⟨rfl, h5, f5, _⟩))
    go_ret2
    exact ⟨rfl, hb2.trans ((f3.below.trans (f4.below.trans f5)).mono (by omega))⟩
end Go.Proofs.YtclhdppppgjgfaaGreatDoor
set_option linter.unusedVariables false
namespace Go.Proofs.YtclhdppppgjgfaaGreatDoor
open Go.RowKit

set_option maxHeartbeats 2000000 in
set_option maxRecDepth 100000 in
theorem refCheck9_any (n : Node) (v : Value) (w : World) (hs : full n ≤ 1000000) (hv : NodeV w w.heap.size n v) :
    Calls Tryz.prog 27 #[v] w fun e w' => e = .returned (.int .i64 (errOf (vld true n 1))) ∧ Below w.heap.size w w' := by
  have hd := fun W => fun (hW : Below w.heap.size w W) => refDepth_any _ n v W (Nat.le_refl _) (by have := nsz_full n; omega) (hv.keep hW.block hW.size)
  have hval := fun W => fun (hW : Below w.heap.size w W) => refValid_any _ n v W (Nat.le_refl _) hs (hv.keep hW.block hW.size)
  rw [← refOk_eq, show refOk n = (n.kind == 0 && decide (depth n ≤ 100) && rvl n) from rfl]
  have hdf := depth_full n
  obtain ⟨A, cap, K, kcap, rfl, ha, hk, hcap, hkcap⟩ := hv.open_
  have HD := Lib.hid hd
  have HV := Lib.hid hval
  clear hd hval hv ha hk hs
  have F1 : Hid (∀ o, Below w.heap.size w (w.alloc o)) := fun o => (Below.refl _ _).alloc (Nat.le_refl _) o
  generalize depth n = D at *
  generalize rvl n = q at *
  cases t0 : (n.kind == 0)
  · have t1 : (n.kind != 0) = true := by rw [bne, t0]; rfl
    go_enter Tryz.func27, Tryz.ntmps27
    go_wp2_with fail
    go_ret
    exact ⟨rfl, F1.out _⟩
  · have t1 : (n.kind != 0) = false := by rw [bne, t0]; rfl
    by_cases h : D ≤ 100
    · have h' : (D : Int) ≤ 100 := by omega
      rw [show decide (D ≤ 100) = true from by simpa using h]
      cases q
      all_goals
        go_enter Tryz.func27, Tryz.ntmps27
        go_wp2_with (first
          | (go_at_call 20; refine (HD.out _ (F1.out _)).mono ?_; rintro e w1 ⟨rfl, hb1⟩; have hbx := (hb1.block w.heap.size (by simp)).trans (heap_alloc_new w (nodeBox n A cap K kcap)); obtain ⟨k0, k1, k2, k3, k4, k5, k6⟩ := box_cells hbx; have hb1' := (F1.out _).trans (hb1.mono (show w.heap.size ≤ (w.alloc _).heap.size by simp)))
          | (go_at_call 49; refine (HV.out _ hb1').mono ?_; rintro e w2 ⟨rfl, hb2⟩))
        go_ret
        exact ⟨rfl, hb1'.trans (hb2.mono hb1'.size)⟩
    · have h' : (100 : Int) < D := by omega
      rw [show decide (D ≤ 100) = false from by simpa using h]
      go_enter Tryz.func27, Tryz.ntmps27
      go_wp2_with (go_at_call 20; refine (HD.out _ (F1.out _)).mono ?_; rintro e w1 ⟨rfl, hb1⟩)
      go_ret
      exact ⟨rfl, (F1.out _).trans (hb1.mono (by simp))⟩

end Go.Proofs.YtclhdppppgjgfaaGreatDoor
set_option linter.unusedVariables false
namespace Go.Proofs.YtclhdppppgjgfaaGreatDoor
open Go.RowKit

/-- The value v is a slice of strings that lies below block B. -/
def StrsIn (w : World) (B : Nat) (v : Value) (l : List Bytes) : Prop :=
  ∃ A cap, v = .slice A l.length cap ∧ l.length ≤ cap ∧ cap ≤ 9223372036854775807 ∧ (l = [] ∨ ∃ b off, A = some ⟨b, off, none⟩ ∧ b < B ∧ ∀ (i : Nat) s, l[i]? = some s → w.cell? ⟨b, off + i, none⟩ = some (.string (S s)))
section
variable {w w' : World} {B B' : Nat} {v : Value} {l : List Bytes}
theorem StrsIn.keep (h : StrsIn w B v l) (hb : ∀ k, k < B → w'.heap[k]? = w.heap[k]?) (hB : B ≤ B') : StrsIn w' B' v l := by
  obtain ⟨A, cap, hv, hc, hc2, h⟩ := h
  refine ⟨A, cap, hv, hc, hc2, h.imp id ?_⟩
  rintro ⟨b, off, hA, hlt, hr⟩
  exact ⟨b, off, hA, by omega, fun i s hi => (World.cell?_of_block (w := w) (a := ⟨b, off + i, none⟩) (hb b hlt)).trans (hr i s hi)⟩
theorem StrsIn.below (h : StrsIn w B v l) (hb : Below B w w') : StrsIn w' B v l := h.keep hb.block (Nat.le_refl _)
theorem StrsIn.nil (w : World) (B : Nat) : StrsIn w B (.slice none 0 0) [] := ⟨none, 0, rfl, Nat.le_refl _, by omega, .inl rfl⟩
theorem StrsIn.form (h : StrsIn w B v l) : ∃ A cap, v = .slice A l.length cap ∧ l.length ≤ cap := by
  obtain ⟨A, cap, hv, hc, _⟩ := h; exact ⟨A, cap, hv, hc⟩
/-- The first two and the rest. -/
theorem StrsIn.two {a b : Bytes} {r : List Bytes} (h : StrsIn w B v (a :: b :: r)) :
    ∃ x off cap, v = .slice (some ⟨x, off, none⟩) (r.length + 2) cap ∧ x < B ∧ r.length + 2 ≤ cap ∧ w.cell? ⟨x, off, none⟩ = some (.string (S a)) ∧ w.cell? ⟨x, off + 1, none⟩ = some (.string (S b)) ∧
      ∃ v', (∀ W : World, (Instr.slice 110 (.slice (some ⟨x, off, none⟩) (r.length + 2) cap) (some (.int .i64 2)) none none).run Tryz.prog W = .ok v' W) ∧ StrsIn w B v' r := by
  obtain ⟨A, cap, hv, hc, hc2, h⟩ := h
  rcases h with h | ⟨x, off, hA, hlt, hr⟩
  · cases h
  · subst hA
    refine ⟨x, off, cap, hv, hlt, by simpa using hc, hr 0 a rfl, hr 1 b rfl, ?_⟩
    simp only [List.length_cons] at hc
    have hadd : (⟨x, off, none⟩ : Addr).add 2 = ⟨x, off + 2, none⟩ := by unfold Addr.add; simp
    have hsz : (Tryz.prog.info? 9).map (·.size) = some 1 := by kernel_rfl
    by_cases hcap : cap = 2
    · have hr0 : r = [] := List.eq_nil_of_length_eq_zero (by omega)
      subst hr0 hcap
      refine ⟨.slice (some ⟨x, off, none⟩) 0 0, fun W => ?_, ⟨_, 0, rfl, Nat.le_refl _, by omega, .inl rfl⟩⟩
      cases hq : Tryz.prog.info? 9 with
      | none => simp [hq] at hsz
      | some i =>
        have hi : i.size = 1 := by simpa [hq] using hsz
        simp [Instr.slice, run_underlying Tryz.underlying110, go_sem, Instr.sliceBounds, sizeOf, typeInfo, hq]
    · refine ⟨.slice (some ⟨x, off + 2, none⟩) r.length (cap - 2), fun W => ?_, ⟨_, cap - 2, rfl, by omega, by omega, .inr ⟨x, off + 2, rfl, hlt, fun i s hi => ?_⟩⟩⟩
      · have h1 : (2 : Int) ≤ (r.length : Int) + 2 := by omega
        have h3 : ¬ (cap = 2) := hcap
        cases hq : Tryz.prog.info? 9 with
        | none => simp [hq] at hsz
        | some i =>
          have hi : i.size = 1 := by simpa [hq] using hsz
          simp [Instr.slice, run_underlying Tryz.underlying110, go_sem, Instr.sliceBounds, sizeOf, typeInfo, hq, hi, h3]
          intro h; omega
      · have := hr (i + 2) s (by simpa using hi)
        rw [show off + 2 + i = off + (i + 2) by omega]; exact this
end

/-! Cells of attributes. -/
theorem atts_cells {w : World} {B : Nat} {A : Option Addr} {cap : Nat} {ats : List Att} (h : AttsIn w B (.slice A ats.length cap) ats) {ad : Addr} (hA : A = some ad) :
    ∀ j u, (ats.map attCells).flatten[j]? = some u → w.cell? (ad.add j) = some u := by
  intro j u hj
  have hl : (ats.map attCells).flatten.length = ats.length * 4 := by rw [flat_len (c := 4) (by simp [attCells_len])]; simp
  have hlt : j < ats.length * 4 := by rw [← hl]; exact (List.getElem?_eq_some_iff.1 hj).1
  obtain ⟨b, off, hA', hb, hr⟩ := h.at_ (i := j / 4) (by omega)
  rw [hA] at hA'
  cases hA'
  have hadd : (⟨b, off, none⟩ : Addr).add j = ⟨b, off + j, none⟩ := by unfold Addr.add; split <;> simp_all
  rw [hadd, show off + j = off + j / 4 * 4 + j % 4 by omega]
  refine hr (j % 4) u ?_
  have := flat_at (c := 4) (css := ats.map attCells) (by simp [attCells_len]) (i := j / 4) (j := j % 4) (cs := attCells ats[j / 4]) (by simp [show j / 4 < ats.length by omega]) (by omega)
  rw [show j / 4 * 4 + j % 4 = j by omega] at this
  rw [← this, hj]
theorem flat_one (ats : List Att) : ∀ u ∈ (ats.map attCells).flatten, u.oneCell' = true := by
  intro u hu
  rw [List.mem_flatten] at hu
  obtain ⟨cs, hcs, hu⟩ := hu
  rw [List.mem_map] at hcs
  obtain ⟨a, _, rfl⟩ := hcs
  simp only [attCells, List.mem_cons, List.not_mem_nil, or_false] at hu
  rcases hu with rfl | rfl | rfl | rfl <;> rfl
theorem flat_atts_len (ats : List Att) : (ats.map attCells).flatten.length = ats.length * 4 := by rw [flat_len (c := 4) (by simp [attCells_len])]; simp

/-- Copying attributes into a new row. -/
theorem run_copy_atts (w : World) (ty : TypeId) (g cap : Nat) (A : Option Addr) (c : Nat) (ats : List Att) (B base : Nat) (h : AttsIn w B (.slice A ats.length c) ats) (cur : Array Value) (hg : w.heap[g]? = some (.cells cur 39 (0, 0))) (hcur : cur.size = cap * 4) (hcap : ats.length ≤ cap) (hm : cap ≤ maxLen) (hb : base ≤ g) :
    ∃ w', (Builtin.copy_ #[23, 23] ty #[.slice (some ⟨g, 0, none⟩) ats.length cap, .slice A ats.length c]).run Tryz.prog w = .ok (goInt ats.length) w' ∧ AttRow w' base (.slice (some ⟨g, 0, none⟩) ats.length cap) ats ∧ Upd g w w' := by
  obtain ⟨i0, hi0, hz0, hz1, hz2⟩ := info_parts infoAtt
  have hfl := flat_atts_len ats
  have hst := run_storeCells_at Tryz.prog g 0 39 (ats.map attCells).flatten 0 cur w hg (by rw [hfl, hcur]; omega) (flat_one ats)
  have hfc : (Builtin.firstCells 4 ats.length (.slice A ats.length c)).run Tryz.prog w = .ok (ats.map attCells).flatten.toArray w := by
    cases A with
    | none =>
      have : ats = [] := by
        obtain ⟨A', c', hv, _, h⟩ := h
        rcases h with h | ⟨b, off, hA, _⟩
        · exact h
        · cases hv; cases hA
      subst this
      rw [run_firstCells_none]; rfl
    | some ad => exact run_firstCells_some w 4 ats.length ad _ _ _ hfl (atts_cells h rfl)
  refine ⟨_, ?_, ?_, upd_setRow w g ((cur.toList.take (0 + 0) ++ (ats.map attCells).flatten ++ cur.toList.drop (0 + 0 + (ats.map attCells).flatten.length)).toArray)⟩
  · simp [Builtin.copy_, run_underlying Tryz.underlying23, Builtin.lenOf, sizeOf, typeInfo, hi0, hz1, hfc, hst]
  · refine ⟨by rw [hfl], .inr ⟨g, cap, _, rfl, hb, setRow_heap w g cur _ _ _ hg, hcap, hm, ?_, ?_⟩⟩
    · simp only [List.size_toArray, List.length_append, List.length_take, List.length_drop, hfl, Array.length_toList, hcur]; omega
    · simp only [Nat.zero_add, List.take_zero, List.nil_append]
      rw [← hfl, List.take_left]
theorem atts_copy {ops : Array Oper} {rest : List Oper} {o : Oper} {a : Act} {Q : Exit → Act → World → Prop} (hgd : o.guard = none) (d s : Operand)
    (ho : o.op = .call { callee := .builtin .copy, args := #[d, s], argTypes := #[23, 23] })
    (w : World) (g cap : Nat) (A : Option Addr) (c : Nat) (ats : List Att) (B base : Nat) (hd : a.eval d = .slice (some ⟨g, 0, none⟩) ats.length cap) (hs : a.eval s = .slice A ats.length c) (h : AttsIn w B (.slice A ats.length c) ats) (cur : Array Value) (hg : w.heap[g]? = some (.cells cur 39 (0, 0))) (hcur : cur.size = cap * 4) (hcap : ats.length ≤ cap) (hm : cap ≤ maxLen) (hb : base ≤ g)
    (hK : ∀ w', AttRow w' base (.slice (some ⟨g, 0, none⟩) ats.length cap) ats → Upd g w w' → wpList Tryz.prog ops Q rest (a.put o.dst (goInt ats.length)) w') : wpList Tryz.prog ops Q (o :: rest) a w := by
  refine wpList_plain hgd fun K hK' => ?_
  obtain ⟨w', hrun, h1, h2⟩ := run_copy_atts w o.type g cap A c ats B base h cur hg hcur hcap hm hb
  unfold Oper.wp
  simp [execOp, ho, resolve, invoke, builtin, hd, hs, hrun, Result.andThen]
  exact hK' _ _ (hK w' h1 h2)

/-- Attributes out of names and values. -/
def pairsOf : List Bytes → List Att
  | a :: b :: r => ⟨[], a, b, 0⟩ :: pairsOf r
  | _ => []
theorem pairsOf_short {l : List Bytes} (h : l.length ≤ 1) : pairsOf l = [] := by
  match l, h with
  | [], _ => rfl
  | [a], _ => rfl
theorem pairsOf_len : ∀ l : List Bytes, (pairsOf l).length = l.length / 2
  | [] => rfl
  | [a] => by simp [pairsOf]
  | a :: b :: r => by rw [pairsOf, List.length_cons, pairsOf_len r, List.length_cons, List.length_cons]; omega
end Go.Proofs.YtclhdppppgjgfaaGreatDoor
set_option linter.unusedVariables false
namespace Go.Proofs.YtclhdppppgjgfaaGreatDoor
open Go.RowKit

/-- Character data. -/
def textNode (s : Bytes) : Node := .mk 1 [] [] [] [] s 0
theorem NodeV.bare (w : World) (B : Nat) (k : Int) (nm t : Bytes) (p : Int) : NodeV w B (.mk k [] nm [] [] t p) (.agg #[.int .i64 k, .string (S []), .string (S nm), .slice none 0 0, .slice none 0 0, .string (S t), .int .i64 p]) :=
  NodeV.of_form (n := .mk k [] nm [] [] t p) ⟨none, 0, rfl, Nat.le_refl _, .inl rfl⟩ ⟨none, 0, rfl, Nat.le_refl _, .inl rfl⟩

set_option maxHeartbeats 400000 in
theorem text9_any (s : Bytes) (w : World) :
    Calls Tryz.prog 52 #[.string (S s)] w fun e w' => ∃ v, e = .returned v ∧ NodeV w' w'.heap.size (textNode s) v ∧ Below w.heap.size w w' := by
  go_enter Tryz.func52, Tryz.ntmps52
  go_wp2
  exact bodyPost_ret (v := .agg #[.int .i64 1, .string ⟨#[]⟩, .string ⟨#[]⟩, .slice none 0 0, .slice none 0 0, .string (S s), .int .i64 0]) (by simp [results, Tryz.results52, go_sem]) rfl ⟨_, rfl, NodeV.bare _ _ _ _ _ _, (Below.refl _ _).alloc (Nat.le_refl _) _⟩

/-- Elem leaves out empty character data. -/
def keepKid (k : Node) : Bool := !(k.kind == 1 && k.text == [])
def elemNode (nm : Bytes) (ks : List Node) : Node := .mk 0 [] nm [] (ks.filter keepKid) [] 0
abbrev zNode : List Value := [.int .i64 0, .string ⟨#[]⟩, .string ⟨#[]⟩, .slice none 0 0, .slice none 0 0, .string ⟨#[]⟩, .int .i64 0]
theorem filter_take_yes {ks : List Node} {i : Nat} (h : i < ks.length) (hk : keepKid ks[i] = true) : (ks.take (i + 1)).filter keepKid = (ks.take i).filter keepKid ++ [ks[i]] := by
  rw [← List.take_append_getElem h, List.filter_append]; simp [hk]
theorem filter_take_no {ks : List Node} {i : Nat} (h : i < ks.length) (hk : keepKid ks[i] = false) : (ks.take (i + 1)).filter keepKid = (ks.take i).filter keepKid := by
  rw [← List.take_append_getElem h, List.filter_append]; simp [hk]
/-- The result's cell and the node that is being built. -/
structure Elm (w : World) (b : Nat) (nm : Bytes) (vk : Value) : Prop where
  res : w.heap[b]? = some (.cells zNode.toArray 26)
  nod : w.heap[b + 1]? = some (.cells #[.int .i64 0, .string ⟨#[]⟩, .string (S nm), .slice none 0 0, vk, .string ⟨#[]⟩, .int .i64 0] 26)
theorem Elm.below {w w' : World} {b : Nat} {nm : Bytes} {vk : Value} (h : Elm w b nm vk) (hb : Below w.heap.size w w') : Elm w' b nm vk :=
  ⟨(hb.block _ (heap_lt h.res)).trans h.res, (hb.block _ (heap_lt h.nod)).trans h.nod⟩

theorem Elm.put {w : World} {b : Nat} {nm : Bytes} {vk : Value} (h : Elm w b nm vk) (v : Value) : Elm (w.setCell ⟨b + 1, 4, none⟩ v) b nm v := by
  refine ⟨(Below.heap_setCell _ _ _ _ (by simp)).trans h.res, ?_⟩
  have := h.nod
  simp [World.setCell, Array.getElem?_modify, this]
theorem Elm.cell {w : World} {b : Nat} {nm : Bytes} {vk : Value} (h : Elm w b nm vk) : w.cell? ⟨b + 1, 4, none⟩ = some vk := by rw [Lib.cell_of_heap h.nod]; rfl
theorem Elm.free {w : World} {b : Nat} {nm : Bytes} {vk : Value} (h : Elm w b nm vk) : w.frozen? ⟨b + 1, 4, none⟩ = false := Lib.frozen_of_heap h.nod 4
theorem Elm.keep {w w' : World} {b : Nat} {nm : Bytes} {vk v' : Value} (h : Elm w b nm vk) (hg : Grew w vk v' w') (hl : ∀ k, vk.ownBlock = some k → b + 2 ≤ k) : Elm w' b nm vk :=
  ⟨hg.heap h.res (fun e => by have := hl _ e; omega), hg.heap h.nod (fun e => by have := hl _ e; omega)⟩

set_option maxHeartbeats 2000000 in
set_option maxRecDepth 100000 in
theorem elem9P_any (nm : Bytes) (ks : List Node) (v : Value) (w : World) (p : Nat → Prop) (hp : ∀ b, p b → b < w.heap.size) (hl : ks.length ≤ 1000000) (hv : NodesP w p v ks) :
    Calls Tryz.prog 51 #[.string (S nm), v] w fun e w' => ∃ v, e = .returned v ∧ NodePV w' (fun b => p b ∨ (w.heap.size ≤ b ∧ b < w'.heap.size)) (elemNode nm ks) v ∧ Below w.heap.size w w' := by
  obtain ⟨A, cap, rfl, hcap⟩ : ∃ A cap, v = .slice A ks.length cap ∧ ks.length ≤ cap := by obtain ⟨A, cap, h, hc, _⟩ := hv; exact ⟨A, cap, h, hc⟩
  have HV := Lib.hid hv
  have h0 : Elm ((w.alloc (.cells zNode.toArray 26)).alloc (.cells #[.int .i64 0, .string ⟨#[]⟩, .string (S nm), .slice none 0 0, .slice none 0 0, .string ⟨#[]⟩, .int .i64 0] 26)) w.heap.size nm (.slice none 0 0) :=
    ⟨(Below.heap_alloc _ _ _ (by simp)).trans (heap_alloc_new w _), by have := heap_alloc_new (w.alloc (.cells zNode.toArray 26)) (.cells #[.int .i64 0, .string ⟨#[]⟩, .string (S nm), .slice none 0 0, .slice none 0 0, .string ⟨#[]⟩, .int .i64 0] 26); simpa using this⟩
  have H0 := Lib.hid h0
  clear hv h0
  go_enter Tryz.func51, Tryz.ntmps51
  go_wp2_with fail
  go_loopw [12] (fun i12 wr => ∃ (i : Nat) (vk : Value), i ≤ ks.length ∧ i12 = .int .i64 i ∧ NodeRow wr (w.heap.size + 2) p vk ((ks.take i).filter keepKid) ∧ Elm wr w.heap.size nm vk ∧ Below w.heap.size w wr) (fun i12 _ => ks.length - (intOf i12).toNat)
  case atStart => exact ⟨0, _, Nat.zero_le _, rfl, NodeRow.nil _ _ _, H0.out, ((Below.refl _ _).alloc (Nat.le_refl _) _).alloc (by simp) _⟩
  case round =>
    obtain ⟨i, vk, hi, rfl, hrow, helm, hb⟩ := hrel
    clear H0
    have HR := Lib.hid hrow
    have HE := Lib.hid helm
    have HB := Lib.hid hb
    have hsz : w.heap.size + 2 ≤ wr.heap.size := heap_lt helm.nod
    have hpr : ∀ j, p j → j < wr.heap.size := fun j hj => by have := hp j hj; omega
    by_cases hlt : i < ks.length
    · obtain ⟨bb, off, cs, hAA, hbb, hr, hcs⟩ := HV.out.at_ hlt
      subst hAA
      have hr' : wr.rangeAt bb (off + i * 7) cs := rangeAt_keep hr (hb.block bb (hp bb hbb))
      have hcs' : NodeP wr p ks[i] cs := NodeP.keep (fun j hj => hb.block j (hp j hj)) (fun _ h => h) _ _ hcs
      have hyes := filter_take_yes hlt
      have hno := filter_take_no hlt
      have hkd : keepKid ks[i] = !(ks[i].kind == 1 && ks[i].text == []) := rfl
      have hfl : ((ks.take i).filter keepKid).length < 1000000000000 := by
        have h1 := List.length_filter_le keepKid (ks.take i)
        have h2 : (ks.take i).length ≤ i := by simp; omega
        omega
      obtain ⟨A', c', K', d', hcs2, _, _, _, _⟩ := hcs.open_
      subst hcs2
      generalize ks[i] = k at *
      generalize (ks.take i).filter keepKid = acc at *
      have HRR := Lib.hid hr'
      have hlt' : (i : Int) < ks.length := by omega
      have F1 : Hid (∀ o, Below w.heap.size w (wr.alloc o)) := fun o => hb.alloc (by omega) o
      clear hr hr' hcs hb hrow
      have step : keepKid k = true → ∀ (g c : Nat) (w' : World), NodeRow w' (w.heap.size + 2) p (.slice (some ⟨g, 0, none⟩) (acc.length + 1) c) (acc ++ [k]) → Grew (wr.alloc (.cells #[.int .i64 k.kind, .string (S k.space), .string (S k.name), .slice A' k.attrs.length c', .slice K' k.kids.length d', .string (S k.text), .int .i64 k.pos] 26)) vk (.slice (some ⟨g, 0, none⟩) (acc.length + 1) c) w' → Below (w.heap.size + 2) (wr.alloc (.cells #[.int .i64 k.kind, .string (S k.space), .string (S k.name), .slice A' k.attrs.length c', .slice K' k.kids.length d', .string (S k.text), .int .i64 k.pos] 26)) w' →
          w'.cell? ⟨w.heap.size + 1, 4, none⟩ = some vk ∧ w'.frozen? ⟨w.heap.size + 1, 4, none⟩ = false ∧
          Hid (NodeRow (w'.setCell ⟨w.heap.size + 1, 4, none⟩ (.slice (some ⟨g, 0, none⟩) (acc.length + 1) c)) (w.heap.size + 2) p (.slice (some ⟨g, 0, none⟩) (acc.length + 1) c) ((ks.take (i + 1)).filter keepKid) ∧ Elm (w'.setCell ⟨w.heap.size + 1, 4, none⟩ (.slice (some ⟨g, 0, none⟩) (acc.length + 1) c)) w.heap.size nm (.slice (some ⟨g, 0, none⟩) (acc.length + 1) c) ∧ Below w.heap.size w (w'.setCell ⟨w.heap.size + 1, 4, none⟩ (.slice (some ⟨g, 0, none⟩) (acc.length + 1) c))) := by
        intro hkk g c w' h1 h2 h3
        have he : Elm w' w.heap.size nm vk := (HE.out.below ((Below.refl _ _).alloc (Nat.le_refl _) _)).keep h2 (fun k hk => (HR.out.lt k hk).1)
        refine ⟨he.cell, he.free, ?_, he.put _, ?_⟩
        · rw [hyes hkk]
          have hg := h1.lt g rfl
          exact h1.heap (fun j hj => Below.heap_setCell _ _ _ _ (by simp [Value.ownBlock] at hj; simp; omega)) (fun j hj => Below.heap_setCell _ _ _ _ (by have := hp j hj; simp; omega))
        · exact ((F1.out _).trans (h3.mono (by omega))).setCell (p := ⟨w.heap.size + 1, 4, none⟩) (by simp) _
      cases t : (k.kind == 1)
      · have hkk : keepKid k = true := by rw [hkd, t]; rfl
        have HS := Lib.hid (step hkk)
        have hc4 : ∀ o, (wr.alloc o).cell? ⟨w.heap.size + 1, 4, none⟩ = some vk := fun o => (helm.below ((Below.refl _ _).alloc (Nat.le_refl _) o)).cell
        clear step hyes hno hkd hkk helm
        go_wp2_with (first
          | (with_reducible refine gate ?_; refine wp_load_node rfl _ rfl bb (off + i * 7) rfl _ rfl HRR.out ?_)
          | (at_builtin; refine nodes_append rfl _ _ rfl (wr.alloc _) (w.heap.size + 2) p vk acc rfl (HR.out.below ((Below.refl _ _).alloc (Nat.le_refl _) _) hpr) k _ (wr.heap.size + 1) (by simp) rfl (NodeP.keep (fun j hj => Below.heap_alloc _ _ _ (hpr j hj)) (fun _ h => h) _ _ hcs') (fun j hj => Nat.lt_of_lt_of_le (hp j hj) (by omega)) (by simp; omega) hfl ?_; intro g c w1 r1 r2 r3; obtain ⟨f1, f2, f3⟩ := HS.out g c w1 r1 r2 r3))
        go_roundw
        case rel => exact ⟨i + 1, _, by omega, by go_num, f3.out.1, f3.out.2.1, f3.out.2.2⟩
        case measure => simp [intOf]; omega
      · by_cases hx : k.text = []
        · have hkk : keepKid k = false := by rw [hkd, t, hx]; rfl
          have HNO := Lib.hid (hno hkk)
          have HAL := Lib.hid (show NodeRow (wr.alloc (.cells #[.int .i64 k.kind, .string (S k.space), .string (S k.name), .slice A' k.attrs.length c', .slice K' k.kids.length d', .string (S k.text), .int .i64 k.pos] 26)) (w.heap.size + 2) p vk acc ∧ Elm (wr.alloc (.cells #[.int .i64 k.kind, .string (S k.space), .string (S k.name), .slice A' k.attrs.length c', .slice K' k.kids.length d', .string (S k.text), .int .i64 k.pos] 26)) w.heap.size nm vk from ⟨HR.out.below ((Below.refl _ _).alloc (Nat.le_refl _) _) hpr, helm.below ((Below.refl _ _).alloc (Nat.le_refl _) _)⟩)
          rw [hx] at HAL HRR
          clear step hyes hno hkd hkk helm hcs' HE HR
          go_wp2_with (with_reducible refine gate ?_; refine wp_load_node rfl _ rfl bb (off + i * 7) rfl _ rfl HRR.out ?_)
          go_roundw
          case rel => exact ⟨i + 1, vk, by omega, by go_num, by rw [HNO.out]; exact HAL.out.1, HAL.out.2, F1.out _⟩
          case measure => simp [intOf]; omega
        · have hkk : keepKid k = true := by rw [hkd, t]; simp [hx]
          have e1 : List.isEmpty k.text = false := by cases hsp : k.text with
            | nil => exact (hx hsp).elim
            | cons x l => rfl
          have HS := Lib.hid (step hkk)
          have hc4 : ∀ o, (wr.alloc o).cell? ⟨w.heap.size + 1, 4, none⟩ = some vk := fun o => (helm.below ((Below.refl _ _).alloc (Nat.le_refl _) o)).cell
          clear step hyes hno hkd hkk helm hx
          go_wp2_with (first
            | (with_reducible refine gate ?_; refine wp_load_node rfl _ rfl bb (off + i * 7) rfl _ rfl HRR.out ?_)
            | (at_builtin; refine nodes_append rfl _ _ rfl (wr.alloc _) (w.heap.size + 2) p vk acc rfl (HR.out.below ((Below.refl _ _).alloc (Nat.le_refl _) _) hpr) k _ (wr.heap.size + 1) (by simp) rfl (NodeP.keep (fun j hj => Below.heap_alloc _ _ _ (hpr j hj)) (fun _ h => h) _ _ hcs') (fun j hj => Nat.lt_of_lt_of_le (hp j hj) (by omega)) (by simp; omega) hfl ?_; intro g c w1 r1 r2 r3; obtain ⟨f1, f2, f3⟩ := HS.out g c w1 r1 r2 r3))
          go_roundw
          case rel => exact ⟨i + 1, _, by omega, by go_num, f3.out.1, f3.out.2.1, f3.out.2.2⟩
          case measure => simp [intOf]; omega
    · obtain rfl : i = ks.length := by omega
      rw [List.take_length] at hrow
      obtain ⟨KA, kc, rfl, hkc⟩ := hrow.slice
      have hnod := helm.nod
      have hres := helm.res
      have hra := range_of_heap hnod
      have HN := Lib.hid hrow
      clear hb hrow helm HR HE
      go_wp2_with (first
        | (with_reducible refine gate ?_; refine wp_load_node rfl _ rfl (w.heap.size + 1) 0 rfl _ rfl hra ?_)
        | (with_reducible refine gate ?_; refine wp_store_node rfl _ _ rfl w.heap.size _ _ _ _ _ _ _ _ _ _ _ _ rfl rfl hres rfl ?_; intro w2 hw2 hu2))
      refine bodyPost_ret (v := .agg _) (res_whole Tryz.results51 _ _ w.heap.size rfl _ _ hw2 Tryz.underlying26 rfl nodeSize) rfl ⟨_, rfl, ?_, ?_⟩
      · have hw : w.heap.size < w2.heap.size := heap_lt hw2
        have hsz2 := hu2.size
        exact NodePV.of_form (n := elemNode nm ks) ⟨none, 0, rfl, Nat.le_refl _, .inl rfl⟩ ((HN.out.heap (fun j hj => by have := HN.out.lt j hj; exact hu2.block j (by omega) (by omega)) (fun j hj => hu2.block j (hpr j hj) (by have := hp j hj; omega))).nodesP (fun j hj => .inl hj) (fun j hj => .inr (by have := HN.out.lt j hj; omega)))
      · exact HB.out.trans (hu2.below (Nat.le_refl _) (by omega))
theorem elem9_any (nm : Bytes) (ks : List Node) (v : Value) (w : World) (hl : ks.length ≤ 1000000) (hv : NodesIn w w.heap.size v ks) :
    Calls Tryz.prog 51 #[.string (S nm), v] w fun e w' => ∃ v, e = .returned v ∧ NodeV w' w'.heap.size (elemNode nm ks) v ∧ Below w.heap.size w w' := by
  refine (elem9P_any nm ks v w (· < w.heap.size) (fun _ h => h) hl hv.toP).mono ?_
  rintro e w' ⟨v', rfl, h1, h2⟩
  exact ⟨v', rfl, h1.toV (fun k hk => hk.elim (fun h => Nat.lt_of_lt_of_le h h2.size) (fun h => h.2)), h2⟩
end Go.Proofs.YtclhdppppgjgfaaGreatDoor
