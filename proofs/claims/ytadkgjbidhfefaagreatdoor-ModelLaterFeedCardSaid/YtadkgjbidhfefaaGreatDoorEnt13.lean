/-
  Chapter 13: entries, feeds and strings, and how they lie in memory. No function of the program.
-/
import Derived.Test.YtadkgjbidhfefaaGreatDoorElt2
import Derived.StillTailTactics
set_option linter.unusedVariables false
namespace Go.Proofs.YtadkgjbidhfefaaGreatDoor
open Go.RowKit

structure En where
  id : Bytes
  title : Bytes
  link : Bytes
  content : Bytes
  upd : Int
structure Fe where
  path : List Bytes
  id : Bytes
  title : Bytes
  link : Bytes
  upd : Int
  ents : List En

/-! Strings. -/
abbrev strE : Elt Bytes where
  T := 9
  TS := 22
  c := 1
  bytes := 16
  zero := .string ByteArray.empty
  El := fun _ _ s cs => cs = [.string (S s)]
theorem infoStr : (Tryz.prog.info? 9).map (fun i => (i.zero, i.size, i.bytes)) = some (some (.string ByteArray.empty), 1, 16) := by kernel_rfl
theorem strE_ok : strE.Ok where
  info := infoStr
  list := Tryz.underlying22
  zc := rfl
  pos := by decide
  small := by decide
  keep := fun h _ _ => h
  len := fun h => by rw [h]; rfl
  one := fun h => by rw [h]; intro u hu; simp at hu; subst hu; rfl
/-- The cells of the strings of a slice. -/
theorem strs_cell {w : World} {p : Nat → Prop} {A : Option Addr} {n cap i : Nat} {l : List Bytes} (h : ElsP strE w p (.slice A n cap) l) (hi : i < l.length) :
    ∃ b off, A = some ⟨b, off, none⟩ ∧ p b ∧ w.cell? ⟨b, off + i, none⟩ = some (.string (S l[i])) := by
  obtain ⟨b, off, cs, hA, hp, hr, hcs⟩ := h.at_ hi
  refine ⟨b, off, hA, hp, ?_⟩
  have hcs' : cs = [.string (S l[i])] := hcs
  subst hcs'
  have := hr 0 _ rfl
  simpa using this

/-! Entries. -/
abbrev entCells (e : En) : List Value := [.string (S e.id), .string (S e.title), .string (S e.link), .string (S e.content), .int .i64 e.upd]
abbrev zEnt : Value := .agg #[.string ByteArray.empty, .string ByteArray.empty, .string ByteArray.empty, .string ByteArray.empty, .int .i64 0]
theorem infoEnt : (Tryz.prog.info? 39).map (fun i => (i.zero, i.size, i.bytes)) = some (some zEnt, 5, 72) := by kernel_rfl
theorem entSize : (Tryz.prog.info? 39).map (·.size) = some 5 := by kernel_rfl
abbrev entE : Elt En where
  T := 39
  TS := 23
  c := 5
  bytes := 72
  zero := zEnt
  El := fun _ _ e cs => cs = entCells e
theorem entE_ok : entE.Ok where
  info := infoEnt
  list := Tryz.underlying23
  zc := rfl
  pos := by decide
  small := by decide
  keep := fun h _ _ => h
  len := fun h => by rw [h]; rfl
  one := fun h => by rw [h]; intro u hu; simp [entCells] at hu; rcases hu with rfl | rfl | rfl | rfl | rfl <;> rfl
abbrev entV (e : En) : Value := .agg #[.string (S e.id), .string (S e.title), .string (S e.link), .string (S e.content), .int .i64 e.upd]
abbrev entBox (e : En) : Obj := .cells #[.string (S e.id), .string (S e.title), .string (S e.link), .string (S e.content), .int .i64 e.upd] 39
theorem ents_at {w : World} {p : Nat → Prop} {A : Option Addr} {n cap i : Nat} {l : List En} (h : ElsP entE w p (.slice A n cap) l) (hi : i < l.length) :
    ∃ b off, A = some ⟨b, off, none⟩ ∧ p b ∧ w.rangeAt b (off + i * 5) (entCells l[i]) := by
  obtain ⟨b, off, cs, hA, hp, hr, hcs⟩ := h.at_ hi
  have hcs' : cs = entCells l[i] := hcs
  subst hcs'
  exact ⟨b, off, hA, hp, hr⟩
theorem wp_load_ent {ops : Array Oper} {rest : List Oper} {o : Oper} {a : Act} {w : World} {Q : Exit → Act → World → Prop} (hgd : o.guard = none) (x : Operand) (ho : o.op = .load 39 x)
    (b off : Nat) (hx : a.eval x = .pointer (some ⟨b, off, none⟩)) (cs : List Value) (hl : cs.length = 5) (hr : w.rangeAt b off cs)
    (h : wpList Tryz.prog ops Q rest (a.put o.dst (.agg cs.toArray)) w) : wpList Tryz.prog ops Q (o :: rest) a w :=
  wpList_load_mid hgd 39 x ho b off hx cs _ hr Tryz.underlying39 rfl (by rw [hl]; exact entSize) h

/-! Feeds. -/
/-- The cells of a feed; what it leads to lies in blocks that satisfy p. -/
def FeeP (w : World) (p : Nat → Prop) (f : Fe) (cs : List Value) : Prop :=
  ∃ PA pc EA ec, cs = [.slice PA f.path.length pc, .string (S f.id), .string (S f.title), .string (S f.link), .int .i64 f.upd, .slice EA f.ents.length ec] ∧
    ElsP strE w p (.slice PA f.path.length pc) f.path ∧ ElsP entE w p (.slice EA f.ents.length ec) f.ents ∧ f.path.length ≤ pc ∧ f.ents.length ≤ ec
section
variable {w w' : World} {p p' : Nat → Prop} {f : Fe} {cs : List Value}
theorem FeeP.keep (h : FeeP w p f cs) (hb : ∀ k, p k → w'.heap[k]? = w.heap[k]?) (hp : ∀ k, p k → p' k) : FeeP w' p' f cs := by
  obtain ⟨PA, pc, EA, ec, hcs, h1, h2, h3, h4⟩ := h
  exact ⟨PA, pc, EA, ec, hcs, h1.keep strE_ok hb hp, h2.keep entE_ok hb hp, h3, h4⟩
theorem FeeP.len (h : FeeP w p f cs) : cs.length = 6 := by
  obtain ⟨PA, pc, EA, ec, rfl, _⟩ := h; rfl
theorem FeeP.one (h : FeeP w p f cs) : ∀ u ∈ cs, u.oneCell' = true := by
  obtain ⟨PA, pc, EA, ec, rfl, _⟩ := h
  simp [Value.oneCell']
end
abbrev zFee : Value := .agg #[.slice none 0 0, .string ByteArray.empty, .string ByteArray.empty, .string ByteArray.empty, .int .i64 0, .slice none 0 0]
theorem infoFee : (Tryz.prog.info? 25).map (fun i => (i.zero, i.size, i.bytes)) = some (some zFee, 6, 104) := by kernel_rfl
theorem feeSize : (Tryz.prog.info? 25).map (·.size) = some 6 := by kernel_rfl
abbrev feeE : Elt Fe where
  T := 25
  TS := 33
  c := 6
  bytes := 104
  zero := zFee
  El := FeeP
theorem feeE_ok : feeE.Ok where
  info := infoFee
  list := Tryz.underlying33
  zc := rfl
  pos := by decide
  small := by decide
  keep := fun h hb hp => h.keep hb hp
  len := fun h => h.len
  one := fun h => h.one
abbrev feeBox (f : Fe) (PA : Option Addr) (pc : Nat) (EA : Option Addr) (ec : Nat) : Obj :=
  .cells #[.slice PA f.path.length pc, .string (S f.id), .string (S f.title), .string (S f.link), .int .i64 f.upd, .slice EA f.ents.length ec] 25
theorem wp_load_fee {ops : Array Oper} {rest : List Oper} {o : Oper} {a : Act} {w : World} {Q : Exit → Act → World → Prop} (hgd : o.guard = none) (x : Operand) (ho : o.op = .load 25 x)
    (b off : Nat) (hx : a.eval x = .pointer (some ⟨b, off, none⟩)) (cs : List Value) (hl : cs.length = 6) (hr : w.rangeAt b off cs)
    (h : wpList Tryz.prog ops Q rest (a.put o.dst (.agg cs.toArray)) w) : wpList Tryz.prog ops Q (o :: rest) a w :=
  wpList_load_mid hgd 25 x ho b off hx cs _ hr Tryz.underlying25 rfl (by rw [hl]; exact feeSize) h
/-- A feed as a value of the model. -/
def FeeV (w : World) (p : Nat → Prop) (f : Fe) (v : Value) : Prop := ∃ cs : List Value, v = .agg cs.toArray ∧ FeeP w p f cs
section
variable {w w' : World} {p p' : Nat → Prop} {f : Fe} {v : Value}
theorem FeeV.keep (h : FeeV w p f v) (hb : ∀ k, p k → w'.heap[k]? = w.heap[k]?) (hp : ∀ k, p k → p' k) : FeeV w' p' f v := by
  obtain ⟨cs, hv, hn⟩ := h
  exact ⟨cs, hv, hn.keep hb hp⟩
theorem FeeV.open_ (h : FeeV w p f v) : ∃ PA pc EA ec, v = .agg #[.slice PA f.path.length pc, .string (S f.id), .string (S f.title), .string (S f.link), .int .i64 f.upd, .slice EA f.ents.length ec] ∧
    ElsP strE w p (.slice PA f.path.length pc) f.path ∧ ElsP entE w p (.slice EA f.ents.length ec) f.ents ∧ f.path.length ≤ pc ∧ f.ents.length ≤ ec := by
  obtain ⟨cs, hv, PA, pc, EA, ec, hcs, h⟩ := h
  exact ⟨PA, pc, EA, ec, by rw [hv, hcs], h⟩
end
theorem cells5 {w : World} {g : Nat} {c0 c1 c2 c3 c4 : Value} {t : TypeId} {fr : Nat × Nat} (h : w.heap[g]? = some (.cells #[c0, c1, c2, c3, c4] t fr)) :
    w.cell? ⟨g, 0, none⟩ = some c0 ∧ w.cell? ⟨g, 1, none⟩ = some c1 ∧ w.cell? ⟨g, 2, none⟩ = some c2 ∧ w.cell? ⟨g, 3, none⟩ = some c3 ∧ w.cell? ⟨g, 4, none⟩ = some c4 := by
  refine ⟨?_, ?_, ?_, ?_, ?_⟩ <;> (rw [Lib.cell_of_heap h]; rfl)
theorem cells6 {w : World} {g : Nat} {c0 c1 c2 c3 c4 c5 : Value} {t : TypeId} {fr : Nat × Nat} (h : w.heap[g]? = some (.cells #[c0, c1, c2, c3, c4, c5] t fr)) :
    w.cell? ⟨g, 0, none⟩ = some c0 ∧ w.cell? ⟨g, 1, none⟩ = some c1 ∧ w.cell? ⟨g, 2, none⟩ = some c2 ∧ w.cell? ⟨g, 3, none⟩ = some c3 ∧ w.cell? ⟨g, 4, none⟩ = some c4 ∧ w.cell? ⟨g, 5, none⟩ = some c5 := by
  refine ⟨?_, ?_, ?_, ?_, ?_, ?_⟩ <;> (rw [Lib.cell_of_heap h]; rfl)
end Go.Proofs.YtadkgjbidhfefaaGreatDoor
