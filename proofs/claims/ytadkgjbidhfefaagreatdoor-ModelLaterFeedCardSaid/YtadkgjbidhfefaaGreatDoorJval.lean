/-
  JSON values: what a value is, and how it lies in memory. No function of the program.
-/
import Derived.Test.YtadkgjbidhfefaaGreatDoorElt
import Derived.Test.YtadkgjbidhfefaaGreatDoorElt2
import Derived.StillTailTactics
set_option linter.unusedVariables false
namespace Go.Proofs.YtadkgjbidhfefaaGreatDoor
open Go.RowKit

mutual
inductive JV where
  | mk (kind : Int) (b : Bool) (n : Int) (s : Bytes) (items : List JV) (mems : List JM) (pos : Int)
inductive JM where
  | mk (key : Bytes) (val : JV) (pos : Int)
end
namespace JV
def kind : JV → Int | mk k _ _ _ _ _ _ => k
def b : JV → Bool | mk _ b _ _ _ _ _ => b
def n : JV → Int | mk _ _ n _ _ _ _ => n
def s : JV → Bytes | mk _ _ _ s _ _ _ => s
def items : JV → List JV | mk _ _ _ _ l _ _ => l
def mems : JV → List JM | mk _ _ _ _ _ l _ => l
def pos : JV → Int | mk _ _ _ _ _ _ p => p
end JV
namespace JM
def key : JM → Bytes | mk k _ _ => k
def val : JM → JV | mk _ v _ => v
def pos : JM → Int | mk _ _ p => p
end JM

mutual
/-- The cells of a value; what it leads to lies in blocks that satisfy p. -/
def ValP (w : World) (p : Nat → Prop) : JV → List Value → Prop
  | .mk k b n s is ms q, cs => ∃ IA ic MA mc, cs = [.int .i64 k, .bool b, .int .i64 n, .string (S s), .slice IA is.length ic, .slice MA ms.length mc, .int .i64 q] ∧ is.length ≤ ic ∧ ms.length ≤ mc ∧
      (is = [] ∨ ∃ b off, IA = some ⟨b, off, none⟩ ∧ p b ∧ ItsP w p b off is) ∧ (ms = [] ∨ ∃ b off, MA = some ⟨b, off, none⟩ ∧ p b ∧ MesP w p b off ms)
/-- Values one behind the other. -/
def ItsP (w : World) (p : Nat → Prop) (b : Nat) : Nat → List JV → Prop
  | _, [] => True
  | off, v :: l => (∃ cs, ValP w p v cs ∧ w.rangeAt b off cs) ∧ ItsP w p b (off + 7) l
/-- Members one behind the other. -/
def MesP (w : World) (p : Nat → Prop) (b : Nat) : Nat → List JM → Prop
  | _, [] => True
  | off, .mk k v q :: l => (∃ cs, ValP w p v cs ∧ w.rangeAt b off (.string (S k) :: (cs ++ [.int .i64 q]))) ∧ MesP w p b (off + 9) l
end
/-- The cells of a member. -/
def MemP (w : World) (p : Nat → Prop) (m : JM) (cs : List Value) : Prop := ∃ vs, ValP w p m.val vs ∧ cs = .string (S m.key) :: (vs ++ [.int .i64 m.pos])

section
variable {w w' : World} {p p' : Nat → Prop} {b off : Nat}
mutual
theorem ValP.keep (hb : ∀ k, p k → w'.heap[k]? = w.heap[k]?) (hp : ∀ k, p k → p' k) : ∀ (n : JV) (cs : List Value), ValP w p n cs → ValP w' p' n cs
  | .mk k b n s is ms q, cs, h => by
    rw [ValP] at h ⊢
    obtain ⟨IA, ic, MA, mc, hcs, h1, h2, h3, h4⟩ := h
    refine ⟨IA, ic, MA, mc, hcs, h1, h2, h3.imp id ?_, h4.imp id ?_⟩
    · rintro ⟨b, off, hA, hlt, hr⟩
      exact ⟨b, off, hA, hp b hlt, ItsP.keep hb hp hlt is off hr⟩
    · rintro ⟨b, off, hA, hlt, hr⟩
      exact ⟨b, off, hA, hp b hlt, MesP.keep hb hp hlt ms off hr⟩
theorem ItsP.keep (hb : ∀ k, p k → w'.heap[k]? = w.heap[k]?) (hp : ∀ k, p k → p' k) {b : Nat} (hlt : p b) : ∀ (l : List JV) (off : Nat), ItsP w p b off l → ItsP w' p' b off l
  | [], _, _ => by rw [ItsP]; trivial
  | v :: l, off, h => by
    rw [ItsP] at h ⊢
    obtain ⟨⟨cs, h1, h2⟩, h3⟩ := h
    exact ⟨⟨cs, ValP.keep hb hp v cs h1, rangeAt_keep h2 (hb b hlt)⟩, ItsP.keep hb hp hlt l (off + 7) h3⟩
theorem MesP.keep (hb : ∀ k, p k → w'.heap[k]? = w.heap[k]?) (hp : ∀ k, p k → p' k) {b : Nat} (hlt : p b) : ∀ (l : List JM) (off : Nat), MesP w p b off l → MesP w' p' b off l
  | [], _, _ => by rw [MesP]; trivial
  | .mk k v q :: l, off, h => by
    rw [MesP] at h ⊢
    obtain ⟨⟨cs, h1, h2⟩, h3⟩ := h
    exact ⟨⟨cs, ValP.keep hb hp v cs h1, rangeAt_keep h2 (hb b hlt)⟩, MesP.keep hb hp hlt l (off + 9) h3⟩
end
theorem MemP.keep (hb : ∀ k, p k → w'.heap[k]? = w.heap[k]?) (hp : ∀ k, p k → p' k) {m : JM} {cs : List Value} (h : MemP w p m cs) : MemP w' p' m cs := by
  obtain ⟨vs, h1, h2⟩ := h
  exact ⟨vs, ValP.keep hb hp _ _ h1, h2⟩
theorem ItsP.at_ : ∀ {l : List JV} {off : Nat}, ItsP w p b off l → ∀ {i : Nat} {k : JV}, l[i]? = some k → ∃ cs, ValP w p k cs ∧ w.rangeAt b (off + i * 7) cs
  | [], off, _, i, k, hi => by simp at hi
  | x :: l, off, h, i, k, hi => by
    rw [ItsP] at h
    cases i with
    | zero => simp at hi; subst hi; simpa using h.1
    | succ i =>
      obtain ⟨cs, h1, h2⟩ := ItsP.at_ h.2 (i := i) (by simpa using hi)
      exact ⟨cs, h1, by rw [show off + (i + 1) * 7 = off + 7 + i * 7 by omega]; exact h2⟩
theorem ItsP.of_at : ∀ {l : List JV} {off : Nat}, (∀ (i : Nat) (k : JV), l[i]? = some k → ∃ cs, ValP w p k cs ∧ w.rangeAt b (off + i * 7) cs) → ItsP w p b off l
  | [], off, _ => by rw [ItsP]; trivial
  | x :: l, off, h => by
    rw [ItsP]
    refine ⟨by simpa using h 0 x rfl, ItsP.of_at fun i k hi => ?_⟩
    have := h (i + 1) k (by simpa using hi)
    rw [show off + (i + 1) * 7 = off + 7 + i * 7 by omega] at this
    exact this
theorem MesP.at_ : ∀ {l : List JM} {off : Nat}, MesP w p b off l → ∀ {i : Nat} {k : JM}, l[i]? = some k → ∃ cs, MemP w p k cs ∧ w.rangeAt b (off + i * 9) cs
  | [], off, _, i, k, hi => by simp at hi
  | .mk ke v q :: l, off, h, i, k, hi => by
    rw [MesP] at h
    cases i with
    | zero =>
      simp at hi; subst hi
      obtain ⟨⟨cs, h1, h2⟩, _⟩ := h
      exact ⟨_, ⟨cs, h1, rfl⟩, by simpa [JM.key, JM.pos] using h2⟩
    | succ i =>
      obtain ⟨cs, h1, h2⟩ := MesP.at_ h.2 (i := i) (by simpa using hi)
      exact ⟨cs, h1, by rw [show off + (i + 1) * 9 = off + 9 + i * 9 by omega]; exact h2⟩
theorem MesP.of_at : ∀ {l : List JM} {off : Nat}, (∀ (i : Nat) (k : JM), l[i]? = some k → ∃ cs, MemP w p k cs ∧ w.rangeAt b (off + i * 9) cs) → MesP w p b off l
  | [], off, _ => by rw [MesP]; trivial
  | .mk ke v q :: l, off, h => by
    rw [MesP]
    refine ⟨?_, MesP.of_at fun i k hi => ?_⟩
    · obtain ⟨cs, ⟨vs, h1, h2⟩, h3⟩ := h 0 _ rfl
      subst h2
      exact ⟨vs, h1, by simpa [JM.key, JM.pos] using h3⟩
    · have := h (i + 1) k (by simpa using hi)
      rw [show off + (i + 1) * 9 = off + 9 + i * 9 by omega] at this
      exact this

/-! Values and members as elements of rows. -/
theorem ValP.cells {n : JV} {cs : List Value} (h : ValP w p n cs) : ∃ IA ic MA mc, cs = [.int .i64 n.kind, .bool n.b, .int .i64 n.n, .string (S n.s), .slice IA n.items.length ic, .slice MA n.mems.length mc, .int .i64 n.pos] := by
  cases n with
  | mk k b n s is ms q =>
    rw [ValP] at h
    obtain ⟨IA, ic, MA, mc, hcs, _⟩ := h
    exact ⟨IA, ic, MA, mc, hcs⟩
theorem ValP.len {n : JV} {cs : List Value} (h : ValP w p n cs) : cs.length = 7 := by
  obtain ⟨IA, ic, MA, mc, hcs⟩ := h.cells; rw [hcs]; rfl
theorem ValP.one {n : JV} {cs : List Value} (h : ValP w p n cs) : ∀ u ∈ cs, u.oneCell' = true := by
  obtain ⟨IA, ic, MA, mc, hcs⟩ := h.cells
  subst hcs
  simp [Value.oneCell']
theorem MemP.cells {m : JM} {cs : List Value} (h : MemP w p m cs) : ∃ IA ic MA mc, cs = [.string (S m.key), .int .i64 m.val.kind, .bool m.val.b, .int .i64 m.val.n, .string (S m.val.s), .slice IA m.val.items.length ic, .slice MA m.val.mems.length mc, .int .i64 m.val.pos, .int .i64 m.pos] := by
  obtain ⟨vs, h1, h2⟩ := h
  obtain ⟨IA, ic, MA, mc, hcs⟩ := h1.cells
  subst hcs
  exact ⟨IA, ic, MA, mc, h2⟩
theorem MemP.len {m : JM} {cs : List Value} (h : MemP w p m cs) : cs.length = 9 := by
  obtain ⟨IA, ic, MA, mc, hcs⟩ := h.cells; rw [hcs]; rfl
theorem MemP.one {m : JM} {cs : List Value} (h : MemP w p m cs) : ∀ u ∈ cs, u.oneCell' = true := by
  obtain ⟨IA, ic, MA, mc, hcs⟩ := h.cells
  subst hcs
  simp [Value.oneCell']
end
abbrev zValV : Value := .agg #[.int .i64 0, .bool false, .int .i64 0, .string ByteArray.empty, .slice none 0 0, .slice none 0 0, .int .i64 0]
theorem infoVal : (Tryz.prog.info? 60).map (fun i => (i.zero, i.size, i.bytes)) = some (some zValV, 7, 96) := by kernel_rfl
theorem infoMem : (Tryz.prog.info? 108).map (fun i => (i.zero, i.size, i.bytes)) = some (some (.agg #[.string ByteArray.empty, .int .i64 0, .bool false, .int .i64 0, .string ByteArray.empty, .slice none 0 0, .slice none 0 0, .int .i64 0, .int .i64 0]), 9, 120) := by kernel_rfl
abbrev valE : Elt JV where
  T := 60
  TS := 57
  c := 7
  bytes := 96
  zero := zValV
  El := fun w p n cs => ValP w p n cs
theorem valE_ok : valE.Ok where
  info := infoVal
  list := Tryz.underlying57
  zc := rfl
  pos := by decide
  small := by decide
  keep := fun {w w' p p' a cs} h hb hp => ValP.keep hb hp a cs h
  len := fun h => h.len
  one := fun h => h.one
abbrev memE : Elt JM where
  T := 108
  TS := 58
  c := 9
  bytes := 120
  zero := .agg #[.string ByteArray.empty, .int .i64 0, .bool false, .int .i64 0, .string ByteArray.empty, .slice none 0 0, .slice none 0 0, .int .i64 0, .int .i64 0]
  El := fun w p n cs => MemP w p n cs
theorem memE_ok : memE.Ok where
  info := infoMem
  list := Tryz.underlying58
  zc := rfl
  pos := by decide
  small := by decide
  keep := fun {w w' p p' a cs} h hb hp => MemP.keep hb hp h
  len := fun h => h.len
  one := fun h => h.one

section
variable {w w' : World} {p p' : Nat → Prop}
/-- A value's cells, told with its two slices. -/
theorem ValP.open_ {n : JV} {cs : List Value} (h : ValP w p n cs) : ∃ IA ic MA mc, cs = [.int .i64 n.kind, .bool n.b, .int .i64 n.n, .string (S n.s), .slice IA n.items.length ic, .slice MA n.mems.length mc, .int .i64 n.pos] ∧
    ElsP valE w p (.slice IA n.items.length ic) n.items ∧ ElsP memE w p (.slice MA n.mems.length mc) n.mems ∧ n.items.length ≤ ic ∧ n.mems.length ≤ mc := by
  cases n with
  | mk k b n s is ms q =>
    rw [ValP] at h
    obtain ⟨IA, ic, MA, mc, hcs, h1, h2, h3, h4⟩ := h
    refine ⟨IA, ic, MA, mc, hcs, ⟨IA, ic, rfl, h1, h3.imp id ?_⟩, ⟨MA, mc, rfl, h2, h4.imp id ?_⟩, h1, h2⟩
    · rintro ⟨b, off, hA, hp, hr⟩
      exact ⟨b, off, hA, hp, fun i a hi => hr.at_ hi⟩
    · rintro ⟨b, off, hA, hp, hr⟩
      exact ⟨b, off, hA, hp, fun i a hi => hr.at_ hi⟩
theorem ValP.of_open {n : JV} {IA MA : Option Addr} {ic mc : Nat} (hi : ElsP valE w p (.slice IA n.items.length ic) n.items) (hm : ElsP memE w p (.slice MA n.mems.length mc) n.mems) :
    ValP w p n [.int .i64 n.kind, .bool n.b, .int .i64 n.n, .string (S n.s), .slice IA n.items.length ic, .slice MA n.mems.length mc, .int .i64 n.pos] := by
  cases n with
  | mk k b n s is ms q =>
    rw [ValP]
    obtain ⟨A1, c1, e1, h1, h2⟩ := hi
    obtain ⟨A2, c2, e2, h3, h4⟩ := hm
    cases e1
    cases e2
    refine ⟨IA, ic, MA, mc, rfl, h1, h3, h2.imp id ?_, h4.imp id ?_⟩
    · rintro ⟨b, off, hA, hp, hr⟩
      exact ⟨b, off, hA, hp, ItsP.of_at hr⟩
    · rintro ⟨b, off, hA, hp, hr⟩
      exact ⟨b, off, hA, hp, MesP.of_at hr⟩
/-- A value as a value of the model. -/
def ValV (w : World) (p : Nat → Prop) (n : JV) (v : Value) : Prop := ∃ cs : List Value, v = .agg cs.toArray ∧ ValP w p n cs
theorem ValV.keep {n : JV} {v : Value} (h : ValV w p n v) (hb : ∀ k, p k → w'.heap[k]? = w.heap[k]?) (hp : ∀ k, p k → p' k) : ValV w' p' n v := by
  obtain ⟨cs, hv, hn⟩ := h
  exact ⟨cs, hv, ValP.keep hb hp n cs hn⟩
theorem ValV.open_ {n : JV} {v : Value} (h : ValV w p n v) : ∃ IA ic MA mc, v = .agg #[.int .i64 n.kind, .bool n.b, .int .i64 n.n, .string (S n.s), .slice IA n.items.length ic, .slice MA n.mems.length mc, .int .i64 n.pos] ∧
    ElsP valE w p (.slice IA n.items.length ic) n.items ∧ ElsP memE w p (.slice MA n.mems.length mc) n.mems ∧ n.items.length ≤ ic ∧ n.mems.length ≤ mc := by
  obtain ⟨cs, hv, hn⟩ := h
  obtain ⟨IA, ic, MA, mc, hcs, h⟩ := hn.open_
  exact ⟨IA, ic, MA, mc, by rw [hv, hcs], h⟩
/-- The box of a value that came in by value. -/
abbrev valBox (n : JV) (IA : Option Addr) (ic : Nat) (MA : Option Addr) (mc : Nat) : Obj :=
  .cells #[.int .i64 n.kind, .bool n.b, .int .i64 n.n, .string (S n.s), .slice IA n.items.length ic, .slice MA n.mems.length mc, .int .i64 n.pos] 60
abbrev memBox (m : JM) (IA : Option Addr) (ic : Nat) (MA : Option Addr) (mc : Nat) : Obj :=
  .cells #[.string (S m.key), .int .i64 m.val.kind, .bool m.val.b, .int .i64 m.val.n, .string (S m.val.s), .slice IA m.val.items.length ic, .slice MA m.val.mems.length mc, .int .i64 m.val.pos, .int .i64 m.pos] 108
theorem valSize : (Tryz.prog.info? 60).map (·.size) = some 7 := by kernel_rfl
theorem memSize : (Tryz.prog.info? 108).map (·.size) = some 9 := by kernel_rfl
end
theorem wp_load_val {ops : Array Oper} {rest : List Oper} {o : Oper} {a : Act} {w : World} {Q : Exit → Act → World → Prop} (hgd : o.guard = none) (x : Operand) (ho : o.op = .load 60 x)
    (b off : Nat) (hx : a.eval x = .pointer (some ⟨b, off, none⟩)) (cs : List Value) (hl : cs.length = 7) (hr : w.rangeAt b off cs)
    (h : wpList Tryz.prog ops Q rest (a.put o.dst (.agg cs.toArray)) w) : wpList Tryz.prog ops Q (o :: rest) a w :=
  wpList_load_mid hgd 60 x ho b off hx cs _ hr Tryz.underlying60 rfl (by rw [hl]; exact valSize) h
theorem wp_load_mem {ops : Array Oper} {rest : List Oper} {o : Oper} {a : Act} {w : World} {Q : Exit → Act → World → Prop} (hgd : o.guard = none) (x : Operand) (ho : o.op = .load 108 x)
    (b off : Nat) (hx : a.eval x = .pointer (some ⟨b, off, none⟩)) (cs : List Value) (hl : cs.length = 9) (hr : w.rangeAt b off cs)
    (h : wpList Tryz.prog ops Q rest (a.put o.dst (.agg cs.toArray)) w) : wpList Tryz.prog ops Q (o :: rest) a w :=
  wpList_load_mid hgd 108 x ho b off hx cs _ hr Tryz.underlying108 rfl (by rw [hl]; exact memSize) h
theorem still_load_val {ops : Array Oper} {rest : List Oper} {o : Oper} {a : Act} {w : World} {Q : Act → Prop} (hgd : o.guard = none) (x : Operand) (ho : o.op = .load 60 x)
    (b off : Nat) (hx : a.eval x = .pointer (some ⟨b, off, none⟩)) (cs : List Value) (hl : cs.length = 7) (hr : w.rangeAt b off cs)
    (h : wpStill Tryz.prog ops w Q rest (a.put o.dst (.agg cs.toArray))) : wpStill Tryz.prog ops w Q (o :: rest) a := by
  refine wpStill_step fun K hK => ?_
  rw [if_pos (by simp [Region.wanted, hgd])]
  unfold Oper.still execOp
  simp only [ho, hx, Instr.loadAt, Instr.sureAddr, Sem.run_bind, Sem.run_pure, Result.andThen_ok, run_loadVar_mid w b off 60 cs _ hr Tryz.underlying60 rfl (by rw [hl]; exact valSize)]
  rw [Oper.stillUpon_value]
  exact hK _ h
end Go.Proofs.YtadkgjbidhfefaaGreatDoor
