/-
  Several texts in one file, in build order:
  - JSON values: what a value is, and how it lies in memory. No function of the program.
  - Chapters 11 and 12, plain: sizes, depth, weight, equality and validity of JSON values; their canonical text. No function of the program.
  - Chapter 12, plain: the canonical text of a JSON value; two valid values with the same text are equal apart from offsets. No function of the program.
  - Walk of chapter 10: the program's escape of a byte.
  - Walks of chapter 10, the program: sequence.
  - Walks of chapter 1: which numbers are characters, which may stand in names (program and reference).
  - Walks of chapter 1: the tables of the name characters.
  - Walks of chapter 1: decoding, encoding, checking (program and reference).
-/
import Derived.Test.YthlppbpccldikaaDoorH3
import Derived.StillTailTactics
import Derived.Lib.ValidU
import Derived.Lib.ItoaNum
import Derived.Test.YthlppbpccldikaaDoorH2
import Derived.WalkSpells
import Derived.WalkLawsBesides
import Derived.Laws.Rows
import Derived.Deep.DeepCutAuto
import Derived.Shelf.Unicode.DecodeAny
set_option linter.unusedVariables false
namespace Go.Proofs.YthlppbpccldikaaDoor
open Go.RowKit

mutual
inductive JV where
  | mk (kind : Int) (b : Bool) (n : Int) (s : Bytes) (items : List JV) (mems : List JM) (pos : Int)
inductive JM where
  | mk (key : Bytes) (val : JV) (pos : Int)
end
namespace JV
def kind : JV → Int | mk k _ _ _ _ _ _ => k
def b : JV → Bool | mk _ b _ _ _ _ _ => b
def n : JV → Int | mk _ _ n _ _ _ _ => n
def s : JV → Bytes | mk _ _ _ s _ _ _ => s
def items : JV → List JV | mk _ _ _ _ l _ _ => l
def mems : JV → List JM | mk _ _ _ _ _ l _ => l
def pos : JV → Int | mk _ _ _ _ _ _ p => p
end JV
namespace JM
def key : JM → Bytes | mk k _ _ => k
def val : JM → JV | mk _ v _ => v
def pos : JM → Int | mk _ _ p => p
end JM

mutual
/-- The cells of a value; what it leads to lies in blocks that satisfy p. -/
def ValP (w : World) (p : Nat → Prop) : JV → List Value → Prop
  | .mk k b n s is ms q, cs => ∃ IA ic MA mc, cs = [.int .i64 k, .bool b, .int .i64 n, .string (S s), .slice IA is.length ic, .slice MA ms.length mc, .int .i64 q] ∧ is.length ≤ ic ∧ ms.length ≤ mc ∧
      (is = [] ∨ ∃ b off, IA = some ⟨b, off, none⟩ ∧ p b ∧ ItsP w p b off is) ∧ (ms = [] ∨ ∃ b off, MA = some ⟨b, off, none⟩ ∧ p b ∧ MesP w p b off ms)
/-- Values one behind the other. -/
def ItsP (w : World) (p : Nat → Prop) (b : Nat) : Nat → List JV → Prop
  | _, [] => True
  | off, v :: l => (∃ cs, ValP w p v cs ∧ w.rangeAt b off cs) ∧ ItsP w p b (off + 7) l
/-- Members one behind the other. -/
def MesP (w : World) (p : Nat → Prop) (b : Nat) : Nat → List JM → Prop
  | _, [] => True
  | off, .mk k v q :: l => (∃ cs, ValP w p v cs ∧ w.rangeAt b off (.string (S k) :: (cs ++ [.int .i64 q]))) ∧ MesP w p b (off + 9) l
end
/-- The cells of a member. -/
def MemP (w : World) (p : Nat → Prop) (m : JM) (cs : List Value) : Prop := ∃ vs, ValP w p m.val vs ∧ cs = .string (S m.key) :: (vs ++ [.int .i64 m.pos])

section
variable {w w' : World} {p p' : Nat → Prop} {b off : Nat}
mutual
theorem ValP.keep (hb : ∀ k, p k → w'.heap[k]? = w.heap[k]?) (hp : ∀ k, p k → p' k) : ∀ (n : JV) (cs : List Value), ValP w p n cs → ValP w' p' n cs
  | .mk k b n s is ms q, cs, h => by
    rw [ValP] at h ⊢
    obtain ⟨IA, ic, MA, mc, hcs, h1, h2, h3, h4⟩ := h
    refine ⟨IA, ic, MA, mc, hcs, h1, h2, h3.imp id ?_, h4.imp id ?_⟩
    · rintro ⟨b, off, hA, hlt, hr⟩
      exact ⟨b, off, hA, hp b hlt, ItsP.keep hb hp hlt is off hr⟩
    · rintro ⟨b, off, hA, hlt, hr⟩
      exact ⟨b, off, hA, hp b hlt, MesP.keep hb hp hlt ms off hr⟩
theorem ItsP.keep (hb : ∀ k, p k → w'.heap[k]? = w.heap[k]?) (hp : ∀ k, p k → p' k) {b : Nat} (hlt : p b) : ∀ (l : List JV) (off : Nat), ItsP w p b off l → ItsP w' p' b off l
  | [], _, _ => by rw [ItsP]; trivial
  | v :: l, off, h => by
    rw [ItsP] at h ⊢
    obtain ⟨⟨cs, h1, h2⟩, h3⟩ := h
    exact ⟨⟨cs, ValP.keep hb hp v cs h1, rangeAt_keep h2 (hb b hlt)⟩, ItsP.keep hb hp hlt l (off + 7) h3⟩
theorem MesP.keep (hb : ∀ k, p k → w'.heap[k]? = w.heap[k]?) (hp : ∀ k, p k → p' k) {b : Nat} (hlt : p b) : ∀ (l : List JM) (off : Nat), MesP w p b off l → MesP w' p' b off l
  | [], _, _ => by rw [MesP]; trivial
  | .mk k v q :: l, off, h => by
    rw [MesP] at h ⊢
    obtain ⟨⟨cs, h1, h2⟩, h3⟩ := h
    exact ⟨⟨cs, ValP.keep hb hp v cs h1, rangeAt_keep h2 (hb b hlt)⟩, MesP.keep hb hp hlt l (off + 9) h3⟩
end
theorem MemP.keep (hb : ∀ k, p k → w'.heap[k]? = w.heap[k]?) (hp : ∀ k, p k → p' k) {m : JM} {cs : List Value} (h : MemP w p m cs) : MemP w' p' m cs := by
  obtain ⟨vs, h1, h2⟩ := h
  exact ⟨vs, ValP.keep hb hp _ _ h1, h2⟩
theorem ItsP.at_ : ∀ {l : List JV} {off : Nat}, ItsP w p b off l → ∀ {i : Nat} {k : JV}, l[i]? = some k → ∃ cs, ValP w p k cs ∧ w.rangeAt b (off + i * 7) cs
  | [], off, _, i, k, hi => by simp at hi
  | x :: l, off, h, i, k, hi => by
    rw [ItsP] at h
    cases i with
    | zero => simp at hi; subst hi; simpa using h.1
    | succ i =>
      obtain ⟨cs, h1, h2⟩ := ItsP.at_ h.2 (i := i) (by simpa using hi)
      exact ⟨cs, h1, by rw [show off + (i + 1) * 7 = off + 7 + i * 7 by omega]; exact h2⟩
theorem ItsP.of_at : ∀ {l : List JV} {off : Nat}, (∀ (i : Nat) (k : JV), l[i]? = some k → ∃ cs, ValP w p k cs ∧ w.rangeAt b (off + i * 7) cs) → ItsP w p b off l
  | [], off, _ => by rw [ItsP]; trivial
  | x :: l, off, h => by
    rw [ItsP]
    refine ⟨by simpa using h 0 x rfl, ItsP.of_at fun i k hi => ?_⟩
    have := h (i + 1) k (by simpa using hi)
    rw [show off + (i + 1) * 7 = off + 7 + i * 7 by omega] at this
    exact this
theorem MesP.at_ : ∀ {l : List JM} {off : Nat}, MesP w p b off l → ∀ {i : Nat} {k : JM}, l[i]? = some k → ∃ cs, MemP w p k cs ∧ w.rangeAt b (off + i * 9) cs
  | [], off, _, i, k, hi => by simp at hi
  | .mk ke v q :: l, off, h, i, k, hi => by
    rw [MesP] at h
    cases i with
    | zero =>
      simp at hi; subst hi
      obtain ⟨⟨cs, h1, h2⟩, _⟩ := h
      exact ⟨_, ⟨cs, h1, rfl⟩, by simpa [JM.key, JM.pos] using h2⟩
    | succ i =>
      obtain ⟨cs, h1, h2⟩ := MesP.at_ h.2 (i := i) (by simpa using hi)
      exact ⟨cs, h1, by rw [show off + (i + 1) * 9 = off + 9 + i * 9 by omega]; exact h2⟩
theorem MesP.of_at : ∀ {l : List JM} {off : Nat}, (∀ (i : Nat) (k : JM), l[i]? = some k → ∃ cs, MemP w p k cs ∧ w.rangeAt b (off + i * 9) cs) → MesP w p b off l
  | [], off, _ => by rw [MesP]; trivial
  | .mk ke v q :: l, off, h => by
    rw [MesP]
    refine ⟨?_, MesP.of_at fun i k hi => ?_⟩
    · obtain ⟨cs, ⟨vs, h1, h2⟩, h3⟩ := h 0 _ rfl
      subst h2
      exact ⟨vs, h1, by simpa [JM.key, JM.pos] using h3⟩
    · have := h (i + 1) k (by simpa using hi)
      rw [show off + (i + 1) * 9 = off + 9 + i * 9 by omega] at this
      exact this

/-! Values and members as elements of rows. -/
theorem ValP.cells {n : JV} {cs : List Value} (h : ValP w p n cs) : ∃ IA ic MA mc, cs = [.int .i64 n.kind, .bool n.b, .int .i64 n.n, .string (S n.s), .slice IA n.items.length ic, .slice MA n.mems.length mc, .int .i64 n.pos] := by
  cases n with
  | mk k b n s is ms q =>
    rw [ValP] at h
    obtain ⟨IA, ic, MA, mc, hcs, _⟩ := h
    exact ⟨IA, ic, MA, mc, hcs⟩
theorem ValP.len {n : JV} {cs : List Value} (h : ValP w p n cs) : cs.length = 7 := by
  obtain ⟨IA, ic, MA, mc, hcs⟩ := h.cells; rw [hcs]; rfl
theorem ValP.one {n : JV} {cs : List Value} (h : ValP w p n cs) : ∀ u ∈ cs, u.oneCell' = true := by
  obtain ⟨IA, ic, MA, mc, hcs⟩ := h.cells
  subst hcs
  simp [Value.oneCell']
theorem MemP.cells {m : JM} {cs : List Value} (h : MemP w p m cs) : ∃ IA ic MA mc, cs = [.string (S m.key), .int .i64 m.val.kind, .bool m.val.b, .int .i64 m.val.n, .string (S m.val.s), .slice IA m.val.items.length ic, .slice MA m.val.mems.length mc, .int .i64 m.val.pos, .int .i64 m.pos] := by
  obtain ⟨vs, h1, h2⟩ := h
  obtain ⟨IA, ic, MA, mc, hcs⟩ := h1.cells
  subst hcs
  exact ⟨IA, ic, MA, mc, h2⟩
theorem MemP.len {m : JM} {cs : List Value} (h : MemP w p m cs) : cs.length = 9 := by
  obtain ⟨IA, ic, MA, mc, hcs⟩ := h.cells; rw [hcs]; rfl
theorem MemP.one {m : JM} {cs : List Value} (h : MemP w p m cs) : ∀ u ∈ cs, u.oneCell' = true := by
  obtain ⟨IA, ic, MA, mc, hcs⟩ := h.cells
  subst hcs
  simp [Value.oneCell']
end
abbrev zValV : Value := .agg #[.int .i64 0, .bool false, .int .i64 0, .string ByteArray.empty, .slice none 0 0, .slice none 0 0, .int .i64 0]
theorem infoVal : (Tryd.prog.info? 25).map (fun i => (i.zero, i.size, i.bytes)) = some (some zValV, 7, 96) := by kernel_rfl
theorem infoMem : (Tryd.prog.info? 45).map (fun i => (i.zero, i.size, i.bytes)) = some (some (.agg #[.string ByteArray.empty, .int .i64 0, .bool false, .int .i64 0, .string ByteArray.empty, .slice none 0 0, .slice none 0 0, .int .i64 0, .int .i64 0]), 9, 120) := by kernel_rfl
abbrev valE : Elt JV where
  T := 25
  TS := 22
  c := 7
  bytes := 96
  zero := zValV
  El := fun w p n cs => ValP w p n cs
theorem valE_ok : valE.Ok where
  info := infoVal
  list := Tryd.underlying22
  zc := rfl
  pos := by decide
  small := by decide
  keep := fun {w w' p p' a cs} h hb hp => ValP.keep hb hp a cs h
  len := fun h => h.len
  one := fun h => h.one
abbrev memE : Elt JM where
  T := 45
  TS := 23
  c := 9
  bytes := 120
  zero := .agg #[.string ByteArray.empty, .int .i64 0, .bool false, .int .i64 0, .string ByteArray.empty, .slice none 0 0, .slice none 0 0, .int .i64 0, .int .i64 0]
  El := fun w p n cs => MemP w p n cs
theorem memE_ok : memE.Ok where
  info := infoMem
  list := Tryd.underlying23
  zc := rfl
  pos := by decide
  small := by decide
  keep := fun {w w' p p' a cs} h hb hp => MemP.keep hb hp h
  len := fun h => h.len
  one := fun h => h.one

section
variable {w w' : World} {p p' : Nat → Prop}
/-- A value's cells, told with its two slices. -/
theorem ValP.open_ {n : JV} {cs : List Value} (h : ValP w p n cs) : ∃ IA ic MA mc, cs = [.int .i64 n.kind, .bool n.b, .int .i64 n.n, .string (S n.s), .slice IA n.items.length ic, .slice MA n.mems.length mc, .int .i64 n.pos] ∧
    ElsP valE w p (.slice IA n.items.length ic) n.items ∧ ElsP memE w p (.slice MA n.mems.length mc) n.mems ∧ n.items.length ≤ ic ∧ n.mems.length ≤ mc := by
  cases n with
  | mk k b n s is ms q =>
    rw [ValP] at h
    obtain ⟨IA, ic, MA, mc, hcs, h1, h2, h3, h4⟩ := h
    refine ⟨IA, ic, MA, mc, hcs, ⟨IA, ic, rfl, h1, h3.imp id ?_⟩, ⟨MA, mc, rfl, h2, h4.imp id ?_⟩, h1, h2⟩
    · rintro ⟨b, off, hA, hp, hr⟩
      exact ⟨b, off, hA, hp, fun i a hi => hr.at_ hi⟩
    · rintro ⟨b, off, hA, hp, hr⟩
      exact ⟨b, off, hA, hp, fun i a hi => hr.at_ hi⟩
theorem ValP.of_open {n : JV} {IA MA : Option Addr} {ic mc : Nat} (hi : ElsP valE w p (.slice IA n.items.length ic) n.items) (hm : ElsP memE w p (.slice MA n.mems.length mc) n.mems) :
    ValP w p n [.int .i64 n.kind, .bool n.b, .int .i64 n.n, .string (S n.s), .slice IA n.items.length ic, .slice MA n.mems.length mc, .int .i64 n.pos] := by
  cases n with
  | mk k b n s is ms q =>
    rw [ValP]
    obtain ⟨A1, c1, e1, h1, h2⟩ := hi
    obtain ⟨A2, c2, e2, h3, h4⟩ := hm
    cases e1
    cases e2
    refine ⟨IA, ic, MA, mc, rfl, h1, h3, h2.imp id ?_, h4.imp id ?_⟩
    · rintro ⟨b, off, hA, hp, hr⟩
      exact ⟨b, off, hA, hp, ItsP.of_at hr⟩
    · rintro ⟨b, off, hA, hp, hr⟩
      exact ⟨b, off, hA, hp, MesP.of_at hr⟩
/-- A value as a value of the model. -/
def ValV (w : World) (p : Nat → Prop) (n : JV) (v : Value) : Prop := ∃ cs : List Value, v = .agg cs.toArray ∧ ValP w p n cs
theorem ValV.keep {n : JV} {v : Value} (h : ValV w p n v) (hb : ∀ k, p k → w'.heap[k]? = w.heap[k]?) (hp : ∀ k, p k → p' k) : ValV w' p' n v := by
  obtain ⟨cs, hv, hn⟩ := h
  exact ⟨cs, hv, ValP.keep hb hp n cs hn⟩
theorem ValV.open_ {n : JV} {v : Value} (h : ValV w p n v) : ∃ IA ic MA mc, v = .agg #[.int .i64 n.kind, .bool n.b, .int .i64 n.n, .string (S n.s), .slice IA n.items.length ic, .slice MA n.mems.length mc, .int .i64 n.pos] ∧
    ElsP valE w p (.slice IA n.items.length ic) n.items ∧ ElsP memE w p (.slice MA n.mems.length mc) n.mems ∧ n.items.length ≤ ic ∧ n.mems.length ≤ mc := by
  obtain ⟨cs, hv, hn⟩ := h
  obtain ⟨IA, ic, MA, mc, hcs, h⟩ := hn.open_
  exact ⟨IA, ic, MA, mc, by rw [hv, hcs], h⟩
/-- The box of a value that came in by value. -/
abbrev valBox (n : JV) (IA : Option Addr) (ic : Nat) (MA : Option Addr) (mc : Nat) : Obj :=
  .cells #[.int .i64 n.kind, .bool n.b, .int .i64 n.n, .string (S n.s), .slice IA n.items.length ic, .slice MA n.mems.length mc, .int .i64 n.pos] 25
abbrev memBox (m : JM) (IA : Option Addr) (ic : Nat) (MA : Option Addr) (mc : Nat) : Obj :=
  .cells #[.string (S m.key), .int .i64 m.val.kind, .bool m.val.b, .int .i64 m.val.n, .string (S m.val.s), .slice IA m.val.items.length ic, .slice MA m.val.mems.length mc, .int .i64 m.val.pos, .int .i64 m.pos] 45
theorem valSize : (Tryd.prog.info? 25).map (·.size) = some 7 := by kernel_rfl
theorem memSize : (Tryd.prog.info? 45).map (·.size) = some 9 := by kernel_rfl
end
theorem wp_load_val {ops : Array Oper} {rest : List Oper} {o : Oper} {a : Act} {w : World} {Q : Exit → Act → World → Prop} (hgd : o.guard = none) (x : Operand) (ho : o.op = .load 25 x)
    (b off : Nat) (hx : a.eval x = .pointer (some ⟨b, off, none⟩)) (cs : List Value) (hl : cs.length = 7) (hr : w.rangeAt b off cs)
    (h : wpList Tryd.prog ops Q rest (a.put o.dst (.agg cs.toArray)) w) : wpList Tryd.prog ops Q (o :: rest) a w :=
  wpList_load_mid hgd 25 x ho b off hx cs _ hr Tryd.underlying25 rfl (by rw [hl]; exact valSize) h
theorem wp_load_mem {ops : Array Oper} {rest : List Oper} {o : Oper} {a : Act} {w : World} {Q : Exit → Act → World → Prop} (hgd : o.guard = none) (x : Operand) (ho : o.op = .load 45 x)
    (b off : Nat) (hx : a.eval x = .pointer (some ⟨b, off, none⟩)) (cs : List Value) (hl : cs.length = 9) (hr : w.rangeAt b off cs)
    (h : wpList Tryd.prog ops Q rest (a.put o.dst (.agg cs.toArray)) w) : wpList Tryd.prog ops Q (o :: rest) a w :=
  wpList_load_mid hgd 45 x ho b off hx cs _ hr Tryd.underlying45 rfl (by rw [hl]; exact memSize) h
theorem still_load_val {ops : Array Oper} {rest : List Oper} {o : Oper} {a : Act} {w : World} {Q : Act → Prop} (hgd : o.guard = none) (x : Operand) (ho : o.op = .load 25 x)
    (b off : Nat) (hx : a.eval x = .pointer (some ⟨b, off, none⟩)) (cs : List Value) (hl : cs.length = 7) (hr : w.rangeAt b off cs)
    (h : wpStill Tryd.prog ops w Q rest (a.put o.dst (.agg cs.toArray))) : wpStill Tryd.prog ops w Q (o :: rest) a := by
  refine wpStill_step fun K hK => ?_
  rw [if_pos (by simp [Region.wanted, hgd])]
  unfold Oper.still execOp
  simp only [ho, hx, Instr.loadAt, Instr.sureAddr, Sem.run_bind, Sem.run_pure, Result.andThen_ok, run_loadVar_mid w b off 25 cs _ hr Tryd.underlying25 rfl (by rw [hl]; exact valSize)]
  rw [Oper.stillUpon_value]
  exact hK _ h
end Go.Proofs.YthlppbpccldikaaDoor
set_option linter.unusedVariables false
namespace Go.Proofs.YthlppbpccldikaaDoor

theorem JM.eta : ∀ m : JM, JM.mk m.key m.val m.pos = m | .mk _ _ _ => rfl
theorem JV.eta : ∀ v : JV, JV.mk v.kind v.b v.n v.s v.items v.mems v.pos = v | .mk _ _ _ _ _ _ _ => rfl
mutual
/-- A number that every part has less of. -/
def jsz : JV → Nat
  | .mk _ _ _ _ is ms _ => 1 + (jszL is + jszM ms)
def jszL : List JV → Nat
  | [] => 0
  | v :: l => jsz v + jszL l
def jszM : List JM → Nat
  | [] => 0
  | .mk _ v _ :: l => jsz v + jszM l
end
theorem jsz_pos (v : JV) : 1 ≤ jsz v := by cases v; rw [jsz]; omega
theorem jszL_mem : ∀ {l : List JV} {v : JV}, v ∈ l → jsz v ≤ jszL l
  | x :: l, v, h => by
    rw [jszL]
    rcases List.mem_cons.1 h with rfl | h
    · omega
    · have := jszL_mem h; omega
theorem jszM_mem : ∀ {l : List JM} {m : JM}, m ∈ l → jsz m.val ≤ jszM l
  | .mk k v p :: l, m, h => by
    rw [jszM]
    rcases List.mem_cons.1 h with rfl | h
    · simp only [JM.val]; omega
    · have := jszM_mem h; omega
theorem jsz_item {v x : JV} (h : x ∈ v.items) : jsz x < jsz v := by
  cases v with
  | mk a b c d is ms e => rw [jsz]; have := jszL_mem h; simp only [JV.items] at this; omega
theorem jsz_mem {v : JV} {m : JM} (h : m ∈ v.mems) : jsz m.val < jsz v := by
  cases v with
  | mk a b c d is ms e => rw [jsz]; have := jszM_mem h; simp only [JV.mems] at this; omega

/-! Weights. -/
def c9 (n : Nat) : Nat := min n 9000
theorem c9_le (n : Nat) : c9 n ≤ 9000 := Nat.min_le_right _ _
mutual
/-- What weight returns. -/
def jwt : JV → Nat → Nat
  | .mk _ _ _ s is ms _, t => jwtM ms (jwtL is (t + (1 + c9 s.length)))
def jwtL : List JV → Nat → Nat
  | [], t => t
  | v :: l, t => if 9000 < t then t else jwtL l (jwt v t)
def jwtM : List JM → Nat → Nat
  | [], t => t
  | .mk k v _ :: l, t => if 9000 < t then t else jwtM l (jwt v (t + c9 k.length))
end
mutual
theorem jwt_le : ∀ (v : JV) (t : Nat), t ≤ 18000 → jwt v t ≤ 45001
  | .mk _ _ _ s is ms _, t, h => by
    rw [jwt]
    have := c9_le s.length
    exact jwtM_le ms _ (jwtL_le is _ (by omega))
theorem jwtL_le : ∀ (l : List JV) (t : Nat), t ≤ 45001 → jwtL l t ≤ 45001
  | [], t, h => by rw [jwtL]; exact h
  | v :: l, t, h => by
    rw [jwtL]
    split
    · exact h
    · exact jwtL_le l _ (jwt_le v t (by omega))
theorem jwtM_le : ∀ (l : List JM) (t : Nat), t ≤ 45001 → jwtM l t ≤ 45001
  | [], t, h => by rw [jwtM]; exact h
  | .mk k v _ :: l, t, h => by
    rw [jwtM]
    split
    · exact h
    · have := c9_le k.length
      exact jwtM_le l _ (jwt_le v _ (by omega))
end
mutual
/-- The whole size of a value. -/
def jful : JV → Nat
  | .mk _ _ _ s is ms _ => 1 + s.length + (jfulL is + jfulM ms)
def jfulL : List JV → Nat
  | [] => 0
  | v :: l => jful v + jfulL l
def jfulM : List JM → Nat
  | [] => 0
  | .mk k v _ :: l => k.length + jful v + jfulM l
end
theorem c9_small {n : Nat} (h : c9 n < 9000) : c9 n = n := by unfold c9 at h ⊢; omega
mutual
theorem jful_le : ∀ (v : JV) (t : Nat), jwt v t ≤ 5000 → t + jful v ≤ jwt v t
  | .mk _ _ _ s is ms _, t, h => by
    rw [jwt] at h ⊢
    rw [jful]
    have h2 := jfulM_le ms _ h
    have h1 := jfulL_le is (t + (1 + c9 s.length)) (by omega)
    have := c9_small (n := s.length) (by omega)
    omega
theorem jfulL_le : ∀ (l : List JV) (t : Nat), jwtL l t ≤ 5000 → t + jfulL l ≤ jwtL l t
  | [], t, h => by rw [jwtL, jfulL]; omega
  | v :: l, t, h => by
    rw [jwtL] at h ⊢
    rw [jfulL]
    split at h
    · omega
    · rename_i hn
      rw [if_neg hn]
      have h2 := jfulL_le l _ h
      have h3 := jful_le v t (by omega)
      omega
theorem jfulM_le : ∀ (l : List JM) (t : Nat), jwtM l t ≤ 5000 → t + jfulM l ≤ jwtM l t
  | [], t, h => by rw [jwtM, jfulM]; omega
  | .mk k v _ :: l, t, h => by
    rw [jwtM] at h ⊢
    rw [jfulM]
    split at h
    · omega
    · rename_i hn
      rw [if_neg hn]
      have h2 := jfulM_le l _ h
      have h3 := jful_le v _ (by omega : jwt v (t + c9 k.length) ≤ 5000)
      have := c9_small (n := k.length) (by omega)
      omega
end
theorem jful_form (v : JV) : jful v = 1 + v.s.length + (jfulL v.items + jfulM v.mems) := by cases v; rw [jful]; rfl
theorem jfulL_mem : ∀ {l : List JV} {v : JV}, v ∈ l → jful v ≤ jfulL l
  | x :: l, v, h => by
    rw [jfulL]
    rcases List.mem_cons.1 h with rfl | h
    · omega
    · have := jfulL_mem h; omega
theorem jfulM_mem : ∀ {l : List JM} {m : JM}, m ∈ l → m.key.length + jful m.val ≤ jfulM l
  | .mk k v p :: l, m, h => by
    rw [jfulM]
    rcases List.mem_cons.1 h with rfl | h
    · simp only [JM.val, JM.key]; omega
    · have := jfulM_mem h; omega
theorem jful_pos (v : JV) : 1 ≤ jful v := by cases v; rw [jful]; omega
theorem jfulL_len : ∀ l : List JV, l.length ≤ jfulL l
  | [] => by simp
  | v :: l => by rw [jfulL]; have := jful_pos v; have := jfulL_len l; simp only [List.length_cons]; omega
theorem jfulM_len : ∀ l : List JM, l.length ≤ jfulM l
  | [] => by simp
  | .mk k v p :: l => by rw [jfulM]; have := jful_pos v; have := jfulM_len l; simp only [List.length_cons]; omega
mutual
/-- No slice of the value is longer than memory allows. -/
def JFit : JV → Prop
  | .mk _ _ n _ is ms _ => (is.length ≤ 2600000000000 ∧ ms.length ≤ 2600000000000 ∧ -9223372036854775808 ≤ n ∧ n ≤ 9223372036854775807) ∧ JFitL is ∧ JFitM ms
def JFitL : List JV → Prop
  | [] => True
  | v :: l => JFit v ∧ JFitL l
def JFitM : List JM → Prop
  | [] => True
  | .mk _ v _ :: l => JFit v ∧ JFitM l
end
theorem JFitL.mem : ∀ {l : List JV}, JFitL l → ∀ {v : JV}, v ∈ l → JFit v
  | x :: l, h, v, hv => by
    rw [JFitL] at h
    rcases List.mem_cons.1 hv with rfl | hv
    · exact h.1
    · exact JFitL.mem h.2 hv
theorem JFitM.mem : ∀ {l : List JM}, JFitM l → ∀ {m : JM}, m ∈ l → JFit m.val
  | .mk k v p :: l, h, m, hm => by
    rw [JFitM] at h
    rcases List.mem_cons.1 hm with rfl | hm
    · exact h.1
    · exact JFitM.mem h.2 hm
theorem JFit.form {v : JV} (h : JFit v) : (v.items.length ≤ 2600000000000 ∧ v.mems.length ≤ 2600000000000 ∧ -9223372036854775808 ≤ v.n ∧ v.n ≤ 9223372036854775807) ∧ (∀ x ∈ v.items, JFit x) ∧ ∀ m ∈ v.mems, JFit m.val := by
  cases v with
  | mk a b c d is ms e => rw [JFit] at h; exact ⟨h.1, fun x hx => h.2.1.mem hx, fun m hm => h.2.2.mem hm⟩
theorem JFitL.of : ∀ {l : List JV}, (∀ v ∈ l, JFit v) → JFitL l
  | [], _ => by rw [JFitL]; trivial
  | v :: l, h => by rw [JFitL]; exact ⟨h v (by simp), JFitL.of fun x hx => h x (by simp [hx])⟩
theorem JFitM.of : ∀ {l : List JM}, (∀ m ∈ l, JFit m.val) → JFitM l
  | [], _ => by rw [JFitM]; trivial
  | .mk k v p :: l, h => by rw [JFitM]; exact ⟨h (.mk k v p) (by simp), JFitM.of fun x hx => h x (by simp [hx])⟩
theorem JFit.of_form {v : JV} (h : v.items.length ≤ 2600000000000 ∧ v.mems.length ≤ 2600000000000 ∧ -9223372036854775808 ≤ v.n ∧ v.n ≤ 9223372036854775807) (h3 : ∀ x ∈ v.items, JFit x) (h4 : ∀ m ∈ v.mems, JFit m.val) : JFit v := by
  cases v with
  | mk a b c d is ms e => rw [JFit]; exact ⟨h, JFitL.of h3, JFitM.of h4⟩

/-! Depth, equality. -/
mutual
def jdep : JV → Nat
  | .mk k _ _ _ is ms _ => max (if k = 4 then jdepL is else 0) (if k = 5 then jdepM ms else 0) + 1
def jdepL : List JV → Nat
  | [] => 0
  | v :: l => max (jdep v) (jdepL l)
def jdepM : List JM → Nat
  | [] => 0
  | .mk _ v _ :: l => max (jdep v) (jdepM l)
end
def jhEq (o : Bool) (v u : JV) : Bool :=
  (v.kind == u.kind) && (v.b == u.b) && (v.n == u.n) && (v.s == u.s) && (!o || v.pos == u.pos) && (v.items.length == u.items.length) && (v.mems.length == u.mems.length)
mutual
def jeq (o : Bool) : JV → JV → Bool
  | .mk k b n s is ms p, u => jhEq o (.mk k b n s is ms p) u && (jeqL o is u.items && jeqM o ms u.mems)
def jeqL (o : Bool) : List JV → List JV → Bool
  | [], _ => true
  | _ :: _, [] => true
  | v :: l, u :: r => jeq o v u && jeqL o l r
def jeqM (o : Bool) : List JM → List JM → Bool
  | [], _ => true
  | _ :: _, [] => true
  | .mk k v p :: l, u :: r => (k == u.key) && (!o || p == u.pos) && jeq o v u.val && jeqM o l r
end
theorem jeq_form (o : Bool) (v u : JV) : jeq o v u = (jhEq o v u && (jeqL o v.items u.items && jeqM o v.mems u.mems)) := by cases v; rw [jeq]; rfl
theorem jeqL_nil (o : Bool) (l : List JV) : jeqL o [] l = true := by rw [jeqL]
theorem jeqM_nil (o : Bool) (l : List JM) : jeqM o [] l = true := by rw [jeqM]
theorem jeqL_step {o : Bool} {l r : List JV} {i : Nat} (h1 : i < l.length) (h2 : i < r.length) : jeqL o (l.drop i) (r.drop i) = (jeq o l[i] r[i] && jeqL o (l.drop (i + 1)) (r.drop (i + 1))) := by
  rw [List.drop_eq_getElem_cons h1, List.drop_eq_getElem_cons h2, jeqL]
theorem jeqM_step {o : Bool} {l r : List JM} {i : Nat} (h1 : i < l.length) (h2 : i < r.length) : jeqM o (l.drop i) (r.drop i) = ((l[i].key == r[i].key) && (!o || l[i].pos == r[i].pos) && jeq o l[i].val r[i].val && jeqM o (l.drop (i + 1)) (r.drop (i + 1))) := by
  rw [List.drop_eq_getElem_cons h1, List.drop_eq_getElem_cons h2]
  cases hx : l[i] with
  | mk k v p => rw [jeqM]; rfl

/-! Validity. -/
def utf8J (l : Bytes) : Bool := Lib.validD l
def jhOk (v : JV) : Bool :=
  decide (0 ≤ v.kind) && decide (v.kind ≤ 5) && (v.kind == 1 || !v.b) && (v.kind == 2 || v.n == 0) && (v.kind == 3 || v.s.isEmpty) && (v.kind == 4 || v.items.isEmpty) && (v.kind == 5 || v.mems.isEmpty) && utf8J v.s
/-- What unused returns. -/
def jun (v : JV) : Bool := (v.kind == 1 || !v.b) && (v.kind == 2 || v.n == 0) && (v.kind == 3 || v.s.isEmpty) && (v.kind == 4 || v.items.isEmpty) && (v.kind == 5 || v.mems.isEmpty)
theorem jhOk_jun (v : JV) : jhOk v = (decide (0 ≤ v.kind) && decide (v.kind ≤ 5) && jun v && utf8J v.s) := by unfold jhOk jun; simp only [Bool.and_assoc]
mutual
/-- What the program takes for valid, at a depth. -/
def jvd : JV → Nat → Bool
  | .mk k b n s is ms p, d => jhOk (.mk k b n s is ms p) && decide (d ≤ 100) && (jvdL is (d + 1) && jvdM [] ms (d + 1))
def jvdL : List JV → Nat → Bool
  | [], _ => true
  | v :: l, d => jvd v d && jvdL l d
def jvdM : List Bytes → List JM → Nat → Bool
  | _, [], _ => true
  | seen, .mk k v _ :: l, d => !(seen.contains k) && utf8J k && jvd v d && jvdM (seen ++ [k]) l d
end
mutual
/-- What the reference takes for valid, apart from its depth. -/
def jrv : JV → Bool
  | .mk k b n s is ms p => jhOk (.mk k b n s is ms p) && (jrvL is && jrvM [] ms)
def jrvL : List JV → Bool
  | [] => true
  | v :: l => jrv v && jrvL l
def jrvM : List Bytes → List JM → Bool
  | _, [] => true
  | seen, .mk k v _ :: l => jrv v && utf8J k && !(seen.contains k) && jrvM (seen ++ [k]) l
end
theorem jvd_form (v : JV) (d : Nat) : jvd v d = (jhOk v && decide (d ≤ 100) && (jvdL v.items (d + 1) && jvdM [] v.mems (d + 1))) := by cases v; rw [jvd]; rfl
theorem jrv_form (v : JV) : jrv v = (jhOk v && (jrvL v.items && jrvM [] v.mems)) := by cases v; rw [jrv]; rfl
theorem jdep_form (v : JV) : jdep v = max (if v.kind = 4 then jdepL v.items else 0) (if v.kind = 5 then jdepM v.mems else 0) + 1 := by cases v; rw [jdep]; rfl
mutual
theorem jvd_eq : ∀ (v : JV) (d : Nat), jvd v d = (jrv v && decide (jdep v + d ≤ 101))
  | .mk k b n s is ms p, d => by
    rw [jvd, jrv, jdep, jvdL_eq is (d + 1), jvdM_eq [] ms (d + 1)]
    cases hh : jhOk (.mk k b n s is ms p) with
    | false => simp
    | true =>
      have h4 : k = 4 ∨ is = [] := by
        simp only [jhOk, JV.kind, JV.items, Bool.and_eq_true, Bool.or_eq_true, beq_iff_eq, List.isEmpty_iff] at hh
        exact hh.1.1.2
      have h5 : k = 5 ∨ ms = [] := by
        simp only [jhOk, JV.kind, JV.mems, Bool.and_eq_true, Bool.or_eq_true, beq_iff_eq, List.isEmpty_iff] at hh
        exact hh.1.2
      rw [Bool.eq_iff_iff]
      simp only [Bool.true_and, Bool.and_eq_true, decide_eq_true_eq]
      have e4 : (if k = 4 then jdepL is else 0) = jdepL is := by
        rcases h4 with h | h
        · rw [if_pos h]
        · subst h; rw [jdepL]; simp
      have e5 : (if k = 5 then jdepM ms else 0) = jdepM ms := by
        rcases h5 with h | h
        · rw [if_pos h]
        · subst h; rw [jdepM]; simp
      rw [e4, e5]
      constructor
      · rintro ⟨h1, ⟨h2, h3⟩, h6, h7⟩
        have q3 : jdepL is + (d + 1) ≤ 101 ∨ jdepL is = 0 := h3.imp id fun h => by rw [h, jdepL]
        have q7 : jdepM ms + (d + 1) ≤ 101 ∨ jdepM ms = 0 := h7.imp id fun h => by rw [h, jdepM]
        exact ⟨⟨h2, h6⟩, by omega⟩
      · rintro ⟨⟨h2, h6⟩, h7⟩
        exact ⟨by omega, ⟨h2, .inl (by omega)⟩, h6, .inl (by omega)⟩
theorem jvdL_eq : ∀ (l : List JV) (d : Nat), jvdL l d = (jrvL l && decide (jdepL l + d ≤ 101 ∨ l = []))
  | [], d => by simp [jvdL, jrvL]
  | v :: l, d => by
    rw [jvdL, jrvL, jdepL, jvd_eq v d, jvdL_eq l d]
    have h0 : l = [] → jdepL l = 0 := fun h => by subst h; rw [jdepL]
    have h1 : 1 ≤ jdep v := by rw [jdep_form]; omega
    rw [Bool.eq_iff_iff]
    simp only [Bool.and_eq_true, decide_eq_true_eq]
    constructor
    · rintro ⟨⟨h2, h3⟩, h4, h5⟩
      refine ⟨⟨h2, h4⟩, .inl ?_⟩
      rcases h5 with h5 | h5
      · omega
      · have := h0 h5; omega
    · rintro ⟨⟨h2, h4⟩, h5⟩
      rcases h5 with h5 | h5
      · exact ⟨⟨h2, by omega⟩, h4, .inl (by omega)⟩
      · cases h5
theorem jvdM_eq : ∀ (seen : List Bytes) (l : List JM) (d : Nat), jvdM seen l d = (jrvM seen l && decide (jdepM l + d ≤ 101 ∨ l = []))
  | _, [], d => by simp [jvdM, jrvM]
  | seen, .mk k v p :: l, d => by
    rw [jvdM, jrvM, jdepM, jvd_eq v d, jvdM_eq (seen ++ [k]) l d]
    have h0 : l = [] → jdepM l = 0 := fun h => by subst h; rw [jdepM]
    have h1 : 1 ≤ jdep v := by rw [jdep_form]; omega
    rw [Bool.eq_iff_iff]
    simp only [Bool.and_eq_true, decide_eq_true_eq]
    constructor
    · rintro ⟨⟨⟨h6, h7⟩, h2, h3⟩, h4, h5⟩
      refine ⟨⟨⟨⟨h2, h7⟩, h6⟩, h4⟩, .inl ?_⟩
      rcases h5 with h5 | h5
      · omega
      · have := h0 h5; omega
    · rintro ⟨⟨⟨⟨h2, h7⟩, h6⟩, h4⟩, h5⟩
      rcases h5 with h5 | h5
      · exact ⟨⟨⟨h6, h7⟩, h2, by omega⟩, h4, .inl (by omega)⟩
      · cases h5
end
end Go.Proofs.YthlppbpccldikaaDoor
set_option linter.unusedVariables false
namespace Go.Proofs.YthlppbpccldikaaDoor

def hxJ (n : UInt8) : UInt8 := if n < 10 then 48 + n else 87 + n
/-- What stands for a byte in a quoted string. -/
def escJ (c : UInt8) : Bytes :=
  if c = 34 then [92, 34] else if c = 92 then [92, 92] else if c = 8 then [92, 98] else if c = 9 then [92, 116] else if c = 10 then [92, 110] else if c = 12 then [92, 102] else if c = 13 then [92, 114]
  else if c < 32 then [92, 117, 48, 48, hxJ (c / 16), hxJ (c % 16)] else [c]
/-- A quoted string. -/
def jq (s : Bytes) : Bytes := 34 :: (s.flatMap escJ ++ [34])
mutual
/-- The canonical text. -/
def jtx : JV → Bytes
  | .mk k b n s is ms _ =>
    if k = 1 then (if b = true then [116, 114, 117, 101] else [102, 97, 108, 115, 101])
    else if k = 2 then Lib.itoa n
    else if k = 3 then jq s
    else if k = 4 then 91 :: (jtxL true is ++ [93])
    else if k = 5 then 123 :: (jtxM true ms ++ [125])
    else [110, 117, 108, 108]
def jtxL : Bool → List JV → Bytes
  | _, [] => []
  | f, v :: l => (if f = true then [] else [44]) ++ (jtx v ++ jtxL false l)
def jtxM : Bool → List JM → Bytes
  | _, [] => []
  | f, .mk k v _ :: l => (if f = true then [] else [44]) ++ (jq k ++ (58 :: (jtx v ++ jtxM false l)))
end
theorem jtx_form (v : JV) : jtx v = if v.kind = 1 then (if v.b = true then [116, 114, 117, 101] else [102, 97, 108, 115, 101]) else if v.kind = 2 then Lib.itoa v.n else if v.kind = 3 then jq v.s else if v.kind = 4 then 91 :: (jtxL true v.items ++ [93]) else if v.kind = 5 then 123 :: (jtxM true v.mems ++ [125]) else [110, 117, 108, 108] := by
  cases v; rw [jtx]; rfl

/-! Numbers. -/
def isDg (c : UInt8) : Bool := decide (48 ≤ c) && decide (c ≤ 57)
def dvalJ (l : Bytes) : Nat := l.foldl (fun a c => 10 * a + (c.toNat - 48)) 0
theorem dig_dg (d : Nat) (h : d < 10) : isDg (UInt8.ofNat (48 + d)) = true ∧ (UInt8.ofNat (48 + d)).toNat - 48 = d := by
  revert h; revert d; decide
theorem decD_dg (u : Nat) : (∀ c ∈ Lib.decDigits u, isDg c = true) ∧ dvalJ (Lib.decDigits u) = u := by
  induction u using Nat.strongRecOn with
  | ind u ih =>
    rw [Lib.decDigits]
    split
    · rename_i h
      obtain ⟨h1, h2⟩ := dig_dg u h
      exact ⟨fun c hc => by rw [List.mem_singleton.1 hc]; exact h1, (by show 10 * 0 + ((UInt8.ofNat (48 + u)).toNat - 48) = u; rw [h2]; omega)⟩
    · rename_i h
      obtain ⟨h1, h2⟩ := ih (u / 10) (by omega)
      obtain ⟨h3, h4⟩ := dig_dg (u % 10) (by omega)
      refine ⟨fun c hc => ?_, ?_⟩
      · rcases List.mem_append.1 hc with hc | hc
        · exact h1 c hc
        · rw [List.mem_singleton.1 hc]; exact h3
      · unfold dvalJ at h2 ⊢
        rw [List.foldl_append, h2]
        simp only [List.foldl_cons, List.foldl_nil, h4]
        omega
theorem decD_ne (u : Nat) : Lib.decDigits u ≠ [] := by
  rw [Lib.decDigits]
  split <;> simp
theorem nDig_le : ∀ (k u : Nat), u < 10 ^ (k + 1) → Lib.nDigits u ≤ k + 1
  | 0, u, h => by rw [Lib.nDigits_small (by simpa using h)]; omega
  | k + 1, u, h => by
    by_cases h1 : u < 10
    · rw [Lib.nDigits_small h1]; omega
    · rw [Lib.nDigits_big h1]
      have := nDig_le k (u / 10) (by rw [Nat.pow_succ] at h; omega)
      omega
theorem itoa_len (n : Int) (h0 : -9223372036854775808 ≤ n) (h1 : n ≤ 9223372036854775807) : (Lib.itoa n).length ≤ 20 := by
  have e19 : (10 : Nat) ^ (18 + 1) = 10000000000000000000 := by decide
  unfold Lib.itoa
  split
  · rw [List.length_cons, Lib.decDigits_length]
    have := nDig_le 18 n.natAbs (by rw [e19]; omega)
    omega
  · rw [Lib.decDigits_length]
    have := nDig_le 18 n.toNat (by rw [e19]; omega)
    omega
/-- The rest of a text does not go on with a digit. -/
def stopJ : Bytes → Bool | [] => true | c :: _ => !isDg c
theorem dg_split : ∀ {l l' r r' : Bytes}, (∀ c ∈ l, isDg c = true) → (∀ c ∈ l', isDg c = true) → stopJ r = true → stopJ r' = true → l ++ r = l' ++ r' → l = l' ∧ r = r'
  | [], [], r, r', _, _, _, _, h => ⟨rfl, by simpa using h⟩
  | [], c :: l', r, r', _, h2, h3, _, h => by
    simp only [List.nil_append, List.cons_append] at h
    subst h
    have := h2 c (by simp)
    simp [stopJ, this] at h3
  | c :: l, [], r, r', h1, _, _, h4, h => by
    simp only [List.nil_append, List.cons_append] at h
    subst h
    have := h1 c (by simp)
    simp [stopJ, this] at h4
  | c :: l, d :: l', r, r', h1, h2, h3, h4, h => by
    simp only [List.cons_append, List.cons.injEq] at h
    obtain ⟨e1, e2⟩ := dg_split (fun x hx => h1 x (by simp [hx])) (fun x hx => h2 x (by simp [hx])) h3 h4 h.2
    exact ⟨by rw [h.1, e1], e2⟩
theorem decD_inj {u v : Nat} (h : Lib.decDigits u = Lib.decDigits v) : u = v := by rw [← (decD_dg u).2, h, (decD_dg v).2]
theorem itoa_split {n m : Int} {r r' : Bytes} (h1 : stopJ r = true) (h2 : stopJ r' = true) (h : Lib.itoa n ++ r = Lib.itoa m ++ r') : n = m ∧ r = r' := by
  have h45 : isDg 45 = false := by decide
  have hcase : ∀ (u : Nat) (t t' : Bytes), Lib.decDigits u ++ t = 45 :: t' → False := fun u t t' e => by
    cases hd : Lib.decDigits u with
    | nil => exact decD_ne u hd
    | cons c l =>
      rw [hd] at e
      simp only [List.cons_append, List.cons.injEq] at e
      have := (decD_dg u).1 c (by rw [hd]; simp)
      rw [e.1, h45] at this
      cases this
  unfold Lib.itoa at h
  split at h
  · split at h
    · simp only [List.cons_append, List.cons.injEq, true_and] at h
      obtain ⟨e1, e2⟩ := dg_split (decD_dg _).1 (decD_dg _).1 h1 h2 h
      exact ⟨by have := decD_inj e1; omega, e2⟩
    · exact (hcase _ _ _ h.symm).elim
  · split at h
    · exact (hcase _ _ _ h).elim
    · obtain ⟨e1, e2⟩ := dg_split (decD_dg _).1 (decD_dg _).1 h1 h2 h
      exact ⟨by have := decD_inj e1; omega, e2⟩
theorem itoa_head (n : Int) : ∃ c l, Lib.itoa n = c :: l ∧ (c = 45 ∨ isDg c = true) := by
  unfold Lib.itoa
  split
  · exact ⟨_, _, rfl, .inl rfl⟩
  · cases hd : Lib.decDigits n.toNat with
    | nil => exact (decD_ne _ hd).elim
    | cons c l => exact ⟨c, l, rfl, .inr ((decD_dg _).1 c (by rw [hd]; simp))⟩

/-! Strings. -/
def hvJ (c : UInt8) : UInt8 := if c < 58 then c - 48 else c - 87
def unescJ : Bytes → UInt8 × Bytes
  | 92 :: 117 :: _ :: _ :: a :: b :: r => (hvJ a * 16 + hvJ b, r)
  | 92 :: d :: r => (if d = 98 then 8 else if d = 116 then 9 else if d = 110 then 10 else if d = 102 then 12 else if d = 114 then 13 else d, r)
  | c :: r => (c, r)
  | [] => (0, [])
theorem hex_back : ∀ n < 32, hvJ (hxJ (UInt8.ofNat n / 16)) * 16 + hvJ (hxJ (UInt8.ofNat n % 16)) = UInt8.ofNat n := by decide
theorem unesc_esc (c : UInt8) (r : Bytes) : unescJ (escJ c ++ r) = (c, r) := by
  unfold escJ
  split
  · rename_i h; subst h; rfl
  · split
    · rename_i h; subst h; rfl
    · split
      · rename_i h; subst h; rfl
      · split
        · rename_i h; subst h; rfl
        · split
          · rename_i h; subst h; rfl
          · split
            · rename_i h; subst h; rfl
            · split
              · rename_i h; subst h; rfl
              · split
                · rename_i h
                  have h2 := hex_back c.toNat (by simpa [UInt8.lt_iff_toNat_lt] using h)
                  rw [UInt8.ofNat_toNat] at h2
                  show (hvJ (hxJ (c / 16)) * 16 + hvJ (hxJ (c % 16)), r) = (c, r)
                  rw [h2]
                · rename_i h92 _ _ _ _ _ _
                  show unescJ (c :: r) = (c, r)
                  unfold unescJ
                  split
                  · rename_i h; simp only [List.cons.injEq] at h; exact (h92 h.1).elim
                  · rename_i h; simp only [List.cons.injEq] at h; exact (h92 h.1).elim
                  · rename_i h; simp only [List.cons.injEq] at h; rw [h.1, h.2]
                  · rename_i h; cases h
theorem esc_split {c d : UInt8} {r r' : Bytes} (h : escJ c ++ r = escJ d ++ r') : c = d ∧ r = r' := by
  have h1 := unesc_esc c r
  rw [h, unesc_esc d r'] at h1
  cases h1
  exact ⟨rfl, rfl⟩
theorem esc_head (c : UInt8) : ∃ d l, escJ c = d :: l ∧ d ≠ 34 := by
  unfold escJ
  split
  · exact ⟨_, _, rfl, by decide⟩
  · rename_i h34
    repeat' split
    all_goals first | exact ⟨_, _, rfl, by decide⟩ | exact ⟨_, _, rfl, h34⟩
theorem body_split : ∀ {s t r r' : Bytes}, s.flatMap escJ ++ (34 :: r) = t.flatMap escJ ++ (34 :: r') → s = t ∧ r = r'
  | [], [], r, r', h => ⟨rfl, by simpa using h⟩
  | [], d :: t, r, r', h => by
    obtain ⟨x, l, hx, hn⟩ := esc_head d
    rw [List.flatMap_cons, hx] at h
    simp only [List.flatMap_nil, List.nil_append, List.cons_append, List.cons.injEq] at h
    exact (hn h.1.symm).elim
  | c :: s, [], r, r', h => by
    obtain ⟨x, l, hx, hn⟩ := esc_head c
    rw [List.flatMap_cons, hx] at h
    simp only [List.flatMap_nil, List.nil_append, List.cons_append, List.cons.injEq] at h
    exact (hn h.1).elim
  | c :: s, d :: t, r, r', h => by
    rw [List.flatMap_cons, List.flatMap_cons, List.append_assoc, List.append_assoc] at h
    obtain ⟨e1, e2⟩ := esc_split h
    obtain ⟨e3, e4⟩ := body_split e2
    exact ⟨by rw [e1, e3], e4⟩
theorem jq_split {s t r r' : Bytes} (h : jq s ++ r = jq t ++ r') : s = t ∧ r = r' := by
  unfold jq at h
  simp only [List.cons_append, List.cons.injEq, true_and, List.append_assoc, List.nil_append] at h
  exact body_split h
theorem escJ_len (c : UInt8) : 1 ≤ (escJ c).length ∧ (escJ c).length ≤ 6 := by
  unfold escJ
  repeat' split
  all_goals simp
theorem jq_len (s : Bytes) : (jq s).length ≤ 6 * s.length + 2 := by
  unfold jq
  have : (s.flatMap escJ).length ≤ 6 * s.length := by
    induction s with
    | nil => simp
    | cons c s ih => rw [List.flatMap_cons, List.length_append, List.length_cons]; have := (escJ_len c).2; omega
  simp only [List.length_cons, List.length_append, List.length_nil]
  omega

/-! Lengths. -/
mutual
theorem jtx_len : ∀ (v : JV), JFit v → (jtx v).length + 6 ≤ 30 * jful v
  | .mk k b n s is ms p, h => by
    rw [JFit] at h
    rw [jtx, jful]
    have h1 := jtxL_len true is h.2.1
    have h2 := jtxM_len true ms h.2.2
    have h3 := itoa_len n h.1.2.2.1 h.1.2.2.2
    have h4 := jq_len s
    repeat' split
    all_goals first | (simp only [List.length_cons, List.length_append, List.length_nil]; omega) | omega
theorem jtxL_len : ∀ (f : Bool) (l : List JV), JFitL l → (jtxL f l).length ≤ 30 * jfulL l
  | f, [], h => by rw [jtxL]; simp
  | f, v :: l, h => by
    rw [JFitL] at h
    rw [jtxL, jfulL]
    have h1 := jtx_len v h.1
    have h2 := jtxL_len false l h.2
    simp only [List.length_append]
    split <;> simp only [List.length_cons, List.length_nil] <;> omega
theorem jtxM_len : ∀ (f : Bool) (l : List JM), JFitM l → (jtxM f l).length ≤ 30 * jfulM l
  | f, [], h => by rw [jtxM]; simp
  | f, .mk k v p :: l, h => by
    rw [JFitM] at h
    rw [jtxM, jfulM]
    have h1 := jtx_len v h.1
    have h2 := jtxM_len false l h.2
    have h3 := jq_len k
    simp only [List.length_append, List.length_cons]
    split <;> simp only [List.length_cons, List.length_nil] <;> omega
end
end Go.Proofs.YthlppbpccldikaaDoor
set_option linter.unusedVariables false
namespace Go.Proofs.YthlppbpccldikaaDoor
open Go.RowKit

/-- What escape returns: nothing where the byte stands for itself. -/
def escP (c : UInt8) : Bytes := if c = 34 ∨ c = 92 ∨ c < 32 then escJ c else []
/-- The letters of the short escapes. -/
def letts : List (UInt8 × UInt8) := [(98, 8), (102, 12), (110, 10), (114, 13), (116, 9)]
theorem lett_at (k : Nat) (hk : k < 5) : ∃ a b : UInt8, letts[k]? = some (a, b) ∧ escJ b = [92, a] ∧ ∀ w, (Instr.index 108 (.agg lettCells) (.int .i64 k)).run Tryd.prog w = .ok (.agg #[.int .u8 a.toNat, .int .u8 b.toNat]) w := by
  have h0 : ∀ w, (Instr.index 108 (.agg lettCells) (.int .i64 (0 : Nat))).run Tryd.prog w = .ok (.agg #[.int .u8 98, .int .u8 8]) w := fun _ => by kernel_rfl
  have h1 : ∀ w, (Instr.index 108 (.agg lettCells) (.int .i64 (1 : Nat))).run Tryd.prog w = .ok (.agg #[.int .u8 102, .int .u8 12]) w := fun _ => by kernel_rfl
  have h2 : ∀ w, (Instr.index 108 (.agg lettCells) (.int .i64 (2 : Nat))).run Tryd.prog w = .ok (.agg #[.int .u8 110, .int .u8 10]) w := fun _ => by kernel_rfl
  have h3 : ∀ w, (Instr.index 108 (.agg lettCells) (.int .i64 (3 : Nat))).run Tryd.prog w = .ok (.agg #[.int .u8 114, .int .u8 13]) w := fun _ => by kernel_rfl
  have h4 : ∀ w, (Instr.index 108 (.agg lettCells) (.int .i64 (4 : Nat))).run Tryd.prog w = .ok (.agg #[.int .u8 116, .int .u8 9]) w := fun _ => by kernel_rfl
  match k, hk with
  | 0, _ => exact ⟨98, 8, rfl, rfl, h0⟩
  | 1, _ => exact ⟨102, 12, rfl, rfl, h1⟩
  | 2, _ => exact ⟨110, 10, rfl, rfl, h2⟩
  | 3, _ => exact ⟨114, 13, rfl, rfl, h3⟩
  | 4, _ => exact ⟨116, 9, rfl, rfl, h4⟩
theorem two_string (W : World) (g : Nat) (a b : UInt8) (h0 : W.cell? ⟨g, 0, none⟩ = some (.int .u8 a.toNat)) (h1 : W.cell? ⟨g, 1, none⟩ = some (.int .u8 b.toNat)) : (convert 34 9 (.slice (some ⟨g, 0, none⟩) 2 2)).run Tryd.prog W = .ok (.string (S [a, b])) W := by
  refine run_bytes_string W ⟨g, 0, none⟩ [a, b] 2 (fun j x hx => ?_)
  rw [add_zero_block]
  match j, hx with
  | 0, hx => simp at hx; subst hx; exact h0
  | 1, hx => simp at hx; subst hx; exact h1
  | j + 2, hx => simp at hx
theorem hex_str : ∀ n < 32, ((⟨#[92, 117, 48, 48]⟩ : ByteArray) ++ (⟨#[48, 49, 50, 51, 52, 53, 54, 55, 56, 57, 97, 98, 99, 100, 101, 102]⟩ : ByteArray).extract (n / 16) (n / 16 + 1) ++ (⟨#[48, 49, 50, 51, 52, 53, 54, 55, 56, 57, 97, 98, 99, 100, 101, 102]⟩ : ByteArray).extract (n % 16) (n % 16 + 1)) = S [92, 117, 48, 48, hxJ (UInt8.ofNat n / 16), hxJ (UInt8.ofNat n % 16)] := by
  have h : ∀ n : Fin 32, ((⟨#[92, 117, 48, 48]⟩ : ByteArray) ++ (⟨#[48, 49, 50, 51, 52, 53, 54, 55, 56, 57, 97, 98, 99, 100, 101, 102]⟩ : ByteArray).extract (n.val / 16) (n.val / 16 + 1) ++ (⟨#[48, 49, 50, 51, 52, 53, 54, 55, 56, 57, 97, 98, 99, 100, 101, 102]⟩ : ByteArray).extract (n.val % 16) (n.val % 16 + 1)) = S [92, 117, 48, 48, hxJ (UInt8.ofNat n.val / 16), hxJ (UInt8.ofNat n.val % 16)] := by decide +kernel
  exact fun n hn => h ⟨n, hn⟩
theorem escJ_rest {c : UInt8} (h1 : c ≠ 34) (h2 : c ≠ 92) (h : c < 32) (hn : ∀ j q, j < 5 → letts[j]? = some q → q.2 ≠ c) : escJ c = [92, 117, 48, 48, hxJ (c / 16), hxJ (c % 16)] := by
  have a0 : c ≠ 8 := fun e => hn 0 _ (by decide) rfl e.symm
  have a1 : c ≠ 12 := fun e => hn 1 _ (by decide) rfl e.symm
  have a2 : c ≠ 10 := fun e => hn 2 _ (by decide) rfl e.symm
  have a3 : c ≠ 13 := fun e => hn 3 _ (by decide) rfl e.symm
  have a4 : c ≠ 9 := fun e => hn 4 _ (by decide) rfl e.symm
  unfold escJ
  rw [if_neg h1, if_neg h2, if_neg a0, if_neg a4, if_neg a2, if_neg a1, if_neg a3, if_pos h]

end Go.Proofs.YthlppbpccldikaaDoor
set_option linter.unusedVariables false
namespace Go.Proofs.YthlppbpccldikaaDoor
open Go.RowKit

theorem ret_seqI {a b : Nat × Nat} (h : a = b) : Ending.returned (.tuple #[.int .i32 a.1, .int .i64 a.2]) = Ending.returned (.tuple #[.int .i32 b.1, .int .i64 b.2]) := by rw [h]
set_option maxHeartbeats 8000000 in
set_option maxRecDepth 100000 in
theorem seq10_any (l : Bytes) (w : World) (hT : TabJ w) (hl : l.length ≤ 1000000000) (h2 : 1 < l.length) :
    Calls Tryd.prog 57 #[.string (S l)] w fun e w' => e = .returned (.tuple #[.int .i32 (seqI (seqJ l)).1, .int .i64 (seqI (seqJ l)).2]) ∧ Below w.heap.size w w' := by
  obtain ⟨tt, fr, hg⟩ := hT.lett
  have e2 : l.getD 1 0 = l[1] := by rw [List.getD_eq_getElem?_getD, List.getElem?_eq_getElem h2]; rfl
  obtain ⟨c, hc⟩ : ∃ c, l[1] = c := ⟨_, rfl⟩
  rw [hc] at e2
  have hct : l[1].toNat = c.toNat := by rw [hc]
  by_cases k : c = 34 ∨ c = 92 ∨ c = 47
  · rw [seqJ_esc c e2 (.inl ⟨k, rfl⟩)]
    clear e2 hc hT hg
    rcases k with e | e | e
    all_goals
      subst e
      simp only [UInt8.toNat_ofNat, Nat.reducePow, Nat.reduceMod] at hct
      go_enter Tryd.func57, Tryd.ntmps57
      go_wp2_with fail
      go_ret2
      exact ⟨rfl, Below.refl _ _⟩
  · have n34 : ((l[1].toNat : Int) == 34) = false := by rw [beq_eq_false_iff_ne, hct]; intro q; exact k (.inl (UInt8.toNat_inj.mp (by simpa using Int.ofNat_inj.mp q)))
    have n92 : ((l[1].toNat : Int) == 92) = false := by rw [beq_eq_false_iff_ne, hct]; intro q; exact k (.inr (.inl (UInt8.toNat_inj.mp (by simpa using Int.ofNat_inj.mp q))))
    have n47 : ((l[1].toNat : Int) == 47) = false := by rw [beq_eq_false_iff_ne, hct]; intro q; exact k (.inr (.inr (UInt8.toNat_inj.mp (by simpa using Int.ofNat_inj.mp q))))
    obtain ⟨R, hR⟩ : ∃ R, seqJ l = R := ⟨_, rfl⟩
    rw [hR]
    have HRR := Lib.hid hR
    clear hR
    have HE2 := Lib.hid e2
    have HCT := Lib.hid hct
    have HK := Lib.hid k
    clear e2 hct k hc hT
    go_enter Tryd.func57, Tryd.ntmps57
    go_wp2_with (refine wpList_load_row rfl 108 _ rfl 1 rfl tt _ fr _ hg Tryd.underlying108 rfl (by kernel_rfl) ?_)
    go_loopw [25] (fun i wr => ∃ k : Nat, k ≤ 5 ∧ i = .int .i64 k ∧ (∀ j q, j < k → letts[j]? = some q → q.1 ≠ c) ∧ Below w.heap.size w wr) (fun i _ => 5 - (intOf i).toNat)
    case atStart => exact ⟨0, by omega, rfl, fun j q h => by omega, Below.refl _ _⟩
    case round =>
      obtain ⟨k, hk, rfl, hin, hb⟩ := hrel
      have HI := Lib.hid hin
      have HB := Lib.hid hb
      have hsz := hb.size
      clear hin hb
      by_cases hlk : k < 5
      · obtain ⟨a, b, hq, hel, hidx⟩ := lett_at k hlk
        by_cases hac : a = c
        · have hr : seqJ l = some (b.toNat, 2) := by
            refine seqJ_esc c HE2.out ?_
            have hq' := hq
            subst hac
            match k, hlk, hq' with
            | 0, _, h => simp [letts] at h; obtain ⟨rfl, rfl⟩ := h; simp
            | 1, _, h => simp [letts] at h; obtain ⟨rfl, rfl⟩ := h; simp
            | 2, _, h => simp [letts] at h; obtain ⟨rfl, rfl⟩ := h; simp
            | 3, _, h => simp [letts] at h; obtain ⟨rfl, rfl⟩ := h; simp
            | 4, _, h => simp [letts] at h; obtain ⟨rfl, rfl⟩ := h; simp
          have t : ((a.toNat : Int) == (l[1].toNat : Int)) = true := by rw [HCT.out, hac]; simp
          have hb8 := u8_lt b
          have HR := Lib.hid hr
          clear hr hq hel hac
          go_wp2_with fail
          go_ret2
          exact ⟨by rw [← HRR.out, HR.out]; rfl, HB.out.alloc hsz _⟩
        · have t : ((a.toNat : Int) == (l[1].toNat : Int)) = false := by
            rw [beq_eq_false_iff_ne, HCT.out]
            intro q
            exact hac (UInt8.toNat_inj.mp (by omega))
          have hnx : ∀ j q, j < k + 1 → letts[j]? = some q → q.1 ≠ c := fun j q hj hjq => by
            by_cases e : j = k
            · subst e
              rw [hq] at hjq
              cases hjq
              exact hac
            · exact HI.out j q (by omega) hjq
          have HN := Lib.hid hnx
          clear hnx hq hel hac
          go_wp2_with fail
          go_roundw
          case rel => exact ⟨k + 1, by omega, by go_num, HN.out, HB.out.alloc hsz _⟩
          case measure => simp [intOf]; omega
      · obtain rfl : k = 5 := by omega
        have h0 : c ≠ 34 ∧ c ≠ 92 ∧ c ≠ 47 ∧ c ≠ 98 ∧ c ≠ 102 ∧ c ≠ 110 ∧ c ≠ 114 ∧ c ≠ 116 := by
          have hk0 := HK.out
          refine ⟨fun q => hk0 (.inl q), fun q => hk0 (.inr (.inl q)), fun q => hk0 (.inr (.inr q)), ?_, ?_, ?_, ?_, ?_⟩
          · exact fun q => HI.out 0 _ (by decide) rfl q.symm
          · exact fun q => HI.out 1 _ (by decide) rfl q.symm
          · exact fun q => HI.out 2 _ (by decide) rfl q.symm
          · exact fun q => HI.out 3 _ (by decide) rfl q.symm
          · exact fun q => HI.out 4 _ (by decide) rfl q.symm
        have hru := HRR.out
        rw [seqJ_U HE2.out h0] at hru
        clear h0 HI HK HE2 HCT n34 n92 n47 hg hlk
        unfold seqU at hru
        have hu := fun W => unit10_any l W hl
        cases hq : unitJ l with
        | none =>
          rw [hq] at hu hru
          simp only at hru
          have HRU := Lib.hid hru
          clear hru
          have HU := Lib.hid hu
          clear hu hq
          go_wp2_with (go_at_call 68; refine (HU.out _).mono ?_; rintro e w' ⟨rfl, hb2⟩; simp only [Option.getD, Option.isSome])
          go_ret2
          exact ⟨by rw [← HRU.out]; rfl, HB.out.trans (hb2.mono hsz)⟩
        | some r =>
          rw [hq] at hu hru
          have hr := unitJ_le hq
          simp only at hru
          have HU := Lib.hid hu
          clear hu hq
          by_cases k1 : 56320 ≤ r ∧ r ≤ 57343
          · rw [if_pos k1] at hru
            have HRU := Lib.hid hru
            clear hru
            go_wp2_with (go_at_call 68; refine (HU.out _).mono ?_; rintro e w' ⟨rfl, hb2⟩; simp only [Option.getD, Option.isSome])
            go_ret2
            exact ⟨by rw [← HRU.out]; rfl, HB.out.trans (hb2.mono hsz)⟩
          rw [if_neg k1] at hru
          by_cases k2 : r < 55296 ∨ 57343 < r
          · rw [if_pos k2] at hru
            have HRU := Lib.hid hru
            clear hru
            rcases k2 with k2 | k2
            all_goals
              go_wp2_with (go_at_call 68; refine (HU.out _).mono ?_; rintro e w' ⟨rfl, hb2⟩; simp only [Option.getD, Option.isSome])
              go_ret2
              exact ⟨by rw [← HRU.out]; rfl, HB.out.trans (hb2.mono hsz)⟩
          rw [if_neg k2] at hru
          have k3 : 55296 ≤ r := by omega
          have k4 : r ≤ 56319 := by omega
          have h6 : 6 ≤ l.length := hr.2
          clear k1 k2 hr
          have hv := fun W => unit10_any (l.drop 6) W (by rw [List.length_drop]; omega)
          cases hq : unitJ (l.drop 6) with
          | none =>
            rw [hq] at hv hru
            simp only at hru
            have HRU := Lib.hid hru
            have HV := Lib.hid hv
            clear hq hv hru
            go_wp2_with (first | (go_at_call 68; (with_reducible refine (HU.out _).mono ?_); rintro e w' ⟨rfl, hb2⟩; simp only [Option.getD, Option.isSome]) | (go_at_call 68; (refine (HV.out _).mono ?_); rintro e w'' ⟨rfl, hb3⟩; simp only [Option.getD, Option.isSome]))
            go_ret2
            exact ⟨by rw [← HRU.out]; rfl, (HB.out.trans (hb2.mono hsz)).trans (hb3.mono (by have := hb2.size; omega))⟩
          | some m =>
            rw [hq] at hv hru
            have HV := Lib.hid hv
            have hm := unitJ_le hq
            simp only at hru
            clear hq hv
            by_cases k5 : m < 56320 ∨ 57343 < m
            · rw [if_pos k5] at hru
              have HRU := Lib.hid hru
              clear hru
              rcases k5 with k5 | k5
              all_goals
                go_wp2_with (first | (go_at_call 68; (with_reducible refine (HU.out _).mono ?_); rintro e w' ⟨rfl, hb2⟩; simp only [Option.getD, Option.isSome]) | (go_at_call 68; (refine (HV.out _).mono ?_); rintro e w'' ⟨rfl, hb3⟩; simp only [Option.getD, Option.isSome]))
                go_ret2
                exact ⟨by rw [← HRU.out]; rfl, (HB.out.trans (hb2.mono hsz)).trans (hb3.mono (by have := hb2.size; omega))⟩
            rw [if_neg k5] at hru
            have HRU := Lib.hid hru
            clear hru
            go_wp2_with (first | (go_at_call 68; (with_reducible refine (HU.out _).mono ?_); rintro e w' ⟨rfl, hb2⟩; simp only [Option.getD, Option.isSome]) | (go_at_call 68; (refine (HV.out _).mono ?_); rintro e w'' ⟨rfl, hb3⟩; simp only [Option.getD, Option.isSome]))
            go_ret2
            refine ⟨?_, (HB.out.trans (hb2.mono hsz)).trans (hb3.mono (by have := hb2.size; omega))⟩
            rw [← HRU.out]
            refine congrArg (fun x => Ending.returned (.tuple #[.int .i32 x, .int .i64 12])) (?_ : _ = (((r - 55296) * 1024 + (m - 56320) + 65536 : Nat) : Int))
            omega
end Go.Proofs.YthlppbpccldikaaDoor
set_option linter.unusedVariables false
namespace Go.Proofs.YthlppbpccldikaaDoor
open Go.RowKit




end Go.Proofs.YthlppbpccldikaaDoor
set_option linter.unusedVariables false
namespace Go.Proofs.YthlppbpccldikaaDoor
open Go.RowKit

/-- The tables as the start lays them. -/
abbrev Tabs := TabJ
end Go.Proofs.YthlppbpccldikaaDoor
set_option linter.unusedVariables false
namespace Go.Proofs.YthlppbpccldikaaDoor
open Go.RowKit

theorem below_drew {B : Nat} {w w' : World} (h : Below B w.drew w') : Below B w w' := ⟨h.os, h.tape, h.output, h.size, h.block⟩
theorem ret_str {a b : Bytes} (h : a = b) : Ending.returned (.string (S a)) = .returned (.string (S b)) := by rw [h]
theorem encI_no {r : Int} (h : r < 0 ∨ 1114111 < r ∨ (55296 ≤ r ∧ r ≤ 57343)) : encI r = [] := by
  unfold encI
  by_cases h0 : r < 0
  · rw [if_pos h0]
  · rw [if_neg h0]
    unfold enc okRune
    rw [if_pos (by omega)]
theorem encI_1 {r : Int} (h : 0 ≤ r) (h1 : r < 128) : encI r = [UInt8.ofNat r.toNat] := by
  unfold encI enc okRune
  rw [if_neg (by omega), if_neg (by omega), if_pos (by omega)]
theorem encI_2 {r : Int} (h : 128 ≤ r) (h1 : r < 2048) : encI r = [UInt8.ofNat (192 + r / 64).toNat, UInt8.ofNat (128 + r % 64).toNat] := by
  unfold encI enc okRune
  rw [if_neg (by omega), if_neg (by omega), if_neg (by omega), if_pos (by omega), show (192 + r / 64).toNat = 192 + r.toNat / 64 by omega, show (128 + r % 64).toNat = 128 + r.toNat % 64 by omega]
theorem encI_3 {r : Int} (h : 2048 ≤ r) (h1 : r < 65536) (h2 : r < 55296 ∨ 57343 < r) : encI r = [UInt8.ofNat (224 + r / 4096).toNat, UInt8.ofNat (128 + r / 64 % 64).toNat, UInt8.ofNat (128 + r % 64).toNat] := by
  unfold encI enc okRune
  rw [if_neg (by omega), if_neg (by omega), if_neg (by omega), if_neg (by omega), if_pos (by omega), show (224 + r / 4096).toNat = 224 + r.toNat / 4096 by omega, show (128 + r / 64 % 64).toNat = 128 + r.toNat / 64 % 64 by omega, show (128 + r % 64).toNat = 128 + r.toNat % 64 by omega]
theorem encI_4 {r : Int} (h : 65536 ≤ r) (h1 : r ≤ 1114111) : encI r = [UInt8.ofNat (240 + r / 262144).toNat, UInt8.ofNat (128 + r / 4096 % 64).toNat, UInt8.ofNat (128 + r / 64 % 64).toNat, UInt8.ofNat (128 + r % 64).toNat] := by
  unfold encI enc okRune
  rw [if_neg (by omega), if_neg (by omega), if_neg (by omega), if_neg (by omega), if_neg (by omega), show (240 + r / 262144).toNat = 240 + r.toNat / 262144 by omega, show (128 + r / 4096 % 64).toNat = 128 + r.toNat / 4096 % 64 by omega, show (128 + r / 64 % 64).toNat = 128 + r.toNat / 64 % 64 by omega, show (128 + r % 64).toNat = 128 + r.toNat % 64 by omega]

def decAt (l : Bytes) (n : Int) : Nat × Nat := if 0 ≤ n ∧ n < l.length then dec (l.drop n.toNat) else (0, 0)
end Go.Proofs.YthlppbpccldikaaDoor
