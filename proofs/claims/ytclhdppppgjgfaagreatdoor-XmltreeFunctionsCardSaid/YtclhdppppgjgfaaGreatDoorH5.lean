/-
  Several texts in one file, in build order:
  - DERIVED: THE SHELF's CONTRACTS AT THIS DUMP, IN PLAIN WORDS (tools/lay-plain.mjs out of 'TryzShelf.lean', which tools/lay-shelf.mjs wrote): THE SAME DECLARATIONS UNDER THE SAME NAMES: 'import', 'namespace', 'open', 'def', 'theorem' AND NOTHING ELSE: no command of the shelf's: FOR A HAND-IN. Each laying: the table of numbers ('.._ren') and one theorem, a field a fact of the dump's own or the kernel's comparison; each contract: ONE APPLICATION.
  - Walks of chapter 6: the program's white space and line ends.
  - Rows of elements of any kind: slices that lie in memory, slices that a call builds itself, appending one element or a whole row.
  - Walks of the library's strings.Replacer at two pairs of single bytes: the Replacer's block, NewReplacer, the table.
  - Walks of chapter 5: escaping (program and reference).
  - Walks of chapter 6: the reference's small functions: Has, find, Lines, spaces, name, missing.
-/
import Derived.Shelf.Strings.Builder1
import Derived.Shelf.Strings.Builder2
import Derived.Shelf.Small.Utf8
import Derived.Shelf.Small.Strs
import Derived.Shelf.Small.Wraps
import Derived.Shelf.Strings.BuilderF
import Derived.Shelf.Strings.BuilderK
import Derived.Shelf.Strings.BuilderRune
import Derived.Shelf.Utf8.AppendRune
import Derived.Shelf.Utf8.AppendRunePlain
import Derived.Shelf.Strings.Search1
import Derived.Shelf.Strings.Search2
import Derived.Shelf.Strings.Search3
import Derived.Shelf.Strings.Cut
import Derived.Shelf.Strings.Count
import Derived.Shelf.LaysM
import Derived.Shelf.Strings.Shaped
import Derived.Shelf.Strings.Prefix
import Derived.Shelf.Strings.Split
import Derived.Shelf.Strings.Replace
import Derived.Shelf.Strings.SplitShaped
import Derived.Shelf.Bits.Mul64
import Derived.Shelf.Strings.Repeat
import Derived.Shelf.Unicode.DecodeSlow
import Derived.Shelf.Unicode.DecodeAny
import Derived.Test.YtclhdppppgjgfaaGreatDoorProg
import Derived.Test.YtclhdppppgjgfaaGreatDoorH4
import Derived.Lib.CountLaws
import Derived.Test.YtclhdppppgjgfaaGreatDoorH3
import Derived.Maps.AppendAt
import Derived.Test.YtclhdppppgjgfaaGreatDoorH1
import Derived.Deep.MidRow
import Derived.WalkSpells
import Derived.WalkLawsBesides
namespace Go.Proofs
open Go.Shelf
def Tryz.lays155_ren : Go.Shelf.Ren := ⟨fun | 155 => 109 | 154 => 125 | 138 => 137 | 165 => 46 | 143 => 138 | 166 => 47 | 197 => 106 | 169 => 39 | 195 => 148 | 218 => 149 | 240 => 72 | 241 => 73 | 219 => 136 | 260 => 123 | 276 => 99 | 277 => 100 | 217 => 112 | 225 => 145 | 224 => 146 | 267 => 147 | 266 => 128 | 314 => 156 | n => n, fun | 9 => 9 | 3 => 3 | 4 => 4 | 72 => 68 | 0 => 0 | 76 => 80 | 105 => 116 | 21 => 21 | 5 => 5 | 70 => 65 | 20 => 20 | 37 => 66 | 75 => 79 | 127 => 103 | 164 => 133 | 46 => 74 | 119 => 176 | 139 => 179 | 138 => 178 | 146 => 105 | 51 => 104 | 80 => 70 | n => n, fun | 1 => 0 | 3 => 1 | 4 => 2 | n => n⟩
theorem Tryz.lays155 : Go.Proofs.Lays.n155 Tryz.prog Tryz.lays155_ren := {
  mixed := by kernel_rfl
  f138 := Tryz.func137.trans (congrArg some (by kernel_rfl))
  f143 := Tryz.func138.trans (congrArg some (by kernel_rfl))
  f154 := Tryz.func125.trans (congrArg some (by kernel_rfl))
  f155 := Tryz.func109.trans (congrArg some (by kernel_rfl))
  f165 := Tryz.func46.trans (congrArg some (by kernel_rfl))
  f166 := Tryz.func47.trans (congrArg some (by kernel_rfl))
  f169 := Tryz.func39.trans (congrArg some (by kernel_rfl))
  f195 := Tryz.func148.trans (congrArg some (by kernel_rfl))
  f197 := Tryz.func106.trans (congrArg some (by kernel_rfl))
  f217 := Tryz.func112.trans (congrArg some (by kernel_rfl))
  f218 := Tryz.func149.trans (congrArg some (by kernel_rfl))
  f219 := Tryz.func136.trans (congrArg some (by kernel_rfl))
  f224 := Tryz.func146.trans (congrArg some (by kernel_rfl))
  f225 := Tryz.func145.trans (congrArg some (by kernel_rfl))
  f240 := Tryz.func72.trans (congrArg some (by kernel_rfl))
  f241 := Tryz.func73.trans (congrArg some (by kernel_rfl))
  f260 := Tryz.func123.trans (congrArg some (by kernel_rfl))
  f266 := Tryz.func128.trans (congrArg some (by kernel_rfl))
  f267 := Tryz.func147.trans (congrArg some (by kernel_rfl))
  f276 := Tryz.func99.trans (congrArg some (by kernel_rfl))
  f277 := Tryz.func100.trans (congrArg some (by kernel_rfl))
  f314 := Tryz.func156.trans (congrArg some (by kernel_rfl))
  t0 := Tryz.underlying0
  a0 := Tryz.isAgg0
  z0 := Tryz.sizeOf0
  v0 := Tryz.zeroValue0
  t3 := Tryz.underlying3
  a3 := Tryz.isAgg3
  z3 := Tryz.sizeOf3
  v3 := Tryz.zeroValue3
  t4 := Tryz.underlying4
  a4 := Tryz.isAgg4
  z4 := Tryz.sizeOf4
  v4 := Tryz.zeroValue4
  t5 := Tryz.underlying5
  a5 := Tryz.isAgg5
  z5 := Tryz.sizeOf5
  v5 := Tryz.zeroValue5
  t9 := Tryz.underlying9
  a9 := Tryz.isAgg9
  z9 := Tryz.sizeOf9
  v9 := Tryz.zeroValue9
  t20 := Tryz.underlying20
  a20 := Tryz.isAgg20
  z20 := Tryz.sizeOf20
  v20 := Tryz.zeroValue20
  t21 := Tryz.underlying21
  a21 := Tryz.isAgg21
  z21 := Tryz.sizeOf21
  v21 := Tryz.zeroValue21
  t37 := Tryz.underlying66
  a37 := Tryz.isAgg66
  z37 := Tryz.sizeOf66
  v37 := Tryz.zeroValue66
  t46 := Tryz.underlying74
  a46 := Tryz.isAgg74
  z46 := Tryz.sizeOf74
  v46 := Tryz.zeroValue74
  t51 := Tryz.underlying104
  a51 := Tryz.isAgg104
  z51 := Tryz.sizeOf104
  v51 := Tryz.zeroValue104
  t70 := Tryz.underlying65
  a70 := Tryz.isAgg65
  z70 := Tryz.sizeOf65
  v70 := Tryz.zeroValue65
  t72 := Tryz.underlying68
  a72 := Tryz.isAgg68
  z72 := Tryz.sizeOf68
  v72 := Tryz.zeroValue68
  t75 := Tryz.underlying79
  a75 := Tryz.isAgg79
  z75 := Tryz.sizeOf79
  v75 := Tryz.zeroValue79
  t76 := Tryz.underlying80
  a76 := Tryz.isAgg80
  z76 := Tryz.sizeOf80
  v76 := Tryz.zeroValue80
  t105 := Tryz.underlying116
  a105 := Tryz.isAgg116
  z105 := Tryz.sizeOf116
  v105 := Tryz.zeroValue116
  t119 := Tryz.underlying176
  a119 := Tryz.isAgg176
  z119 := Tryz.sizeOf176
  t127 := Tryz.underlying103
  a127 := Tryz.isAgg103
  z127 := Tryz.sizeOf103
  v127 := Tryz.zeroValue103
  t138 := Tryz.underlying178
  a138 := Tryz.isAgg178
  z138 := Tryz.sizeOf178
  v138 := Tryz.zeroValue178
  t139 := Tryz.underlying179
  a139 := Tryz.isAgg179
  z139 := Tryz.sizeOf179
  v139 := Tryz.zeroValue179
  t146 := Tryz.underlying105
  a146 := Tryz.isAgg105
  z146 := Tryz.sizeOf105
  v146 := Tryz.zeroValue105
  t164 := Tryz.underlying133
  a164 := Tryz.isAgg133
  z164 := Tryz.sizeOf133
  v164 := Tryz.zeroValue133
  g1 := by kernel_rfl
  g3 := by kernel_rfl
  g4 := by kernel_rfl }
theorem Tryz.Builder_Extra_155 : Builder.Extra Tryz.prog Tryz.lays155_ren := {
  sizeBuilder := by kernel_rfl
  liesBuilder := by kernel_rfl
  t5 := Tryz.underlying5
  a5 := Tryz.isAgg5
  z5 := Tryz.sizeOf5
  v5 := Tryz.zeroValue5
  infoByte := by kernel_rfl
  cellsByte := by kernel_rfl
  sizeByte := by kernel_rfl
  neB5 := by decide }
open Go.RowKit Go.Lib in
/-- strings.ReplaceAll: "ReplaceAll returns a copy of the string s with all non-overlapping instances of old replaced by new.": AT AN old THAT IS NOT EMPTY: 'Lib.replaceAll s old new'. (LAID: no walk: one application.) -/
theorem Tryz.strings_ReplaceAll (s old new : ByteArray) (m : Int) (w : World) (hs : s.size < 4294967281) (hm : w.cell? ⟨0, 0, none⟩ = some (.int .i64 m)) (h1 : 1 ≤ old.size) (hlen : s.size + Lib.countB s old * new.size ≤ 140737488355328) :
    Calls Tryz.prog 109 #[.string s, .string old, .string new] w fun e w' =>
      e = .returned (.string ⟨(Lib.replaceAll s.data.toList old.data.toList new.data.toList).toArray⟩) ∧ Below w.heap.size w w' := Any.strings_ReplaceAll Tryz.lays155 Tryz.Builder_Extra_155 s old new m w hs hm h1 hlen
end Go.Proofs
set_option linter.unusedVariables false
namespace Go.Proofs.YtclhdppppgjgfaaGreatDoor
open Go.RowKit

theorem MaxLen.below {m : Int} {w w' : World} (h : MaxLen m w) (hb : Below w.heap.size w w') : MaxLen m w' := by
  unfold MaxLen at *
  rw [← h]
  exact World.cell?_of_block (w := w) (hb.block _ (lt_of_cell h))
theorem MaxLen.upd {m : Int} {w w' : World} {b : Nat} {l : Bytes} {n ea er : Int} (h : MaxLen m w) (hc : Cur w b l n ea er) (hu : Upd b w w') : MaxLen m w' := by
  have hne := hc.ne_tab h rfl (by simp)
  unfold MaxLen at *
  rw [← h]
  exact World.cell?_of_block (w := w) (hu.block _ (lt_of_cell h) hne)

theorem isSpace6_any (c : UInt8) (w : World) : Calls Tryz.prog 90 #[.int .u8 c.toNat] w fun e w' => e = .returned (.bool (isSp c)) ∧ w = w' := by
  have hc := u8_lt c
  go_enter Tryz.func90, Tryz.ntmps90
  go_wp2
  all_goals go_ret
  all_goals exact ⟨ret_bool (by unfold isSp; rw [Bool.eq_iff_iff]; simp <;> omega), rfl⟩
theorem quiet_drewn {P : Program} {f : FuncId} {args : Array Value} {w : World} {n : Nat} {v : Value} (h : ∀ W, Calls P f args W fun e w' => e = .returned v ∧ W = w') :
    Calls P f args (w.drewN n) fun e w'' => e = .returned v ∧ ∃ m, w'' = w.drewN m := (h _).mono fun _ _ ⟨he, hm⟩ => ⟨he, n, hm.symm⟩

set_option maxHeartbeats 2000000 in
theorem curSpaces_any (b : Nat) (l : Bytes) (n : Nat) (ea er : Int) (w : World) (hC : Cur w b l n ea er) (hn : n ≤ l.length) (hl : l.length ≤ 4611686018427387904) :
    Calls Tryz.prog 85 #[.pointer (some ⟨b, 0, none⟩)] w fun e w' =>
      e = .returned (.int .i64 ((spEnd l n : Nat) - (n : Int))) ∧ Cur w' b l (spEnd l n : Nat) ea er ∧ Upd b w w' := by
  obtain ⟨R, hR⟩ : ∃ R, spEnd l n = R := ⟨_, rfl⟩
  have hge := spEnd_ge l n
  rw [hR] at hge ⊢
  have HR := Lib.hid hR
  have HC := Lib.hid hC
  have c1 := hC.c1
  clear hR hC
  go_enter Tryz.func85, Tryz.ntmps85
  go_wp2
  clear c1
  go_loopg [8] (l.length - n) (fun k _ wr => ∃ m : Nat, n ≤ m ∧ m ≤ l.length ∧ k = l.length - m ∧ Cur wr b l m ea er ∧ Upd b w wr ∧ spEnd l m = R)
  case atStart => exact ⟨n, Nat.le_refl _, hn, rfl, HC.out, Upd.refl _ _, HR.out⟩
  case round =>
    obtain ⟨m, hnm, hml, hk, hcur, hupd, hsp⟩ := hrel
    have HK := Lib.hid hk
    have HCu := Lib.hid hcur
    have HU := Lib.hid hupd
    have c0 := hcur.c0
    have c1 := hcur.c1
    have f1 := hcur.free 1
    clear hk hcur hupd
    by_cases hlt : m < l.length
    · have hlt' : (m : Int) < l.length := by omega
      have hcall := fun w => isSpace6_any l[m] w
      cases hb : isSp l[m]
      · have hs := spEnd_no hlt hb
        rw [hsp] at hs
        subst hs
        rw [hb] at hcall
        have HCL := Lib.hid hcall
        clear hcall hb hsp
        go_wp2_with fail
        go_quiet ((go_at_call 90; exact quiet_drewn HCL.out))
        go_wp2_with fail
        go_ret
        exact ⟨rfl, HCu.out.drewN _, HU.out.trans (drewN_upd _ _ _)⟩
      · have hs := spEnd_yes hlt hb
        rw [hsp] at hs
        rw [hb] at hcall
        have HS := Lib.hid hs.symm
        have HCL := Lib.hid hcall
        clear hcall hb hsp hs
        go_wp2_with fail
        go_quiet ((go_at_call 90; exact quiet_drewn HCL.out))
        go_wp2_with fail
        go_roundg (l.length - (m + 1))
        case measure => rw [HK.out]; omega
        case rel => exact ⟨m + 1, by omega, by omega, rfl, by rw [Int.natCast_add]; exact (HCu.out.drewN _).move _, (HU.out.trans (drewN_upd _ _ _)).trans (Upd.set_ _ _ _ _), HS.out⟩
    · obtain rfl : m = l.length := by omega
      rw [spEnd_end] at hsp
      subst hsp
      go_wp2_with fail
      go_quiet (fail)
      go_wp2_with fail
      go_ret
      exact ⟨rfl, HCu.out.drewN _, HU.out.trans (drewN_upd _ _ _)⟩

set_option maxHeartbeats 1000000 in
theorem lines_any (l : Bytes) (m : Int) (w : World) (hM : MaxLen m w) (hl : l.length < 4294967281) :
    Calls Tryz.prog 82 #[.string (S l)] w fun e w' => e = .returned (.string (S (linesB l))) ∧ Below w.heap.size w w' := by
  have hlen := crlf_len _ l (Nat.le_refl _)
  have h1 : ∀ w, MaxLen m w → Calls Tryz.prog 109 #[.string (S l), .string ⟨#[13, 10]⟩, .string ⟨#[10]⟩] w fun e w' => e = .returned (.string (S (crlf l))) ∧ Below w.heap.size w w' := fun w hw => by
    have := Tryz.strings_ReplaceAll (S l) (S [13, 10]) (S [10]) m w (by rw [S_size]; omega) hw (by decide) (by
      have := Lib.count_le l [13, 10]
      unfold Lib.countB
      rw [S_data, S_data, S_size, S_size]; simp; omega)
    rw [S_data, S_data, S_data] at this
    exact this
  have h2 : ∀ w, MaxLen m w → Calls Tryz.prog 109 #[.string (S (crlf l)), .string ⟨#[13]⟩, .string ⟨#[10]⟩] w fun e w' => e = .returned (.string (S (linesB l))) ∧ Below w.heap.size w w' := fun w hw => by
    have := Tryz.strings_ReplaceAll (S (crlf l)) (S [13]) (S [10]) m w (by rw [S_size]; omega) hw (by decide) (by
      have := Lib.count_le (crlf l) [13]
      unfold Lib.countB
      rw [S_data, S_data, S_size, S_size]; simp; omega)
    rw [S_data, S_data, S_data] at this
    have e : Lib.replaceAll (crlf l) [13] [10] = linesB l := lines_repl _ l (Nat.le_refl _)
    rw [e] at this
    exact this
  have H1 := Lib.hid h1
  have H2 := Lib.hid h2
  clear h1 h2 hlen
  generalize crlf l = C at *
  generalize linesB l = D at *
  go_enter Tryz.func82, Tryz.ntmps82
  go_wp2_with fail
  refine (H1.out _ hM).mono ?_
  rintro e w1 ⟨rfl, hb1⟩
  have hM1 := hM.below hb1
  have HB1 := Lib.hid hb1
  clear hb1
  go_wp2_with fail
  refine (H2.out _ hM1).mono ?_
  rintro e w2 ⟨rfl, hb2⟩
  have HB2 := Lib.hid hb2
  clear hb2
  go_wp2_with fail
  go_ret
  exact ⟨rfl, HB1.out.trans (HB2.out.mono HB1.out.size)⟩
end Go.Proofs.YtclhdppppgjgfaaGreatDoor
set_option linter.unusedVariables false
namespace Go.Proofs.YtclhdppppgjgfaaGreatDoor
open Go.RowKit

/-- A kind of element: its type, the slices' type, cells, bytes, and what its cells are. -/
structure Elt (α : Type) where
  T : TypeId
  TS : TypeId
  c : Nat
  bytes : Nat
  zero : Value
  El : World → (Nat → Prop) → α → List Value → Prop
structure Elt.Ok {α : Type} (E : Elt α) : Prop where
  info : (Tryz.prog.info? E.T).map (fun i => (i.zero, i.size, i.bytes)) = some (some E.zero, E.c, E.bytes)
  list : Tryz.prog.underlying E.TS = some (.slice E.T)
  zc : E.zero.cells.size = E.c
  pos : 0 < E.c
  small : E.bytes ≤ 1400
  keep : ∀ {w w' : World} {p p' : Nat → Prop} {a : α} {cs : List Value}, E.El w p a cs → (∀ k, p k → w'.heap[k]? = w.heap[k]?) → (∀ k, p k → p' k) → E.El w' p' a cs
  len : ∀ {w : World} {p : Nat → Prop} {a : α} {cs : List Value}, E.El w p a cs → cs.length = E.c
  one : ∀ {w : World} {p : Nat → Prop} {a : α} {cs : List Value}, E.El w p a cs → ∀ u ∈ cs, u.oneCell' = true

/-- The value v is a slice of these elements; all lies in blocks that satisfy p. -/
def ElsP {α : Type} (E : Elt α) (w : World) (p : Nat → Prop) (v : Value) (l : List α) : Prop :=
  ∃ A cap, v = .slice A l.length cap ∧ l.length ≤ cap ∧ (l = [] ∨ ∃ b off, A = some ⟨b, off, none⟩ ∧ p b ∧ ∀ (i : Nat) a, l[i]? = some a → ∃ cs, E.El w p a cs ∧ w.rangeAt b (off + i * E.c) cs)
/-- A slice that the call has built itself, in a block of its own from 'base' on; what its elements hold lies in blocks that satisfy p. -/
def ElRow {α : Type} (E : Elt α) (w : World) (base : Nat) (p : Nat → Prop) (v : Value) (l : List α) : Prop :=
  ∃ css : List (List Value), css.length = l.length ∧ (∀ (i : Nat) a cs, l[i]? = some a → css[i]? = some cs → E.El w p a cs) ∧ w.ownsRow base E.T E.c v l.length css.flatten

section
variable {α : Type} {E : Elt α} {w w' : World} {p p' : Nat → Prop} {v : Value} {l : List α} {base : Nat}
theorem ElsP.keep (hE : E.Ok) (h : ElsP E w p v l) (hb : ∀ k, p k → w'.heap[k]? = w.heap[k]?) (hp : ∀ k, p k → p' k) : ElsP E w' p' v l := by
  obtain ⟨A, cap, hv, hc, h⟩ := h
  refine ⟨A, cap, hv, hc, h.imp id ?_⟩
  rintro ⟨b, off, hA, hlt, hr⟩
  refine ⟨b, off, hA, hp b hlt, fun i a hi => ?_⟩
  obtain ⟨cs, h1, h2⟩ := hr i a hi
  exact ⟨cs, hE.keep h1 hb hp, rangeAt_keep h2 (hb b hlt)⟩
theorem ElsP.nil (E : Elt α) (w : World) (p : Nat → Prop) : ElsP E w p (.slice none 0 0) [] := ⟨none, 0, rfl, Nat.le_refl _, .inl rfl⟩
theorem ElsP.slice (h : ElsP E w p v l) : ∃ A cap, v = .slice A l.length cap ∧ l.length ≤ cap := by
  obtain ⟨A, cap, hv, hc, _⟩ := h; exact ⟨A, cap, hv, hc⟩
theorem ElsP.at_ {A : Option Addr} {n cap i : Nat} (h : ElsP E w p (.slice A n cap) l) (hi : i < l.length) :
    ∃ b off cs, A = some ⟨b, off, none⟩ ∧ p b ∧ w.rangeAt b (off + i * E.c) cs ∧ E.El w p l[i] cs := by
  obtain ⟨A', cap', hv, _, h⟩ := h
  cases hv
  rcases h with h | ⟨b, off, hA, hlt, hr⟩
  · subst h; simp at hi
  · obtain ⟨cs, h1, h2⟩ := hr i _ (List.getElem?_eq_getElem hi)
    exact ⟨b, off, cs, hA, hlt, h2, h1⟩
theorem ElRow.nil (E : Elt α) (w : World) (base : Nat) (p : Nat → Prop) : ElRow E w base p (.slice none 0 0) [] := ⟨[], rfl, by simp, World.ownsRow_nil w base _ _⟩
theorem ElRow.below (hE : E.Ok) (h : ElRow E w base p v l) (hb : Below w.heap.size w w') (hp : ∀ k, p k → k < w.heap.size) : ElRow E w' base p v l := by
  obtain ⟨css, h1, h2, h3⟩ := h
  exact ⟨css, h1, fun i k cs hk hc => hE.keep (h2 i k cs hk hc) (fun j hj => hb.block j (hp j hj)) (fun _ h => h), ownsRow_below h3 hb⟩
theorem ElRow.heap (hE : E.Ok) (h : ElRow E w base p v l) (hb : ∀ k, v.ownBlock = some k → w'.heap[k]? = w.heap[k]?) (hp : ∀ k, p k → w'.heap[k]? = w.heap[k]?) : ElRow E w' base p v l := by
  obtain ⟨css, h1, h2, h3⟩ := h
  exact ⟨css, h1, fun i k cs hk hc => hE.keep (h2 i k cs hk hc) hp (fun _ h => h), ownsRow_heap h3 hb⟩
theorem ElRow.more (hE : E.Ok) (h : ElRow E w base p v l) (hp : ∀ k, p k → p' k) : ElRow E w base p' v l := by
  obtain ⟨css, h1, h2, h3⟩ := h
  exact ⟨css, h1, fun i k cs hk hc => hE.keep (h2 i k cs hk hc) (fun _ _ => rfl) hp, h3⟩
theorem ElRow.base_ {base' : Nat} (h : ElRow E w base p v l) (hb : base' ≤ base) : ElRow E w base' p v l := by
  obtain ⟨css, h1, h2, h3⟩ := h
  exact ⟨css, h1, h2, ownsRow_base h3 hb⟩
theorem ElRow.lt (h : ElRow E w base p v l) : ∀ k, v.ownBlock = some k → base ≤ k ∧ k < w.heap.size := by
  obtain ⟨css, _, _, h3⟩ := h; exact h3.lt
theorem ElRow.slice (h : ElRow E w base p v l) : ∃ A cap, v = .slice A l.length cap ∧ l.length ≤ cap := by
  obtain ⟨css, _, _, h⟩ := h
  rcases h.2 with ⟨hv, hn⟩ | ⟨g, cap, cur, hv, _, _, hc, _⟩
  · exact ⟨none, 0, by rw [hv, hn], by omega⟩
  · exact ⟨_, cap, hv, hc⟩
theorem ElRow.elsP (hE : E.Ok) (h : ElRow E w base p v l) (hp : ∀ k, p k → p' k) (hr : ∀ k, v.ownBlock = some k → p' k) : ElsP E w p' v l := by
  obtain ⟨css, hl, hin, h⟩ := h
  rcases h.2 with ⟨hv, hn⟩ | ⟨g, cap, cur, hv, hg, hh, hc, _⟩
  · have : l = [] := List.eq_nil_of_length_eq_zero hn
    subst this
    exact ⟨none, 0, hv, by simp, .inl rfl⟩
  · have hlen : ∀ cs ∈ css, cs.length = E.c := fun cs hcs => by
      obtain ⟨i, hi⟩ := List.getElem?_of_mem hcs
      have hik : i < l.length := by rw [← hl]; exact (List.getElem?_eq_some_iff.1 hi).1
      exact hE.len (hin i _ cs (List.getElem?_eq_getElem hik) hi)
    refine ⟨_, cap, hv, hc, .inr ⟨g, 0, rfl, hr g (by rw [hv]; rfl), fun i k hi => ?_⟩⟩
    have hik : i < css.length := by rw [hl]; exact (List.getElem?_eq_some_iff.1 hi).1
    refine ⟨css[i], hE.keep (hin i k _ hi (List.getElem?_eq_getElem hik)) (fun _ _ => rfl) hp, fun j u hu => ?_⟩
    have hj : j < E.c := by have := (List.getElem?_eq_some_iff.1 hu).1; rw [hlen _ (List.getElem_mem hik)] at this; exact this
    have hx := flat_at (c := E.c) (css := css) hlen (i := i) (j := j) (List.getElem?_eq_getElem hik) hj
    have := h.cells (g := g) (by rw [hv]; rfl) (i * E.c + j) u (by rw [hx]; exact hu)
    rw [add_zero_block] at this
    rw [show 0 + i * E.c + j = i * E.c + j by omega]
    exact this
/-- The block of a row that is not empty. -/
theorem ElRow.ptr {A : Option Addr} {n c : Nat} (h : ElRow E w base p (.slice A n c) l) (hne : 1 ≤ l.length) : ∃ g, A = some ⟨g, 0, none⟩ ∧ base ≤ g ∧ g < w.heap.size := by
  obtain ⟨css, _, _, hown⟩ := h
  rcases hown.2 with ⟨_, h0⟩ | ⟨g, cap, cur, hv, hg, hh, _⟩
  · omega
  · cases hv; exact ⟨g, rfl, hg, heap_lt hh⟩
theorem ElRow.free {g n c : Nat} (h : ElRow E w base p (.slice (some ⟨g, 0, none⟩) n c) l) (j : Nat) : w.frozen? ⟨g, j, none⟩ = false := by
  obtain ⟨css, _, _, hown⟩ := h
  rcases hown.2 with ⟨hv, h0⟩ | ⟨g', cap, cur, hv, hg, hh, _⟩
  · cases hv
  · cases hv; exact Lib.frozen_of_heap hh j
theorem ElRow.at_ (hE : E.Ok) {g n c : Nat} (h : ElRow E w base p (.slice (some ⟨g, 0, none⟩) n c) l) {i : Nat} (hi : i < l.length) : ∃ cs, E.El w p l[i] cs ∧ w.rangeAt g (i * E.c) cs := by
  obtain ⟨css, hl, hin, hown⟩ := h
  have hic : i < css.length := by omega
  have hlen : ∀ cs ∈ css, cs.length = E.c := fun cs hcs => by
    obtain ⟨i, hi⟩ := List.getElem?_of_mem hcs
    have hik : i < l.length := by rw [← hl]; exact (List.getElem?_eq_some_iff.1 hi).1
    exact hE.len (hin i _ cs (List.getElem?_eq_getElem hik) hi)
  refine ⟨css[i], hin i _ _ (List.getElem?_eq_getElem hi) (List.getElem?_eq_getElem hic), fun j u hu => ?_⟩
  have hj : j < E.c := by have := (List.getElem?_eq_some_iff.1 hu).1; rw [hlen _ (List.getElem_mem hic)] at this; exact this
  have := hown.cells (g := g) rfl (i * E.c + j) u (by rw [flat_at hlen (List.getElem?_eq_getElem hic) hj]; exact hu)
  rw [add_zero_block] at this
  exact this
/-- The cells of a slice, one behind the other. -/
theorem ElsP.css (hE : E.Ok) {ad : Addr} {n c : Nat} (h : ElsP E w p (.slice (some ad) n c) l) : ∃ css : List (List Value), css.length = l.length ∧ (∀ (i : Nat) a cs, l[i]? = some a → css[i]? = some cs → E.El w p a cs) ∧ ∀ j u, css.flatten[j]? = some u → w.cell? (ad.add j) = some u := by
  obtain ⟨A', cap', hv, hcl, h⟩ := h
  rcases h with h | ⟨b, off, hA, hlt, hr⟩
  · subst h; exact ⟨[], rfl, by simp, by simp⟩
  · cases hv
    cases hA
    clear hlt hcl
    have hadd : ∀ j, (⟨b, off, none⟩ : Addr).add j = ⟨b, off + j, none⟩ := fun j => by unfold Addr.add; split <;> simp_all
    simp only [hadd]
    clear hadd
    induction l generalizing off with
    | nil => exact ⟨[], rfl, by simp, by simp⟩
    | cons x l ih =>
      obtain ⟨cs, h1, h2⟩ := hr 0 x rfl
      obtain ⟨css, h3, h4, h5⟩ := ih (off + E.c) (fun i a hi => by
        obtain ⟨cs, q1, q2⟩ := hr (i + 1) a (by simpa using hi)
        exact ⟨cs, q1, by rw [show off + E.c + i * E.c = off + (i + 1) * E.c by rw [Nat.succ_mul]; omega]; exact q2⟩)
      refine ⟨cs :: css, by simp [h3], ?_, ?_⟩
      · intro i a c' ha hc
        cases i with
        | zero => simp at ha hc; subst ha hc; exact h1
        | succ i => exact h4 i a c' (by simpa using ha) (by simpa using hc)
      · intro j u hu
        have hl := hE.len h1
        rw [List.flatten_cons] at hu
        by_cases hj : j < E.c
        · rw [List.getElem?_append_left (by omega)] at hu
          have := h2 j u hu
          rw [show off + 0 * E.c + j = off + j by omega] at this
          exact this
        · rw [List.getElem?_append_right (by omega), hl] at hu
          have := h5 _ u hu
          rw [show off + E.c + (j - E.c) = off + j by omega] at this
          exact this
theorem el_flat (hE : E.Ok) {css : List (List Value)} (hl : css.length = l.length) (hin : ∀ (i : Nat) a cs, l[i]? = some a → css[i]? = some cs → E.El w p a cs) : css.flatten.length = l.length * E.c ∧ ∀ u ∈ css.flatten, u.oneCell' = true := by
  have hm : ∀ cs ∈ css, ∃ a, E.El w p a cs := fun cs hcs => by
    obtain ⟨i, hi⟩ := List.getElem?_of_mem hcs
    have hik : i < l.length := by rw [← hl]; exact (List.getElem?_eq_some_iff.1 hi).1
    exact ⟨_, hin i _ cs (List.getElem?_eq_getElem hik) hi⟩
  refine ⟨by rw [flat_len (c := E.c) (fun cs hcs => by obtain ⟨a, h⟩ := hm cs hcs; exact hE.len h), hl], fun u hu => ?_⟩
  obtain ⟨cs, hcs, hu⟩ := List.mem_flatten.1 hu
  obtain ⟨a, h⟩ := hm cs hcs
  exact hE.one h u hu
end

/-! Appending. -/
theorem el_grew {w w' : World} {v v' : Value} {o : Obj} (h2 : (w.alloc o).grownBy w' v.ownBlock) : Grew w v v' w' :=
  ⟨⟨h2.os, h2.tape, h2.output, by have := h2.size; simp at this; omega, fun j hj hne => (h2.block j (by simp; omega) hne).trans (Below.heap_alloc w _ j hj)⟩, by have := h2.size; simp at this; omega⟩
theorem el_append_row {α : Type} {E : Elt α} (hE : E.Ok) {w w' : World} {base : Nat} {p : Nat → Prop} {v' : Value} {l : List α} {css : List (List Value)} (hl : css.length = l.length) (hin : ∀ (i : Nat) a cs, l[i]? = some a → css[i]? = some cs → E.El w p a cs)
    {k : α} {cs : List Value} (hk : E.El w p k cs) (hkeep : ∀ j, p j → w'.heap[j]? = w.heap[j]?) (h1 : w'.ownsRow base E.T E.c v' (l.length + 1) (css.flatten ++ cs)) : ElRow E w' base p v' (l ++ [k]) := by
  refine ⟨css ++ [cs], by simp [hl], ?_, ?_⟩
  · intro i k' cs' hk' hcs'
    by_cases hi : i < l.length
    · rw [List.getElem?_append_left hi] at hk'
      rw [List.getElem?_append_left (by omega)] at hcs'
      exact hE.keep (hin i k' cs' hk' hcs') hkeep (fun _ h => h)
    · have hi2 : i = l.length := by
        have := (List.getElem?_eq_some_iff.1 hk').1
        simp at this; omega
      subst hi2
      rw [List.getElem?_append_right (Nat.le_refl _)] at hk'
      rw [List.getElem?_append_right (by omega), hl] at hcs'
      simp at hk' hcs'
      subst hk' hcs'
      exact hE.keep hk hkeep (fun _ h => h)
  · rw [List.flatten_append, List.length_append]
    simpa using h1
theorem els_append {α : Type} {E : Elt α} (hE : E.Ok) {ops : Array Oper} {rest : List Oper} {o : Oper} {a : Act} {Q : Exit → Act → World → Prop} (hgd : o.guard = none) (s x : Operand)
    (ho : o.op = .call { callee := .builtin .append, args := #[s, x], argTypes := #[E.TS, E.TS] })
    (w : World) (base : Nat) (p : Nat → Prop) (v : Value) (l : List α) (hs : a.eval s = v) (h : ElRow E w base p v l) (t : α) (cs : List Value) (H : Nat) (hH : w.heap.size = H) (hx : a.eval x = .slice (some ⟨H, 0, none⟩) 1 1) (ht : E.El w p t cs) (hB : ∀ j, p j → v.ownBlock ≠ some j) (hB2 : ∀ j, p j → j < w.heap.size) (hbase : base ≤ w.heap.size) (hlen : l.length < 10000000000)
    (hK : ∀ g cap w', (v.ownBlock = some g ∨ w.heap.size ≤ g) → g < w'.heap.size → ElRow E w' base p (.slice (some ⟨g, 0, none⟩) (l.length + 1) cap) (l ++ [t]) → Grew w v (.slice (some ⟨g, 0, none⟩) (l.length + 1) cap) w' → Below base w w' → wpList Tryz.prog ops Q rest (a.put o.dst (.slice (some ⟨g, 0, none⟩) (l.length + 1) cap)) w') :
    wpList Tryz.prog ops Q (o :: rest) a (w.alloc (.cells cs.toArray E.T)) := by
  subst hH
  obtain ⟨i0, hi0, hz0, hz1, hz2⟩ := info_parts hE.info
  obtain ⟨css, hl, hin, hown⟩ := h
  have hsm := hE.small
  have hby : (l.length + 1) * E.bytes ≤ 140737488355328 := Nat.le_trans (Nat.mul_le_mul_left _ hsm) (by omega)
  refine wpList_append_lies _ hgd s x E.TS ho base E.T i0 _ E.c E.bytes hE.list hi0 hz0 hz1 hz2 hE.zc hE.pos v l.length css.flatten hs (ownsRow_below hown ((Below.refl _ _).alloc (Nat.le_refl _) _)) ⟨w.heap.size, 0, none⟩ 1 1 cs hx (by rw [hE.len ht, Nat.one_mul]) ?_ (hE.one ht) (by omega) (by unfold maxLen; omega) hby (by simp; omega) _ rfl ?_
  · intro j u hu
    exact World.news_of_block (heap_alloc_new w (.cells cs.toArray E.T)) j u (by simpa using hu)
  · intro g cap w' h1 h2 hat hlt'
    have hlt := hown.lt
    have hbelow : Below base w w' := ((Below.refl _ _).alloc hbase _).trans (row_grown h2 (by simp; omega) (fun k hk => by have := hlt k hk; simp; omega))
    exact hK g cap w' (hat.imp id (fun e => by rw [e]; simp)) hlt' (el_append_row hE hl hin ht (fun j hj => (h2.block j (by simp; have := hB2 j hj; omega) (fun e => hB j hj e.symm)).trans (Below.heap_alloc w _ j (hB2 j hj))) h1) (el_grew h2) hbelow
theorem els_append_step {α : Type} {E : Elt α} (hE : E.Ok) {ops : Array Oper} {o : Oper} {a : Act} {K : Act → World → Prop} {Q : Exit → Act → World → Prop} {Z : Prop} (hgd : o.guard = none) (s x : Operand)
    (ho : o.op = .call { callee := .builtin .append, args := #[s, x], argTypes := #[E.TS, E.TS] })
    (w : World) (base : Nat) (p : Nat → Prop) (v : Value) (l : List α) (hs : a.eval s = v) (h : ElRow E w base p v l) (t : α) (cs : List Value) (H : Nat) (hH : w.heap.size = H) (hx : a.eval x = .slice (some ⟨H, 0, none⟩) 1 1) (ht : E.El w p t cs) (hB : ∀ j, p j → v.ownBlock ≠ some j) (hB2 : ∀ j, p j → j < w.heap.size) (hbase : base ≤ w.heap.size) (hlen : l.length < 10000000000)
    (hK : ∀ g cap w', (v.ownBlock = some g ∨ w.heap.size ≤ g) → g < w'.heap.size → ElRow E w' base p (.slice (some ⟨g, 0, none⟩) (l.length + 1) cap) (l ++ [t]) → Grew w v (.slice (some ⟨g, 0, none⟩) (l.length + 1) cap) w' → Below base w w' → K (a.put o.dst (.slice (some ⟨g, 0, none⟩) (l.length + 1) cap)) w') :
    if Region.wanted o (yielded ops a.tmps) = true then Oper.wp Tryz.prog o a (w.alloc (.cells cs.toArray E.T)) K Q else Z := by
  subst hH
  obtain ⟨i0, hi0, hz0, hz1, hz2⟩ := info_parts hE.info
  obtain ⟨css, hl, hin, hown⟩ := h
  have hsm := hE.small
  have hby : (l.length + 1) * E.bytes ≤ 140737488355328 := Nat.le_trans (Nat.mul_le_mul_left _ hsm) (by omega)
  refine step_append_lies _ hgd s x E.TS ho base E.T i0 _ E.c E.bytes hE.list hi0 hz0 hz1 hz2 hE.zc hE.pos v l.length css.flatten hs (ownsRow_below hown ((Below.refl _ _).alloc (Nat.le_refl _) _)) ⟨w.heap.size, 0, none⟩ 1 1 cs hx (by rw [hE.len ht, Nat.one_mul]) ?_ (hE.one ht) (by omega) (by unfold maxLen; omega) hby (by simp; omega) _ rfl ?_
  · intro j u hu
    exact World.news_of_block (heap_alloc_new w (.cells cs.toArray E.T)) j u (by simpa using hu)
  · intro g cap w' h1 h2 hat hlt'
    have hlt := hown.lt
    have hbelow : Below base w w' := ((Below.refl _ _).alloc hbase _).trans (row_grown h2 (by simp; omega) (fun k hk => by have := hlt k hk; simp; omega))
    exact hK g cap w' (hat.imp id (fun e => by rw [e]; simp)) hlt' (el_append_row hE hl hin ht (fun j hj => (h2.block j (by simp; have := hB2 j hj; omega) (fun e => hB j hj e.symm)).trans (Below.heap_alloc w _ j (hB2 j hj))) h1) (el_grew h2) hbelow

/-- Appending all elements of a slice. -/
theorem run_append_els {α : Type} {E : Elt α} (hE : E.Ok) (w : World) (ty : TypeId) (base : Nat) (p : Nat → Prop) (v : Value) (xs : List α) (hx : ElRow E w base p v xs) (A : Option Addr) (n c : Nat) (l : List α) (h : ElsP E w p (.slice A n c) l) (hbase : base ≤ w.heap.size) (hl : xs.length + l.length < 10000000000)
    (hB : ∀ j, p j → v.ownBlock ≠ some j) (hB2 : ∀ j, p j → j < w.heap.size) :
    ∃ v' w', (Builtin.append_ #[E.TS, E.TS] ty #[v, .slice A n c]).run Tryz.prog w = .ok v' w' ∧ ElRow E w' base p v' (xs ++ l) ∧ Grew w v v' w' ∧ Below base w w' ∧ (v'.ownBlock = v.ownBlock ∨ v'.ownBlock = some w.heap.size) := by
  obtain ⟨i0, hi0, hz0, hz1, hz2⟩ := info_parts hE.info
  have hnl : n = l.length := by obtain ⟨A', c', hv, _⟩ := h; cases hv; rfl
  subst hnl
  have hsm := hE.small
  have hby : (xs.length + l.length) * E.bytes ≤ 140737488355328 := Nat.le_trans (Nat.mul_le_mul_left _ hsm) (by omega)
  cases A with
  | none =>
    have hn : l = [] := by
      obtain ⟨A', c', hv, _, h⟩ := h
      rcases h with h | ⟨b, off, hA, _⟩
      · exact h
      · cases hv; cases hA
    subst hn
    refine ⟨v, w, ?_, by rw [List.append_nil]; exact hx, ⟨⟨rfl, rfl, rfl, Nat.le_refl _, fun _ _ _ => rfl⟩, Nat.le_refl _⟩, Below.refl _ _, .inl rfl⟩
    obtain ⟨css, _, _, hx⟩ := hx
    rcases hx.2 with ⟨rfl, hn⟩ | ⟨g, cap, cur, rfl, _, _, hnc, _⟩
    · simp [Builtin.append_, run_underlying hE.list, sizeOf, typeInfo, hi0, Builtin.lenOf, Builtin.firstCells]
    · simp [Builtin.append_, run_underlying hE.list, sizeOf, typeInfo, hi0, Builtin.lenOf, Builtin.firstCells, hnc, storeCells]
  | some ad =>
    obtain ⟨css, hl1, hin1, hown⟩ := hx
    obtain ⟨dss, hl2, hin2, hcells⟩ := h.css hE
    obtain ⟨v', w', h1, h2, h3, _, h5⟩ := run_append_own_at (P := Tryz.prog) w base E.TS ty E.T i0 _ E.c E.bytes hE.list hi0 hz0 hz1 hz2 hE.zc hE.pos v xs.length _ hown ad l.length c dss.flatten (el_flat hE hl2 hin2).1 hcells (el_flat hE hl2 hin2).2 (by unfold maxLen; omega) hby hbase
    have hkeep : ∀ j, p j → w'.heap[j]? = w.heap[j]? := fun j hj => h3.block j (hB2 j hj) (fun e => hB j hj e.symm)
    refine ⟨v', w', h1, ⟨css ++ dss, by simp [hl1, hl2], ?_, ?_⟩, ⟨h3, h3.size⟩, row_grown h3 hbase hown.lt, h5⟩
    · intro i a cs ha hc
      by_cases hi : i < xs.length
      · rw [List.getElem?_append_left hi] at ha
        rw [List.getElem?_append_left (by omega)] at hc
        exact hE.keep (hin1 i a cs ha hc) hkeep (fun _ h => h)
      · rw [List.getElem?_append_right (by omega)] at ha
        rw [List.getElem?_append_right (by omega), hl1] at hc
        exact hE.keep (hin2 _ a cs ha hc) hkeep (fun _ h => h)
    · rw [List.flatten_append, List.length_append]
      exact h2
theorem els_append_all {α : Type} {E : Elt α} (hE : E.Ok) {ops : Array Oper} {rest : List Oper} {o : Oper} {a : Act} {Q : Exit → Act → World → Prop} (hgd : o.guard = none) (d s : Operand)
    (ho : o.op = .call { callee := .builtin .append, args := #[d, s], argTypes := #[E.TS, E.TS] })
    (w : World) (base : Nat) (p : Nat → Prop) (v : Value) (xs : List α) (hd : a.eval d = v) (hx : ElRow E w base p v xs) (A : Option Addr) (n c : Nat) (l : List α) (hs : a.eval s = .slice A n c) (h : ElsP E w p (.slice A n c) l) (hbase : base ≤ w.heap.size) (hl : xs.length + l.length < 10000000000)
    (hB : ∀ j, p j → v.ownBlock ≠ some j) (hB2 : ∀ j, p j → j < w.heap.size)
    (hK : ∀ v' w', ElRow E w' base p v' (xs ++ l) → Grew w v v' w' → Below base w w' → (v'.ownBlock = v.ownBlock ∨ v'.ownBlock = some w.heap.size) → wpList Tryz.prog ops Q rest (a.put o.dst v') w') : wpList Tryz.prog ops Q (o :: rest) a w := by
  refine wpList_plain hgd fun K hK' => ?_
  obtain ⟨v', w', hrun, h1, h2, h3, h4⟩ := run_append_els hE w o.type base p v xs hx A n c l h hbase hl hB hB2
  unfold Oper.wp
  simp [execOp, ho, resolve, invoke, builtin, hd, hs, hrun, Result.andThen]
  exact hK' _ _ (hK v' w' h1 h2 h3 h4)
theorem ElRow.loose {α : Type} {E : Elt α} {w : World} {base : Nat} {p : Nat → Prop} {v : Value} {l : List α} {b : Nat} (h : ElRow E w base p v l) (hb : v.ownBlock = some b) : Loose w b := by
  obtain ⟨css, _, _, h3⟩ := h
  exact ownsRow_loose h3 hb
end Go.Proofs.YtclhdppppgjgfaaGreatDoor
set_option linter.unusedVariables false
namespace Go.Proofs.YtclhdppppgjgfaaGreatDoor
open Go.RowKit

/-! Strings as elements. -/
abbrev str6E : Elt Bytes where
  T := 9
  TS := 110
  c := 1
  bytes := 16
  zero := .string ByteArray.empty
  El := fun _ _ s cs => cs = [.string (S s)]
theorem info6Str : (Tryz.prog.info? 9).map (fun i => (i.zero, i.size, i.bytes)) = some (some (.string ByteArray.empty), 1, 16) := by kernel_rfl
theorem str6E_ok : str6E.Ok where
  info := info6Str
  list := Tryz.underlying110
  zc := rfl
  pos := by decide
  small := by decide
  keep := fun h _ _ => h
  len := fun h => by rw [h]; rfl
  one := fun h => by rw [h]; intro u hu; simp at hu; subst hu; rfl
/-- The four strings. -/
def repS : List Bytes := [[10], [32], [9], [32]]
def RepS (w : World) (k : Nat) : Prop := w.cell? ⟨k, 0, none⟩ = some (.string (S [10])) ∧ w.cell? ⟨k, 1, none⟩ = some (.string (S [32])) ∧ w.cell? ⟨k, 2, none⟩ = some (.string (S [9])) ∧ w.cell? ⟨k, 3, none⟩ = some (.string (S [32]))
/-- The Replacer's block. -/
def Rep (w : World) (h : Nat) (done state : Int) (r s : Value) : Prop :=
  w.heap[h]? = some (.cells #[.int .u32 done, .int .i32 state, .int .u32 0, r, s] 173 (0, 0))

theorem rep_row {w : World} {base : Nat} {p : Nat → Prop} {v : Value} (h : ElRow str6E w base p v ([] ++ repS)) : ∃ k c, v = .slice (some ⟨k, 0, none⟩) 4 c ∧ base ≤ k ∧ k < w.heap.size ∧ RepS w k := by
  rw [List.nil_append] at h
  obtain ⟨A, c, rfl, hc⟩ := h.slice
  obtain ⟨k, rfl, hk, hk2⟩ := h.ptr (by decide)
  refine ⟨k, c, rfl, hk, hk2, ?_⟩
  have q : ∀ i (hi : i < repS.length), w.cell? ⟨k, i, none⟩ = some (.string (S repS[i])) := fun i hi => by
    obtain ⟨cs, h1, h2⟩ := h.at_ str6E_ok hi
    have h1' : cs = [.string (S repS[i])] := h1
    subst h1'
    have := h2 0 _ rfl
    simpa using this
  exact ⟨q 0 (by decide), q 1 (by decide), q 2 (by decide), q 3 (by decide)⟩
theorem RepS.below {w w' : World} {k : Nat} (h : RepS w k) (hk : k < w.heap.size) (hb : Below w.heap.size w w') : RepS w' k := by
  have q : ∀ i, w'.cell? ⟨k, i, none⟩ = w.cell? ⟨k, i, none⟩ := fun i => World.cell?_of_block (w := w) (hb.block _ hk)
  unfold RepS at *
  rw [q, q, q, q]; exact h

set_option maxHeartbeats 1000000 in
theorem newRepl_any (g : Nat) (w : World) (hg : w.heap[g]? = some (.cells #[.string ⟨#[10]⟩, .string ⟨#[32]⟩, .string ⟨#[9]⟩, .string ⟨#[32]⟩] 9 (0, 0))) :
    Calls Tryz.prog 115 #[.slice (some ⟨g, 0, none⟩) 4 4] w fun e w' =>
      ∃ h k c, e = .returned (.pointer (some ⟨h, 0, none⟩)) ∧ Rep w' h 0 0 .nilIface (.slice (some ⟨k, 0, none⟩) 4 c) ∧ RepS w' k ∧ w.heap.size ≤ h ∧ k ≠ h ∧ w.heap.size ≤ k ∧ k < w'.heap.size ∧ Below w.heap.size w w' := by
  have hP : ElsP str6E w (fun b => b < w.heap.size) (.slice (some ⟨g, 0, none⟩) repS.length 4) repS := by
    refine ⟨_, _, rfl, by decide, .inr ⟨g, 0, rfl, heap_lt hg, fun i a hi => ⟨[.string (S a)], rfl, ?_⟩⟩⟩
    intro j v hj
    cases j with
    | succ j => simp at hj
    | zero =>
      simp at hj
      subst hj
      rw [Lib.cell_of_heap hg]
      match i, hi with
      | 0, hi => cases hi; rfl
      | 1, hi => cases hi; rfl
      | 2, hi => cases hi; rfl
      | 3, hi => cases hi; rfl
  go_enter Tryz.func115, Tryz.ntmps115
  go_wp2_with (at_builtin; refine els_append_all str6E_ok rfl _ _ rfl w w.heap.size _ (.slice none 0 0) [] rfl (ElRow.nil str6E w _ _) _ _ _ repS rfl hP (Nat.le_refl _) (by decide) (by simp [Value.ownBlock]) (fun _ h => h) ?_; intro v' w' r1 r2 r3 r4; obtain ⟨k, c, rfl, hk1, hk2, hk3⟩ := rep_row r1)
  go_ret
  exact ⟨w'.heap.size, k, c, rfl, heap_alloc_new w' _, hk3.below hk2 ((Below.refl _ _).alloc (Nat.le_refl _) _), r3.size, by omega, hk1, by simp; omega, r3.alloc r3.size _⟩

/-! The table. -/
def tabL (f : Nat → UInt8) : List Value := (List.range 256).map fun i => .int .u8 (f i).toNat
def Tab8 (w : World) (t : Nat) (f : Nat → UInt8) : Prop := w.heap[t]? = some (.cells (tabL f).toArray 196 (0, 0))
def repT (i : Nat) : UInt8 := if i = 10 ∨ i = 9 then 32 else UInt8.ofNat i

theorem cell_lt {w : World} {b i : Nat} {v : Value} (h : w.cell? ⟨b, i, none⟩ = some v) : b < w.heap.size := by
  rcases Nat.lt_or_ge b w.heap.size with h' | h'
  · exact h'
  · unfold World.cell? at h; simp [Array.getElem?_eq_none h'] at h
theorem tabL_len (f : Nat → UInt8) : (tabL f).length = 256 := by unfold tabL; simp
theorem tabL_get {f : Nat → UInt8} {i : Nat} (h : i < 256) : (tabL f)[i]? = some (.int .u8 (f i).toNat) := by
  unfold tabL
  rw [List.getElem?_map, List.getElem?_range h]; rfl
theorem tabL_set {f : Nat → UInt8} {i : Nat} (h : i < 256) (c : UInt8) : (tabL f).set i (.int .u8 c.toNat) = tabL (fun j => if j = i then c else f j) := by
  refine List.ext_getElem? fun j => ?_
  by_cases hj : j < 256
  · rw [tabL_get hj]
    by_cases hij : i = j
    · subst hij
      rw [List.getElem?_set_self (by rw [tabL_len]; exact h), if_pos rfl]
    · rw [List.getElem?_set_ne hij, tabL_get hj, if_neg (fun e => hij e.symm)]
  · rw [List.getElem?_eq_none (by rw [List.length_set, tabL_len]; omega), List.getElem?_eq_none (by rw [tabL_len]; omega)]
section
variable {w w' : World} {t : Nat} {f : Nat → UInt8}
theorem Tab8.lt (h : Tab8 w t f) : t < w.heap.size := heap_lt h
theorem Tab8.cell (h : Tab8 w t f) {i : Nat} (hi : i < 256) : w.cell? ⟨t, i, none⟩ = some (.int .u8 (f i).toNat) := by
  rw [Lib.cell_of_heap h]
  have := tabL_get (f := f) hi
  simpa using this
theorem Tab8.free (h : Tab8 w t f) (i : Nat) : w.frozen? ⟨t, i, none⟩ = false := Lib.frozen_of_heap h i
theorem Tab8.set_ (h : Tab8 w t f) {i : Nat} (hi : i < 256) (c : UInt8) : Tab8 (w.setCell ⟨t, i, none⟩ (.int .u8 c.toNat)) t (fun j => if j = i then c else f j) := by
  have := heap_set (i := i) h (.int .u8 c.toNat)
  unfold Tab8
  rw [this, ← tabL_set hi]
  simp
theorem Tab8.below (h : Tab8 w t f) (hb : Below w.heap.size w w') : Tab8 w' t f := (hb.block _ h.lt).trans h
theorem Tab8.congr (h : Tab8 w t f) {g : Nat → UInt8} (e : ∀ i, i < 256 → f i = g i) : Tab8 w t g := by
  have : tabL f = tabL g := List.map_congr_left fun i hi => by rw [e i (List.mem_range.1 hi)]
  unfold Tab8 at *
  rw [← this]; exact h
end
theorem zero186 : Tryz.zeroCells196 = (tabL fun _ => 0).toArray := by kernel_rfl
theorem zero_store (w : World) : ∃ W, (storeCells ⟨w.heap.size, 0, none⟩ Tryz.zeroCells196.toList).run Tryz.prog (w.alloc (.cells Tryz.zeroCells196 196)) = .ok () W ∧ Tab8 W w.heap.size (fun _ => 0) ∧ Below w.heap.size w W ∧ W.heap.size = w.heap.size + 1 := by
  have h0 := heap_alloc_new w (.cells Tryz.zeroCells196 196)
  have hl : Tryz.zeroCells196.toList.length = 256 := by rw [zero186]; simp [tabL_len]
  have hs : Tryz.zeroCells196.size = 256 := by rw [zero186]; simp [tabL_len]
  have h1 := run_storeCells_at Tryz.prog w.heap.size 0 196 Tryz.zeroCells196.toList 0 _ _ h0 (by rw [hl, hs]; omega) (by
    rw [zero186]
    intro v hv
    simp [tabL] at hv
    rw [← hv.2]; rfl)
  refine ⟨_, h1, ?_, ?_, ?_⟩
  · have := setRow_heap (w.alloc (.cells Tryz.zeroCells196 196)) w.heap.size _ (Tryz.zeroCells196.toList.take (0 + 0) ++ Tryz.zeroCells196.toList ++ Tryz.zeroCells196.toList.drop (0 + 0 + Tryz.zeroCells196.toList.length)).toArray 196 (0, 0) h0
    unfold Tab8
    rw [this]
    simp [zero186]
  · exact ((Below.refl _ _).alloc (Nat.le_refl _) _).trans ((upd_setRow _ _ _).below (Nat.le_refl _) (by simp))
  · simp [World.setRow]
theorem byte_mod {i : Nat} (h : i < 256) : Value.int .u8 (i : Int) = .int .u8 (UInt8.ofNat i).toNat := by
  rw [UInt8.toNat_ofNat', Nat.mod_eq_of_lt (by omega)]
set_option maxHeartbeats 2000000 in
set_option maxRecDepth 100000 in
theorem build_any (h k c : Nat) (w : World) (hR : Rep w h 0 1 .nilIface (.slice (some ⟨k, 0, none⟩) 4 c)) (hS : RepS w k) :
    Calls Tryz.prog 143 #[.pointer (some ⟨h, 0, none⟩)] w fun e w' =>
      ∃ t, e = .returned (.iface 197 (.pointer (some ⟨t, 0, none⟩))) ∧ Tab8 w' t repT ∧ w.heap.size ≤ t ∧ t < w'.heap.size ∧ Below w.heap.size w w' := by
  have h2 : w.cell? ⟨h, 4, none⟩ = some (.slice (some ⟨k, 0, none⟩) 4 c) := by rw [Lib.cell_of_heap hR]; rfl
  have hk : k < w.heap.size := cell_lt hS.1
  have HS := Lib.hid hS
  obtain ⟨s0, s1, s2, s3⟩ := hS
  obtain ⟨W, hst, hT, hB, hsz⟩ := zero_store w
  have HT := Lib.hid hT
  have HB := Lib.hid hB
  have HZ := Lib.hid hsz
  clear hT hB hsz hR
  go_enter Tryz.func143, Tryz.ntmps143
  go_wp2_with fail
  go_loop [4, 5] (fun s4 s5 => ∃ i : Nat, (i = 0 ∨ i = 2 ∨ i = 4) ∧ s4 = .bool true ∧ s5 = .int .i64 i) (fun _ s5 => 4 - (intOf s5).toNat)
  case atStart => exact ⟨0, .inl rfl, rfl, rfl⟩
  case round =>
    obtain ⟨i, hi, rfl, rfl⟩ := hrel
    rcases hi with rfl | rfl | rfl
    · go_wp2_with fail
      go_round
      case rel => exact ⟨2, .inr (.inl rfl), rfl, rfl⟩
      case measure => simp [intOf]
    · go_wp2_with fail
      go_round
      case rel => exact ⟨4, .inr (.inr rfl), rfl, rfl⟩
      case measure => simp [intOf]
    · go_wp2_with fail
      go_loopw [61] (fun s61 wr => ∃ i : Nat, i ≤ 256 ∧ s61 = .int .i64 i ∧ Tab8 wr w.heap.size (fun j => if j < i then UInt8.ofNat j else 0) ∧ Below w.heap.size w wr) (fun s61 _ => 256 - (intOf s61).toNat)
      case atStart => exact ⟨0, by omega, rfl, HT.out.congr (by simp), HB.out⟩
      case round =>
        obtain ⟨i, hi, rfl, hT, hB⟩ := hrel
        have HT := Lib.hid hT
        have HB := Lib.hid hB
        by_cases hlt : i < 256
        · have hlt' : (i : Int) < 256 := by omega
          have hc := hT.cell hlt
          have hf := hT.free i
          clear hT hB
          go_wp2_with fail
          go_roundw
          case rel =>
            refine ⟨i + 1, by omega, by go_num, ?_, HB.out.setCell (p := ⟨w.heap.size, i, none⟩) (Nat.le_refl _) _⟩
            rw [byte_mod hlt]
            refine (HT.out.set_ hlt _).congr fun j hj => ?_
            by_cases h1 : j = i
            · subst h1; rw [if_pos rfl, if_pos (by omega)]
            · rw [if_neg h1]
              by_cases h2 : j < i
              · rw [if_pos h2, if_pos (by omega)]
              · rw [if_neg h2, if_neg (by omega)]
          case measure => simp [intOf]; omega
        · have hT1 : Hid (Tab8 wr w.heap.size UInt8.ofNat) := hT.congr fun j hj => by rw [if_pos (by omega)]
          have hlt' : ¬ (i : Int) < 256 := by omega
          have HB2 := Lib.hid hB
          clear hT hB hst HT HB HZ
          go_wp2_with fail
          go_loopw [8, 9, 10] (fun s8 s9 s10 wx => ∃ (i : Nat), (s8 = .int .i64 2 ∧ i = 0 ∨ s8 = .int .i64 0 ∧ i = 1 ∨ s8 = .int .i64 (-2) ∧ i = 2) ∧ Tab8 wx w.heap.size (fun j => if 1 ≤ i ∧ j = 9 ∨ 2 ≤ i ∧ j = 10 then 32 else UInt8.ofNat j) ∧ Below w.heap.size w wx) (fun s8 _ _ _ => (intOf s8 + 2).toNat)
          case atStart => exact ⟨0, .inl ⟨rfl, rfl⟩, hT1.out.congr (by intro j hj; rw [if_neg (by omega)]), HB2.out⟩
          case round =>
            clear HB2 hT1
            obtain ⟨i, hi, hT, hB⟩ := hrel
            have HT := Lib.hid hT
            have HB := Lib.hid hB
            have HS2 : RepS wr k := HS.out.below hk hB
            obtain ⟨s0, s1, s2, s3⟩ := HS2
            clear HS
            rcases hi with ⟨rfl, rfl⟩ | ⟨rfl, rfl⟩ | ⟨rfl, rfl⟩
            · have hc := hT.cell (i := 9) (by omega)
              have hf := hT.free 9
              clear hT hB
              go_wp2_with fail
              go_roundw
              case rel =>
                refine ⟨1, .inr (.inl ⟨rfl, rfl⟩), ?_, HB.out.setCell (p := ⟨w.heap.size, 9, none⟩) (Nat.le_refl _) _⟩
                refine (HT.out.set_ (i := 9) (by omega) 32).congr fun j hj => ?_
                by_cases h1 : j = 9
                · subst h1; simp
                · rw [if_neg h1]; simp [h1]
              case measure => simp [intOf]
            · have hc := hT.cell (i := 10) (by omega)
              have hf := hT.free 10
              clear hT hB
              go_wp2_with fail
              go_roundw
              case rel =>
                refine ⟨2, .inr (.inr ⟨rfl, rfl⟩), ?_, HB.out.setCell (p := ⟨w.heap.size, 10, none⟩) (Nat.le_refl _) _⟩
                refine (HT.out.set_ (i := 10) (by omega) 32).congr fun j hj => ?_
                by_cases h1 : j = 10
                · subst h1; simp
                · rw [if_neg h1]; simp [h1]
              case measure => simp [intOf]
            · have hlt := hT.lt
              clear hT hB
              go_wp2_with fail
              go_ret
              refine ⟨w.heap.size, rfl, HT.out.congr fun j hj => ?_, Nat.le_refl _, hlt, HB.out⟩
              unfold repT
              by_cases h1 : j = 10
              · subst h1; simp
              · by_cases h2 : j = 9
                · subst h2; simp
                · rw [if_neg (by omega), if_neg (by omega)]
end Go.Proofs.YtclhdppppgjgfaaGreatDoor
set_option linter.unusedVariables false
namespace Go.Proofs.YtclhdppppgjgfaaGreatDoor
open Go.RowKit

theorem ret_S {a b : Bytes} (h : a = b) : Ending.returned (.string (S a)) = .returned (.string (S b)) := by rw [h]

theorem nat_of {n m : Nat} (h : ((n : Int) == (m : Int)) = true) : n = m := by have := eq_of_beq h; omega
theorem nat_ne {n m : Nat} (h : ((n : Int) == (m : Int)) = false) : n ≠ m := by rw [beq_eq_false_iff_ne] at h; omega

set_option maxHeartbeats 1000000 in
theorem replacement_any (a : Bool) (c : UInt8) (w : World) :
    Calls Tryz.prog 78 #[.int .i64 (if a then 1 else 0), .int .u8 c.toNat] w fun e w' => e = .returned (.string (S (rep a c))) ∧ w = w' := by
  cases a
  all_goals
    go_enter Tryz.func78, Tryz.ntmps78
    go_wp2
    all_goals go_ret
    all_goals refine ⟨?_, rfl⟩
    all_goals first
      | exact ret_S (rep_38 (nat_of (m := 38) (by assumption))).symm
      | exact ret_S (rep_60 (nat_of (m := 60) (by assumption))).symm
      | exact ret_S (rep_62 (nat_of (m := 62) (by assumption))).symm
      | exact ret_S (rep_13 (nat_of (m := 13) (by assumption))).symm
      | exact ret_S (rep_34 rfl (nat_of (m := 34) (by assumption))).symm
      | exact ret_S (rep_9 rfl (nat_of (m := 9) (by assumption))).symm
      | exact ret_S (rep_10 rfl (nat_of (m := 10) (by assumption))).symm
      | exact ret_S (rep_no (nat_ne (m := 38) (by assumption)) (nat_ne (m := 60) (by assumption)) (nat_ne (m := 62) (by assumption)) (nat_ne (m := 13) (by assumption)) (fun h => absurd h (by decide))).symm
      | exact ret_S (rep_no (nat_ne (m := 38) (by assumption)) (nat_ne (m := 60) (by assumption)) (nat_ne (m := 62) (by assumption)) (nat_ne (m := 13) (by assumption)) (fun _ => ⟨nat_ne (m := 34) (by assumption), nat_ne (m := 9) (by assumption), nat_ne (m := 10) (by assumption)⟩)).symm

set_option maxHeartbeats 2000000 in
theorem escape_any (a : Bool) (l : Bytes) (w : World) (hl : l.length ≤ 1099511627776) :
    Calls Tryz.prog 77 #[.int .i64 (if a then 1 else 0), .func (.func 78) #[] #[], .string (S l)] w fun e w' => e = .returned (.string (S (esc a l))) ∧ Below w.heap.size w w' := by
  have hbn := Bld.new w
  generalize hk : (if a then (1 : Int) else 0) = k at *
  have HK := Lib.hid hk
  have HB0 := Lib.hid hbn
  clear hk hbn
  go_enter Tryz.func77, Tryz.ntmps77
  go_wp2_with fail
  go_loopw [8, 13] (fun f8 i13 wr => ∃ f i : Nat, f ≤ i ∧ i ≤ l.length ∧ f8 = .int .i64 f ∧ i13 = .int .i64 i ∧ Bld w.heap.size w.heap.size (esc a (l.take f)) wr ∧ esc a (l.take i) = esc a (l.take f) ++ (l.drop f).take (i - f) ∧ Below w.heap.size w wr) (fun _ i13 _ => l.length - (intOf i13).toNat)
  case atStart => exact ⟨0, 0, Nat.le_refl _, Nat.zero_le _, rfl, rfl, by simpa [esc] using HB0.out, by simp, (Below.refl _ _).alloc (Nat.le_refl _) _⟩
  case round =>
    obtain ⟨f, i, hfi, hil, rfl, rfl, hbl, hes, hb⟩ := hrel
    have HBL := Lib.hid hbl
    have HES := Lib.hid hes
    have HB := Lib.hid hb
    have hsz := hb.size
    clear hbl hes hb
    by_cases hlt : i < l.length
    · have hc := fun w => replacement_any a l[i] w
      rw [HK.out] at hc
      have HC := Lib.hid hc
      clear hc
      have hil' : (i : Int) ≤ l.length := by omega
      have hfi' : (f : Int) ≤ i := by omega
      cases hr : rep a l[i] with
      | nil =>
        go_wp2_with (go_at_call 78; refine (HC.out _).mono ?_; rintro e w' ⟨rfl, rfl⟩; rw [hr])
        go_roundw
        case rel =>
          refine ⟨f, i + 1, by omega, by omega, rfl, by go_num, HBL.out, ?_, HB.out⟩
          rw [esc_take hlt, HES.out, escOne_no hr, List.append_assoc]
          congr 1
          rw [show i + 1 - f = (i - f) + 1 by omega, List.take_succ_eq_append_getElem (by simp; omega), List.getElem_drop]
          congr 2
          simp only [show f + (i - f) = i by omega]
        case measure => simp [intOf]; omega
      | cons x xs =>
        have hx : (x :: xs).length ≤ 6 := by rw [← hr]; exact rep_len _ _
        have hl1 : (esc a (l.take f)).length + ((l.drop f).take (i - f)).length ≤ 140737488355328 := by
          have := esc_take_len a l f
          simp only [List.length_take, List.length_drop]; omega
        have hl2 : (esc a (l.take f) ++ (l.drop f).take (i - f)).length + (x :: xs).length ≤ 140737488355328 := by
          have := esc_take_len a l f
          simp only [List.length_append, List.length_take, List.length_drop]; omega
        have hfin : esc a (l.take (i + 1)) = (esc a (l.take f) ++ (l.drop f).take (i - f)) ++ (x :: xs) := by
          rw [esc_take hlt, HES.out, escOne_of hr (by simp)]
        have HF := Lib.hid hfin
        clear hfin
        generalize esc a (l.take f) = A at *
        go_wp2_with (go_at_call 78; refine (HC.out _).mono ?_; rintro e w' ⟨rfl, rfl⟩; rw [hr])
        refine (writeString_any w.heap.size w.heap.size A _ _ HBL.out hl1 hsz).mono ?_
        rintro e w1 ⟨rfl, hb1, hbel1, _⟩
        have HB1 := Lib.hid hb1
        have HE1 := Lib.hid hbel1
        have hs1 := hbel1.size
        clear hb1 hbel1
        go_wp2_with fail
        refine (writeString_any w.heap.size w.heap.size _ (x :: xs) _ HB1.out hl2 (by omega)).mono ?_
        rintro e w2 ⟨rfl, hb2, hbel2, _⟩
        have HB2 := Lib.hid hb2
        have HE2 := Lib.hid hbel2
        clear hb2 hbel2
        go_wp2_with fail
        go_roundw
        case rel =>
          exact ⟨i + 1, i + 1, by omega, by omega, by go_num, by go_num, by rw [HF.out]; exact HB2.out, by simp, HB.out.trans (HE1.out.trans HE2.out)⟩
        case measure => simp [intOf]; omega
    · obtain rfl : i = l.length := by omega
      have hfl : (f : Int) ≤ l.length := by omega
      have hl1 : (esc a (l.take f)).length + (l.drop f).length ≤ 140737488355328 := by
        have := esc_take_len a l f
        simp only [List.length_drop]; omega
      have hfin : esc a l = esc a (l.take f) ++ l.drop f := by
        have := HES.out
        rw [List.take_length] at this
        rw [List.take_of_length_le (l := l.drop f) (by rw [List.length_drop]; omega)] at this
        exact this
      have HF := Lib.hid hfin
      clear hfin
      generalize esc a (l.take f) = A at *
      go_wp2_with fail
      refine (writeString_any w.heap.size w.heap.size A _ _ HBL.out hl1 hsz).mono ?_
      rintro e w1 ⟨rfl, hb1, hbel1, _⟩
      have HB1 := Lib.hid hb1
      have HE1 := Lib.hid hbel1
      have hs1 := hbel1.size
      clear hb1 hbel1
      go_wp2_with fail
      refine (builderString_any w.heap.size w.heap.size _ _ HB1.out (by omega)).mono ?_
      rintro e w2 ⟨rfl, hb2, hbel2, _⟩
      have HE2 := Lib.hid hbel2
      clear hb2 hbel2
      go_wp2_with fail
      go_ret
      exact ⟨ret_S HF.out.symm, HB.out.trans (HE1.out.trans HE2.out)⟩

set_option maxHeartbeats 1000000 in
theorem escText_any (l : Bytes) (w : World) (hl : l.length ≤ 1099511627776) :
    Calls Tryz.prog 55 #[.string (S l)] w fun e w' => e = .returned (.string (S (esc false l))) ∧ Below w.heap.size w w' := by
  go_enter Tryz.func55, Tryz.ntmps55
  go_wp2_with (go_at_call 77; refine (escape_any false l _ hl).mono ?_; rintro e w' ⟨rfl, hb⟩)
  go_ret
  exact ⟨rfl, hb⟩
set_option maxHeartbeats 1000000 in
theorem escAttr_any (l : Bytes) (w : World) (hl : l.length ≤ 1099511627776) :
    Calls Tryz.prog 56 #[.string (S l)] w fun e w' => e = .returned (.string (S (esc true l))) ∧ Below w.heap.size w w' := by
  go_enter Tryz.func56, Tryz.ntmps56
  go_wp2_with (go_at_call 77; refine (escape_any true l _ hl).mono ?_; rintro e w' ⟨rfl, hb⟩)
  go_ret
  exact ⟨rfl, hb⟩

end Go.Proofs.YtclhdppppgjgfaaGreatDoor
set_option linter.unusedVariables false
namespace Go.Proofs.YtclhdppppgjgfaaGreatDoor
open Go.RowKit

theorem S_beq6 (a b : Bytes) : (S a == S b) = (a == b) := by
  have h : (S a == S b) = (a.toArray == b.toArray) := rfl
  rw [h, List.beq_toArray]

set_option maxHeartbeats 1000000 in
theorem refHas_any (l : Bytes) (n : Nat) (t : Bytes) (w : World) (hl : l.length ≤ 4611686018427387904) (hn : n ≤ 4611686018427387904) (ht : t.length ≤ 1000000) (ht0 : t ≠ []) :
    Calls Tryz.prog 64 #[.string (S l), .int .i64 n, .string (S t)] w fun e w' => e = .returned (.bool (hasAt l n t)) ∧ w = w' := by
  have e := hasAt_take (l := l) (n := n) (t := t)
  have hpos := List.length_pos_iff.2 ht0
  clear ht0
  obtain ⟨b, hb⟩ : ∃ b, hasAt l n t = b := ⟨_, rfl⟩
  rw [hb] at e ⊢
  by_cases h : n + t.length ≤ l.length
  · have h1 : decide ((t.length : Int) ≤ (l.length : Int) - n) = true := by simp; omega
    have h2 : (n : Int) + t.length ≤ l.length := by omega
    have E := Lib.hid e
    clear hb e
    go_enter Tryz.func64, Tryz.ntmps64
    go_wp2
    all_goals go_ret
    all_goals exact ⟨ret_bool (by rw [E.out] <;> simp [S_beq6]), rfl⟩
  · have h1 : decide ((t.length : Int) ≤ (l.length : Int) - n) = false := by simp; omega
    have h2 : ¬ (n : Int) + t.length ≤ l.length := by omega
    have e2 : b = false := by
      rw [e, beq_eq_false_iff_ne]
      intro e3
      have := congrArg List.length e3
      rw [List.length_take, List.length_drop] at this
      omega
    have E := Lib.hid e2
    clear hb e e2
    go_enter Tryz.func64, Tryz.ntmps64
    go_wp2
    all_goals go_ret
    all_goals exact ⟨ret_bool E.out.symm, rfl⟩

set_option maxHeartbeats 1000000 in
theorem refFind_any (l : Bytes) (n : Nat) (t : Bytes) (w : World) (hl : l.length ≤ 4611686018427387904) (hn : n ≤ l.length) (ht : t.length ≤ 1000000) (ht0 : t ≠ []) :
    Calls Tryz.prog 97 #[.string (S l), .int .i64 n, .string (S t)] w fun e w' => e = .returned (.int .i64 (optI ((findS t (l.drop n)).map (· + n)))) ∧ w = w' := by
  obtain ⟨R, hR⟩ : ∃ R, (findS t (l.drop n)).map (· + n) = R := ⟨_, rfl⟩
  rw [hR]
  have HR := Lib.hid hR
  have HT := Lib.hid ht0
  clear hR ht0
  go_enter Tryz.func97, Tryz.ntmps97
  go_wp2
  go_loop [7] (fun i7 => ∃ i : Nat, n ≤ i ∧ i ≤ l.length + 1 ∧ i7 = .int .i64 i ∧ (findS t (l.drop i)).map (· + i) = R) (fun i7 => l.length + 1 - (intOf i7).toNat)
  case atStart => exact ⟨n, Nat.le_refl _, by omega, rfl, HR.out⟩
  case round =>
    obtain ⟨i, hni, hil, rfl, hi⟩ := hrel
    by_cases hlt : i + t.length ≤ l.length
    · have hlt' : (i : Int) ≤ (l.length : Int) - t.length := by omega
      have hpos := List.length_pos_iff.2 HT.out
      have hcall := fun w => refHas_any l i t w hl (by omega) ht HT.out
      cases hb : hasAt l i t
      · have hs := find_step (i := i) (by omega) hb
        rw [hi] at hs
        rw [hb] at hcall
        have HS := Lib.hid hs
        have HC := Lib.hid hcall
        clear hs hi hb hcall hpos
        go_wp2_with (go_at_call 64; refine (HC.out _).mono ?_; rintro e w' ⟨rfl, rfl⟩)
        go_round
        case rel => exact ⟨i + 1, by omega, by omega, by go_num, HS.out.symm⟩
        case measure => simp [intOf]; omega
      · have hs := find_here hb
        rw [hi] at hs
        rw [hb] at hcall
        have HS := Lib.hid hs
        have HC := Lib.hid hcall
        clear hs hi hb hcall hpos
        go_wp2_with (go_at_call 64; refine (HC.out _).mono ?_; rintro e w' ⟨rfl, rfl⟩)
        go_ret
        exact ⟨ret_int (by rw [HS.out]; rfl), rfl⟩
    · have hlt' : ¬ (i : Int) ≤ (l.length : Int) - t.length := by omega
      have hs := find_end (l := l) (i := i) (by omega) HT.out
      rw [hi] at hs
      have HS := Lib.hid hs
      clear hs hi
      go_wp2
      go_ret
      exact ⟨ret_int (by rw [HS.out]; rfl), rfl⟩

theorem refIsSpace_is (c : UInt8) (w : World) : Calls Tryz.prog 66 #[.int .u8 c.toNat] w fun e w' => e = .returned (.bool (isSp c)) ∧ w = w' := by
  have hc := u8_lt c
  go_enter Tryz.func66, Tryz.ntmps66
  go_wp2
  all_goals go_ret
  all_goals exact ⟨ret_bool (by unfold isSp; rw [Bool.eq_iff_iff]; simp <;> omega), rfl⟩

set_option maxHeartbeats 1000000 in
theorem refSpaces_any (l : Bytes) (n : Nat) (w : World) (hl : l.length ≤ 4611686018427387904) (hn : n ≤ l.length) :
    Calls Tryz.prog 119 #[.string (S l), .int .i64 n] w fun e w' => e = .returned (.int .i64 (spEnd l n)) ∧ w = w' := by
  obtain ⟨R, hR⟩ : ∃ R, spEnd l n = R := ⟨_, rfl⟩
  rw [hR]
  have HR := Lib.hid hR
  clear hR
  go_enter Tryz.func119, Tryz.ntmps119
  go_wp2
  go_loop [1] (fun i1 => ∃ i : Nat, i ≤ l.length ∧ i1 = .int .i64 i ∧ spEnd l i = R) (fun i1 => l.length - (intOf i1).toNat)
  case atStart => exact ⟨n, hn, rfl, HR.out⟩
  case round =>
    obtain ⟨i, hil, rfl, hi⟩ := hrel
    by_cases hlt : i < l.length
    · have hcall := fun w => refIsSpace_is l[i] w
      cases hb : isSp l[i]
      · have hs := spEnd_no hlt hb
        rw [hi] at hs
        rw [hb] at hcall
        have HS := Lib.hid hs
        have HC := Lib.hid hcall
        clear hs hi hb hcall
        go_wp2_with (go_at_call 66; refine (HC.out _).mono ?_; rintro e w' ⟨rfl, rfl⟩)
        go_ret
        exact ⟨ret_int (by rw [HS.out]), rfl⟩
      · have hs := spEnd_yes hlt hb
        rw [hi] at hs
        rw [hb] at hcall
        have HS := Lib.hid hs
        have HC := Lib.hid hcall
        clear hs hi hb hcall
        go_wp2_with (go_at_call 66; refine (HC.out _).mono ?_; rintro e w' ⟨rfl, rfl⟩)
        go_round
        case rel => exact ⟨i + 1, by omega, by go_num, HS.out.symm⟩
        case measure => simp [intOf]; omega
    · obtain rfl : i = l.length := by omega
      rw [spEnd_end] at hi
      have HS := Lib.hid hi
      clear hi
      go_wp2
      go_ret
      exact ⟨ret_int (by rw [← HS.out]), rfl⟩

set_option maxHeartbeats 1000000 in
theorem refMissing_any (l : Bytes) (a n : Nat) (w : World) (hl : l.length ≤ 4611686018427387904) :
    Calls Tryz.prog 120 #[.string (S l), .int .i64 a, .int .i64 n] w fun e w' => e = .returned (.tuple #[.int .i64 (missing l a n).1, .int .i64 (missing l a n).2]) ∧ w = w' := by
  by_cases h : l.length ≤ n
  · have h' : (l.length : Int) ≤ n := by omega
    unfold missing
    rw [if_pos h]
    go_enter Tryz.func120, Tryz.ntmps120
    go_wp2
    go_ret2
    exact ⟨rfl, rfl⟩
  · have h' : ¬ (l.length : Int) ≤ n := by omega
    unfold missing
    rw [if_neg h]
    go_enter Tryz.func120, Tryz.ntmps120
    go_wp2
    go_ret2
    exact ⟨rfl, rfl⟩

set_option maxHeartbeats 2000000 in
theorem refName_any (l : Bytes) (n : Nat) (w : World) (hl : l.length ≤ 4611686018427387904) (hn : n ≤ l.length) :
    Calls Tryz.prog 118 #[.string (S l), .int .i64 n] w fun e w' => e = .returned (.int .i64 ((n : Int) + nameLen (l.drop n))) ∧ Below w.heap.size w w' := by
  obtain ⟨R, hR⟩ : ∃ R, nameLen (l.drop n) = R := ⟨_, rfl⟩
  rw [hR]
  have HR := Lib.hid hR
  have hdl : (l.drop n).length = l.length - n := List.length_drop
  have HD := Lib.hid hdl
  clear hR hdl
  go_enter Tryz.func118, Tryz.ntmps118
  go_wp2
  go_loopw [5] (fun i5 wr => ∃ m : Nat, n + m ≤ l.length ∧ i5 = .int .i64 ((n : Int) + m) ∧ NmAt (l.drop n) m ∧ Below w.heap.size w wr) (fun i5 _ => l.length - (intOf i5).toNat)
  case atStart => exact ⟨0, by omega, by simp, NmAt.zero _, Below.refl _ _⟩
  case round =>
    obtain ⟨m, hm, rfl, hat, hb⟩ := hrel
    have HAT := Lib.hid hat
    have HB := Lib.hid hb
    have hsz := hb.size
    clear hat hb
    by_cases hlt : n + m < l.length
    · have hlt' : (n : Int) + m < l.length := by omega
      have hle := dec_le (l.drop (n + m))
      have hd := fun w => refDecode_in l (n + m) w hl hlt
      rw [Int.natCast_add] at hd
      generalize hg : dec (l.drop (n + m)) = d at *
      obtain ⟨r, k⟩ := d
      dsimp only at hle hd
      have hle1 : n + m + k ≤ l.length := by have := hle.1; simp at this; omega
      have hg2 : dec ((l.drop n).drop m) = (r, k) := by rw [List.drop_drop]; exact hg
      have HD1 := Lib.hid hd
      clear hle hg hd
      by_cases hk : k = 0
      · have hst := HAT.out.stop hg2 (.inl hk)
        rw [HR.out] at hst
        have HS := Lib.hid hst
        have t0 : ((k : Int) == 0) = true := by rw [hk]; rfl
        clear hst hg2 hk
        go_wp2_with (go_at_call 91; refine (HD1.out _).mono ?_; rintro e w' ⟨rfl, hb⟩)
        go_ret
        exact ⟨ret_int (by rw [HS.out]), HB.out.trans (hb.mono hsz)⟩
      · have t0 : ((k : Int) == 0) = false := by rw [beq_eq_false_iff_ne]; omega
        obtain ⟨hq1, hq2⟩ := HAT.out.next hg2 hk (by rw [HD.out]; omega)
        have hcall := fun w => refIsQName_any ((l.drop n).take (m + k)) w (by rw [List.length_take, HD.out]; omega)
        rw [hq1] at hcall
        have e1 : (n : Int) + m + k ≤ l.length := by omega
        have e2 : (n : Int) ≤ (n : Int) + m + k := by omega
        have e3 : ((n : Int) + m + k).toNat - n = m + k := by omega
        cases hq : qch (decide (m = 0)) r
        · have hst := HAT.out.stop hg2 (.inr hq)
          rw [HR.out] at hst
          have HS := Lib.hid hst
          rw [hq] at hcall
          have HC := Lib.hid hcall
          clear hst hg2 hk hcall hq hq1 hq2
          go_wp2_with (first
            | (go_at_call 91; refine (HD1.out _).mono ?_; rintro e w' ⟨rfl, hb⟩)
            | (go_at_call 75; refine (HC.out _).mono ?_; rintro e w2 ⟨rfl, hb2⟩))
          go_ret
          exact ⟨ret_int (by rw [HS.out]), HB.out.trans ((hb.trans (hb2.mono hb.size)).mono hsz)⟩
        · have hnx := hq2 hq
          have HN := Lib.hid hnx
          rw [hq] at hcall
          have HC := Lib.hid hcall
          clear hnx hg2 hcall hq hq1 hq2
          go_wp2_with (first
            | (go_at_call 91; refine (HD1.out _).mono ?_; rintro e w' ⟨rfl, hb⟩)
            | (go_at_call 75; refine (HC.out _).mono ?_; rintro e w2 ⟨rfl, hb2⟩))
          go_roundw
          case rel => exact ⟨m + k, by omega, by go_num, HN.out, HB.out.trans ((hb.trans (hb2.mono hb.size)).mono hsz)⟩
          case measure => simp [intOf]; omega
    · obtain rfl : m = l.length - n := by omega
      have hlt' : ¬ (n : Int) + (l.length - n : Nat) < l.length := by omega
      have hst : nameLen (l.drop n) = l.length - n := by
        have h1 := HAT.out
        have h2 : l.length - n = (l.drop n).length := HD.out.symm
        rw [h2] at h1 ⊢
        exact h1.end_
      rw [HR.out] at hst
      have HS := Lib.hid hst
      clear hst
      go_wp2
      go_ret
      exact ⟨ret_int (by rw [HS.out]), HB.out⟩
end Go.Proofs.YtclhdppppgjgfaaGreatDoor
