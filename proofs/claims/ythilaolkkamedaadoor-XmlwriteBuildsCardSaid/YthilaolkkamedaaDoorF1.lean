/-
  Several texts in one file, in build order:
  - Plain facts on UTF-8: what a list of bytes decodes to at its head, what a number encodes to, and that the two agree. No program.
  - A strings.Builder that a call has made itself: copyCheck, WriteByte, WriteString, String over this translation (after the shelf's proofs of the forms _k; here copyCheck's last branch is a refusal).
  - Trees: what a node of a document is, and how it lies in memory. No function of the program.
  - Plain functions of chapter 7 (xmltree) and of its statements: sizes, depths, equality of trees. No program.
  - Small laws on memory over this translation: a slice of bytes turned into a string.
  - Loading an attribute or a node out of a slice; what a node's box holds.
  - Trees in memory, told with the blocks that they lie in: 'NodeP w p n cs': the cells cs are those of node n, and all that they lead to lies in blocks that satisfy p.
  - Slices of attributes and of nodes that a call builds itself: appending, and what they read as.
  - Slices of strings in memory; copying and appending attributes out of a slice.
  - Walk of chapter 7's reference: the depth of a tree.
-/
import GoSem.Core.Utf8
import Derived.Laws.Strings
import Derived.Test.YthilaolkkamedaaDoorShelf
import Derived.Shelf.Strings.BuilderK
import Derived.WalkKit
import Derived.Lib.Hide
import Derived.Outline
import Derived.Deep.MidRow
import Derived.StillTailTactics
import Derived.Deep.AppendLies
import Derived.Laws.OwnMore
import Derived.Laws.CopyRow
import Derived.Maps.AppendAt
import Derived.WalkSpells
import Derived.WalkLawsBesides
set_option linter.unusedVariables false
namespace Go.Proofs.YthilaolkkamedaaDoor

abbrev Bytes := List UInt8

/-- A Go string of these bytes. -/
def S (l : Bytes) : ByteArray := ⟨l.toArray⟩

/-- The rune at the head and its length; length 0: none starts here. -/
def dec : Bytes → Nat × Nat
  | [] => (0, 0)
  | a :: t =>
    if a.toNat < 128 then (a.toNat, 1) else
    match t with
    | [] => (0, 0)
    | b :: t =>
      if a.toNat / 32 = 6 then
        (if b.toNat / 64 = 2 ∧ 128 ≤ a.toNat % 32 * 64 + b.toNat % 64 then (a.toNat % 32 * 64 + b.toNat % 64, 2) else (0, 0))
      else
      match t with
      | [] => (0, 0)
      | c :: t =>
        if a.toNat / 16 = 14 then
          (if b.toNat / 64 = 2 ∧ c.toNat / 64 = 2 ∧ 2048 ≤ a.toNat % 16 * 4096 + b.toNat % 64 * 64 + c.toNat % 64 ∧
              (a.toNat % 16 * 4096 + b.toNat % 64 * 64 + c.toNat % 64 < 55296 ∨ 57344 ≤ a.toNat % 16 * 4096 + b.toNat % 64 * 64 + c.toNat % 64) then
            (a.toNat % 16 * 4096 + b.toNat % 64 * 64 + c.toNat % 64, 3) else (0, 0))
        else
        match t with
        | [] => (0, 0)
        | d :: _ =>
          if a.toNat / 8 = 30 ∧ b.toNat / 64 = 2 ∧ c.toNat / 64 = 2 ∧ d.toNat / 64 = 2 ∧
              65536 ≤ a.toNat % 8 * 262144 + b.toNat % 64 * 4096 + c.toNat % 64 * 64 + d.toNat % 64 ∧
              a.toNat % 8 * 262144 + b.toNat % 64 * 4096 + c.toNat % 64 * 64 + d.toNat % 64 ≤ 1114111 then
            (a.toNat % 8 * 262144 + b.toNat % 64 * 4096 + c.toNat % 64 * 64 + d.toNat % 64, 4)
          else (0, 0)

/-- A number that stands for a rune. -/
def okRune (r : Nat) : Prop := r < 55296 ∨ (57344 ≤ r ∧ r ≤ 1114111)
instance (r : Nat) : Decidable (okRune r) := by unfold okRune; exact inferInstance

/-- The encoding of a rune; empty for a number that is none. -/
def enc (r : Nat) : Bytes :=
  if ¬ okRune r then []
  else if r < 128 then [UInt8.ofNat r]
  else if r < 2048 then [UInt8.ofNat (192 + r / 64), UInt8.ofNat (128 + r % 64)]
  else if r < 65536 then [UInt8.ofNat (224 + r / 4096), UInt8.ofNat (128 + r / 64 % 64), UInt8.ofNat (128 + r % 64)]
  else [UInt8.ofNat (240 + r / 262144), UInt8.ofNat (128 + r / 4096 % 64), UInt8.ofNat (128 + r / 64 % 64), UInt8.ofNat (128 + r % 64)]

theorem u8_eq {a : UInt8} {n : Nat} (h : a.toNat = n) : UInt8.ofNat n = a := by
  subst h; exact UInt8.ofNat_toNat
theorem u8_lt (a : UInt8) : a.toNat < 256 := a.toNat_lt
theorem u8_of {n : Nat} (h : n < 256) : (UInt8.ofNat n).toNat = n := by
  rw [UInt8.toNat_ofNat']; exact Nat.mod_eq_of_lt h

theorem dec_le (l : Bytes) : (dec l).2 ≤ l.length ∧ (dec l).2 ≤ 4 := by
  unfold dec
  repeat' split
  all_goals simp

/-- What is decoded is a rune, and its encoding is what was read. -/
theorem dec_enc (l : Bytes) (h : (dec l).2 ≠ 0) : okRune (dec l).1 ∧ enc (dec l).1 = l.take (dec l).2 := by
  match l with
  | [] => exact absurd rfl h
  | a :: t =>
    have ha := u8_lt a
    unfold dec at h ⊢
    by_cases h1 : a.toNat < 128
    · simp only [h1, if_true] at h ⊢
      have ho : okRune a.toNat := by unfold okRune; omega
      exact ⟨ho, by simp [enc, ho, h1]⟩
    · simp only [h1, if_false] at h ⊢
      match t with
      | [] => exact absurd rfl h
      | b :: t =>
        have hb := u8_lt b
        dsimp only at h ⊢
        by_cases h2 : a.toNat / 32 = 6
        · simp only [h2, if_true] at h ⊢
          by_cases h3 : b.toNat / 64 = 2 ∧ 128 ≤ a.toNat % 32 * 64 + b.toNat % 64
          · rw [if_pos h3] at h ⊢
            obtain ⟨h3, h4⟩ := h3
            have ho : okRune (a.toNat % 32 * 64 + b.toNat % 64) := by unfold okRune; omega
            refine ⟨ho, ?_⟩
            dsimp only
            unfold enc
            rw [if_neg (by simpa using ho), if_neg (by omega), if_pos (by omega)]
            rw [u8_eq (a := a) (by omega), u8_eq (a := b) (by omega)]
            rfl
          · rw [if_neg h3] at h; exact absurd rfl h
        · simp only [h2, if_false] at h ⊢
          match t with
          | [] => exact absurd rfl h
          | c :: t =>
            have hc := u8_lt c
            dsimp only at h ⊢
            by_cases h5 : a.toNat / 16 = 14
            · simp only [h5, if_true] at h ⊢
              by_cases h6 : b.toNat / 64 = 2 ∧ c.toNat / 64 = 2 ∧ 2048 ≤ a.toNat % 16 * 4096 + b.toNat % 64 * 64 + c.toNat % 64 ∧
                (a.toNat % 16 * 4096 + b.toNat % 64 * 64 + c.toNat % 64 < 55296 ∨ 57344 ≤ a.toNat % 16 * 4096 + b.toNat % 64 * 64 + c.toNat % 64)
              · rw [if_pos h6] at h ⊢
                obtain ⟨h6, h7, h8, h9⟩ := h6
                have ho : okRune (a.toNat % 16 * 4096 + b.toNat % 64 * 64 + c.toNat % 64) := by unfold okRune; omega
                refine ⟨ho, ?_⟩
                dsimp only
                unfold enc
                rw [if_neg (by simpa using ho), if_neg (by omega), if_neg (by omega), if_pos (by omega)]
                rw [u8_eq (a := a) (by omega), u8_eq (a := b) (by omega), u8_eq (a := c) (by omega)]
                rfl
              · rw [if_neg h6] at h; exact absurd rfl h
            · simp only [h5, if_false] at h ⊢
              match t with
              | [] => exact absurd rfl h
              | d :: t =>
                have hd := u8_lt d
                dsimp only at h ⊢
                by_cases h10 : a.toNat / 8 = 30 ∧ b.toNat / 64 = 2 ∧ c.toNat / 64 = 2 ∧ d.toNat / 64 = 2 ∧
                    65536 ≤ a.toNat % 8 * 262144 + b.toNat % 64 * 4096 + c.toNat % 64 * 64 + d.toNat % 64 ∧
                    a.toNat % 8 * 262144 + b.toNat % 64 * 4096 + c.toNat % 64 * 64 + d.toNat % 64 ≤ 1114111
                · rw [if_pos h10] at h ⊢
                  obtain ⟨e1, e2, e3, e4, e5, e6⟩ := h10
                  have ho : okRune (a.toNat % 8 * 262144 + b.toNat % 64 * 4096 + c.toNat % 64 * 64 + d.toNat % 64) := by unfold okRune; omega
                  refine ⟨ho, ?_⟩
                  dsimp only
                  unfold enc
                  rw [if_neg (by simpa using ho), if_neg (by omega), if_neg (by omega), if_neg (by omega)]
                  rw [u8_eq (a := a) (by omega), u8_eq (a := b) (by omega), u8_eq (a := c) (by omega), u8_eq (a := d) (by omega)]
                  rfl
                · rw [if_neg h10] at h; exact absurd rfl h

/-- What is encoded is decoded. -/
theorem enc_dec {r : Nat} (h : okRune r) (t : Bytes) : dec (enc r ++ t) = (r, (enc r).length) := by
  unfold enc
  rw [if_neg (by simpa using h)]
  have h' := h
  unfold okRune at h'
  by_cases h1 : r < 128
  · rw [if_pos h1]
    simp only [List.cons_append, List.nil_append, dec, u8_of (show r < 256 by omega), h1, if_true]
    rfl
  · rw [if_neg h1]
    by_cases h2 : r < 2048
    · rw [if_pos h2]
      simp only [List.cons_append, List.nil_append, dec, u8_of (show 192 + r / 64 < 256 by omega), u8_of (show 128 + r % 64 < 256 by omega)]
      rw [if_neg (by omega), if_pos (by omega), if_pos (by omega)]
      simp only [List.length_cons, List.length_nil, Prod.mk.injEq, and_true]
      omega
    · rw [if_neg h2]
      by_cases h3 : r < 65536
      · rw [if_pos h3]
        simp only [List.cons_append, List.nil_append, dec, u8_of (show 224 + r / 4096 < 256 by omega), u8_of (show 128 + r / 64 % 64 < 256 by omega), u8_of (show 128 + r % 64 < 256 by omega)]
        rw [if_neg (by omega), if_neg (by omega), if_pos (by omega), if_pos (by omega)]
        simp only [List.length_cons, List.length_nil, Prod.mk.injEq, and_true]
        omega
      · rw [if_neg h3]
        simp only [List.cons_append, List.nil_append, dec, u8_of (show 240 + r / 262144 < 256 by omega), u8_of (show 128 + r / 4096 % 64 < 256 by omega), u8_of (show 128 + r / 64 % 64 < 256 by omega), u8_of (show 128 + r % 64 < 256 by omega)]
        rw [if_neg (by omega), if_neg (by omega), if_neg (by omega), if_pos (by omega)]
        simp only [List.length_cons, List.length_nil, Prod.mk.injEq, and_true]
        omega

theorem enc_len (r : Nat) (h : okRune r) : 1 ≤ (enc r).length ∧ (enc r).length ≤ 4 := by
  unfold enc
  rw [if_neg (by simpa using h)]
  repeat' split
  all_goals simp

/-- The model's own decoder. -/
theorem utf8_dec (l : Bytes) (h : l ≠ []) : Utf8.decode (S l) 0 = if (dec l).2 = 0 then (65533, 1) else dec l := by
  have hg : ∀ (m : Bytes) (k : Nat), (S m).get! k = m.getD k 0 := by
    intro m k
    simp [S, ByteArray.get!, getElem!_def, List.getD]
    rfl
  have hs : ∀ m : Bytes, (S m).size = m.length := by intro m; simp [S, ByteArray.size]
  match l with
  | [] => exact absurd rfl h
  | a :: t =>
    have ha := u8_lt a
    unfold Utf8.decode dec
    simp only [hg, hs, Nat.zero_add, List.getD_cons_zero]
    by_cases h1 : a.toNat < 128
    · simp [h1]
    · simp only [h1, if_false]
      match t with
      | [] => simp [Utf8.runeError]
      | b :: t =>
        have hb := u8_lt b
        by_cases h2 : a.toNat / 32 = 6
        · have h2' : (a.toNat / 16 == 14) = false := by simp; omega
          have h2'' : (a.toNat / 8 == 30) = false := by simp; omega
          by_cases h3 : b.toNat / 64 = 2
          · by_cases h4 : 128 ≤ a.toNat % 32 * 64 + b.toNat % 64 <;> simp [h2, h3, h4, Utf8.runeError]
          · simp [h2, h3, h2', h2'', Utf8.runeError]
        · match t with
          | [] => simp [h2, Utf8.runeError]
          | c :: t =>
            have hc := u8_lt c
            by_cases h5 : a.toNat / 16 = 14
            · have h5'' : (a.toNat / 8 == 30) = false := by simp; omega
              by_cases h3 : b.toNat / 64 = 2
              · by_cases h6 : c.toNat / 64 = 2
                · by_cases h4 : 2048 ≤ a.toNat % 16 * 4096 + b.toNat % 64 * 64 + c.toNat % 64
                  · by_cases h7 : a.toNat % 16 * 4096 + b.toNat % 64 * 64 + c.toNat % 64 < 55296 ∨ 57344 ≤ a.toNat % 16 * 4096 + b.toNat % 64 * 64 + c.toNat % 64
                    · have hv : Utf8.valid ((a.toNat % 16 * 4096 + b.toNat % 64 * 64 + c.toNat % 64 : Nat) : Int) = true := by
                        unfold Utf8.valid; simp; omega
                      simp [h2, h5, h3, h6, h4, h7, hv, -Int.natCast_add, -Int.natCast_mul, -Int.natCast_emod]
                    · have hv : Utf8.valid ((a.toNat % 16 * 4096 + b.toNat % 64 * 64 + c.toNat % 64 : Nat) : Int) = false := by
                        unfold Utf8.valid; simp; omega
                      simp [h2, h5, h3, h6, h4, h7, hv, Utf8.runeError, -Int.natCast_add, -Int.natCast_mul, -Int.natCast_emod]
                  · simp [h2, h5, h3, h6, h4, Utf8.runeError]
                · simp [h2, h5, h3, h6, h5'', Utf8.runeError]
              · simp [h2, h5, h3, h5'', Utf8.runeError]
            · match t with
              | [] => simp [h2, h5, Utf8.runeError]
              | d :: t =>
                by_cases h8 : a.toNat / 8 = 30 ∧ b.toNat / 64 = 2 ∧ c.toNat / 64 = 2 ∧ d.toNat / 64 = 2
                · obtain ⟨e1, e2, e3, e4⟩ := h8
                  by_cases h9 : 65536 ≤ a.toNat % 8 * 262144 + b.toNat % 64 * 4096 + c.toNat % 64 * 64 + d.toNat % 64
                  · by_cases h10 : a.toNat % 8 * 262144 + b.toNat % 64 * 4096 + c.toNat % 64 * 64 + d.toNat % 64 ≤ 1114111
                    · have hv : Utf8.valid ((a.toNat % 8 * 262144 + b.toNat % 64 * 4096 + c.toNat % 64 * 64 + d.toNat % 64 : Nat) : Int) = true := by
                        unfold Utf8.valid; simp; omega
                      simp [h2, h5, e1, e2, e3, e4, h9, h10, hv, -Int.natCast_add, -Int.natCast_mul, -Int.natCast_emod]
                    · have hv : Utf8.valid ((a.toNat % 8 * 262144 + b.toNat % 64 * 4096 + c.toNat % 64 * 64 + d.toNat % 64 : Nat) : Int) = false := by
                        unfold Utf8.valid; simp; omega
                      simp [h2, h5, e1, e2, e3, e4, h9, h10, hv, Utf8.runeError, -Int.natCast_add, -Int.natCast_mul, -Int.natCast_emod]
                  · simp [h2, h5, e1, e2, e3, e4, h9, Utf8.runeError]
                · by_cases e1 : a.toNat / 8 = 30
                  · by_cases e2 : b.toNat / 64 = 2
                    · by_cases e3 : c.toNat / 64 = 2
                      · have e4 : ¬ d.toNat / 64 = 2 := fun e4 => h8 ⟨e1, e2, e3, e4⟩
                        simp [h2, h5, e1, e2, e3, e4, Utf8.runeError]
                      · simp [h2, h5, e1, e2, e3, Utf8.runeError]
                    · simp [h2, h5, e1, e2, Utf8.runeError]
                  · simp [h2, h5, e1, Utf8.runeError]
end Go.Proofs.YthilaolkkamedaaDoor
set_option linter.unusedVariables false
namespace Go.Proofs.YthilaolkkamedaaDoor
open Go.RowKit

theorem ret_bool {a b : Bool} (h : a = b) : Ending.returned (.bool a) = .returned (.bool b) := by rw [h]
theorem ret_int {k : IntKind} {a b : Int} (h : a = b) : Ending.returned (.int k a) = .returned (.int k b) := by rw [h]
theorem val_bool {a b : Bool} (h : a = b) : Value.bool a = .bool b := by rw [h]
theorem val_int {k : IntKind} {a b : Int} (h : a = b) : Value.int k a = .int k b := by rw [h]

/-- Block b is a builder that holds the bytes l; what it owns lies from block B on. -/
def Bld (B b : Nat) (l : Bytes) (w : World) : Prop := Lib.IsBuilderF 51 5 B b (Lib.byteCells l) w
/-- Every block but b, and but rows of bytes, is as it was. -/
abbrev Kept (b : Nat) (w w' : World) : Prop := Lib.OthersKept 5 (some b) w w'

theorem sizeBuilder : (Tryd.prog.info? 51).map (·.size) = some 2 := by kernel_rfl
theorem liesBuilder : liesAt Tryd.prog Tryd.prog.depth 51 (2 / Tryd.prog.cellsOf 51) 0 51 1 = true := by kernel_rfl
theorem infoByte : (Tryd.prog.info? 5).map (fun i => (i.zero, i.size, i.bytes)) = some (some (.int .u8 0), 1, 1) := by kernel_rfl

theorem Bld.new (w : World) : Bld w.heap.size w.heap.size [] (w.alloc (.cells #[.pointer none, .slice none 0 0] 51)) := by
  refine .inl ⟨Nat.le_refl _, .slice none 0 0, heap_alloc_new w _, World.ownsRowF_nil _ _ _ _, ?_⟩
  simp [Value.ownBlock]
theorem Bld.mono {B B' b : Nat} {l : Bytes} {w : World} (h : Bld B b l w) (hB : B' ≤ B) : Bld B' b l w := by
  rcases h with ⟨h1, v, h2, h3, h4⟩ | ⟨h1, v, h2, h3, h4⟩
  · refine .inl ⟨by omega, v, h2, ⟨h3.1, ?_⟩, h4⟩
    rcases h3.2 with h | ⟨g, cap, cur, fz, hv, hg, r⟩
    · exact .inl h
    · exact .inr ⟨g, cap, cur, fz, hv, by omega, r⟩
  · refine .inr ⟨by omega, v, h2, ⟨h3.1, ?_⟩, h4⟩
    rcases h3.2 with h | ⟨g, cap, cur, fz, hv, hg, r⟩
    · exact .inl h
    · exact .inr ⟨g, cap, cur, fz, hv, by omega, r⟩
theorem Bld.le {B b : Nat} {l : Bytes} {w : World} (h : Bld B b l w) : B ≤ b := by
  rcases h with h | h <;> exact h.1
theorem Bld.lt {B b : Nat} {l : Bytes} {w : World} (h : Bld B b l w) : b < w.heap.size := by
  rcases h with h | h <;> exact h.lt
/-- Nothing in the builder's own memory has turned. -/
theorem Bld.alloc {B b : Nat} {l : Bytes} {w : World} (h : Bld B b l w) (o : Obj) : Bld B b l (w.alloc o) := Lib.IsBuilderF.alloc h o
theorem Bld.drew {B b : Nat} {l : Bytes} {w : World} (h : Bld B b l w) : Bld B b l w.drew := h
theorem ownF_below {B e n K : Nat} {v : Value} {bs : List Value} {w w' : World} (h : w.ownsRowF B e 1 v n bs) (hK : w.heap.size ≤ K) (hb : Below K w w') : w'.ownsRowF B e 1 v n bs := by
  obtain ⟨h1, h2⟩ := h
  refine ⟨h1, ?_⟩
  rcases h2 with h2 | ⟨g, cap, cur, fz, hv, hg, hh, r⟩
  · exact .inl h2
  · refine .inr ⟨g, cap, cur, fz, hv, hg, ?_, r⟩
    have hlt : g < w.heap.size := by
      rcases Nat.lt_or_ge g w.heap.size with h | h
      · exact h
      · rw [Array.getElem?_eq_none h] at hh; cases hh
    rw [hb.block g (by omega)]; exact hh
theorem Bld.below {B b : Nat} {l : Bytes} {w w' : World} (h : Bld B b l w) (hb : Below w.heap.size w w') : Bld B b l w' := by
  have hlt := h.lt
  rcases h with ⟨h1, v, h2, h3, h4⟩ | ⟨h1, v, h2, h3, h4⟩
  · exact .inl ⟨h1, v, by rw [hb.block b hlt]; exact h2, ownF_below h3 (Nat.le_refl _) hb, h4⟩
  · exact .inr ⟨h1, v, by rw [hb.block b hlt]; exact h2, ownF_below h3 (Nat.le_refl _) hb, h4⟩

set_option maxHeartbeats 1000000 in
set_option maxRecDepth 100000 in
theorem copyCheck_used (b : Nat) (w : World) (h0 : w.cell? ⟨b, 0, none⟩ = some (.pointer (some ⟨b, 0, none⟩))) :
    Calls Tryd.prog 30 #[.pointer (some ⟨b, 0, none⟩)] w fun e w' => e = .returned (.tuple #[]) ∧ w' = w := by
  obtain ⟨j, hj, _⟩ := Option.map_eq_some_iff.1 sizeBuilder
  go_enter Tryd.func30, Tryd.ntmps30
  go_wp2
  rw [Lib.run_neq_ptr_same w _ Tryd.underlying48 hj]
  go_wp2
  go_end0
  exact ⟨rfl, rfl⟩

set_option maxHeartbeats 1000000 in
set_option maxRecDepth 100000 in
theorem copyCheck_fresh (b : Nat) (w : World) (h0 : w.cell? ⟨b, 0, none⟩ = some (.pointer none)) (hsh : w.shape? b = some (51, 2)) (hfz : w.frozen? ⟨b, 0, none⟩ = false) :
    Calls Tryd.prog 30 #[.pointer (some ⟨b, 0, none⟩)] w fun e w' => e = .returned (.tuple #[]) ∧ w' = w.setCell ⟨b, 0, none⟩ (.pointer (some ⟨b, 0, none⟩)) := by
  obtain ⟨j, hj, hjs⟩ := Option.map_eq_some_iff.1 sizeBuilder
  have hun : Tryd.prog.underlying 70 = some .unsafePointer := by kernel_rfl
  go_enter Tryd.func30, Tryd.ntmps30
  go_wp2
  rw [Lib.run_to_unsafe w ⟨b, 0, none⟩ Tryd.underlying48 hun hj (by rw [hjs]; decide) hsh (Nat.zero_lt_succ 1)]
  simp only [Result.andThen]
  rw [Oper.upon_value]
  go_wp2
  rw [run_callFunc_extern Tryd.func39 (by kernel_rfl) (by kernel_rfl) (by kernel_rfl) (e := Extern.AbiNoEscape.same) (by kernel_rfl)]
  rw [Lib.run_noEscape]
  simp only [Result.andThen]
  rw [Oper.upon_value]
  go_wp2
  rw [Lib.run_from_unsafe w ⟨b, 0, none⟩ hun Tryd.underlying48 hj hsh liesBuilder]
  simp only [Result.andThen]
  rw [Oper.upon_value]
  go_wp2
  go_end0
  exact ⟨rfl, rfl⟩

theorem copyCheck_any (B b : Nat) (bs : List Value) (w : World) (h : Lib.IsBuilderF 51 5 B b bs w) :
    Calls Tryd.prog 30 #[.pointer (some ⟨b, 0, none⟩)] w fun e w' => e = .returned (.tuple #[]) ∧ (Lib.BuilderAtF 51 5 B b (.pointer (some ⟨b, 0, none⟩)) bs w' ∧ Below B w w' ∧ Kept b w w') := by
  rcases h with h | h
  · refine (copyCheck_fresh b w h.cell0 h.shape h.frozen0).mono ?_
    rintro e w' ⟨rfl, rfl⟩
    exact ⟨rfl, h.used _, (Below.refl B w).setCell (p := ⟨b, 0, none⟩) h.1 _, (Lib.OthersKept.refl _ _ w).setCell ⟨b, 0, none⟩ rfl _⟩
  · refine (copyCheck_used b w h.cell0).mono ?_
    rintro e w' ⟨rfl, rfl⟩
    exact ⟨rfl, h, Below.refl B _, Lib.OthersKept.refl _ _ _⟩

set_option maxHeartbeats 2000000 in
set_option maxRecDepth 100000 in
theorem writeByte_cells (B b : Nat) (bs : List Value) (c : Int) (w : World) (h : Lib.IsBuilderF 51 5 B b bs w) (hlen : bs.length + 1 ≤ 140737488355328) (hBw : B ≤ w.heap.size) :
    Calls Tryd.prog 24 #[.pointer (some ⟨b, 0, none⟩), .int .u8 c] w fun e w' => e = .returned .nilIface ∧ (Lib.BuilderAtF 51 5 B b (.pointer (some ⟨b, 0, none⟩)) (bs ++ [.int .u8 c]) w' ∧ Below B w w' ∧ Kept b w w') := by
  obtain ⟨i0, hi, hz0, hz1, hz2⟩ := info_parts infoByte
  go_enter Tryd.func24, Tryd.ntmps24
  go_wp2_with (go_at_call 30; refine (copyCheck_any B b bs _ h).mono ?_)
  rintro e w1 ⟨rfl, h1, hb1, hk1⟩
  obtain ⟨hB, v, hbk, hown, hne⟩ := h1
  have c0 : w1.cell? ⟨b, 0, none⟩ = some (.pointer (some ⟨b, 0, none⟩)) := by rw [Lib.cell_of_heap hbk]; rfl
  have c1 : w1.cell? ⟨b, 1, none⟩ = some v := by rw [Lib.cell_of_heap hbk]; rfl
  go_wp2_with (at_builtin; refine wpList_append_ownF _ rfl _ _ 49 rfl B 5 i0 (.int .u8 0) 1 1 Tryd.underlying49 hi hz0 hz1 hz2 rfl (by decide) _ _ _ rfl (hown.alloc _) ⟨w1.heap.size, 0, none⟩ 1 1 [.int .u8 c] rfl rfl ?c1 ?c2 ?c3 ?c4 ?c5 ?_)
  case c1 =>
    intro j u hj
    match j, hj with
    | 0, hj => simp at hj; subst hj; simp [Addr.add]
  case c2 => intro u hu; simp at hu; subst hu; rfl
  case c3 => unfold maxLen; omega
  case c4 => omega
  case c5 => have := hb1.size; simp; omega
  intro v' w2 hown' hgrow _
  have hlt : b < w1.heap.size := by
    rcases Nat.lt_or_ge b w1.heap.size with h' | h'
    · exact h'
    · simp [Array.getElem?_eq_none h'] at hbk
  have hb2 : w2.heap[b]? = some (.cells #[.pointer (some ⟨b, 0, none⟩), v] 51 (0, 0)) := by
    rw [hgrow.block b (by simp; omega) (fun e => hne e.symm), Lib.alloc_old w1 _ b hlt]
    exact hbk
  have d0 : w2.cell? ⟨b, 0, none⟩ = some (.pointer (some ⟨b, 0, none⟩)) := by rw [Lib.cell_of_heap hb2]; rfl
  have d1 : w2.cell? ⟨b, 1, none⟩ = some v := by rw [Lib.cell_of_heap hb2]; rfl
  have f1 : w2.frozen? ⟨b, 1, none⟩ = false := Lib.frozen_of_heap hb2 1
  obtain ⟨g, cap, rfl⟩ : ∃ g cap, v' = .slice (some ⟨g, 0, none⟩) (bs.length + 1) cap := by
    rcases hown'.2 with ⟨_, h0⟩ | ⟨g, cap, cur, fz, hv, _⟩
    · omega
    · exact ⟨g, cap, hv⟩
  go_wp2
  go_ret
  refine ⟨rfl, ?_, ?_, ((hk1.alloc _).grown hgrow (Lib.ownsRowF_kind (hown.alloc _))).setCell ⟨b, 1, none⟩ rfl _⟩
  · exact Lib.BuilderAtF.put (T := 51) (e := 5) hB hb2 (bs' := bs ++ [.int .u8 c]) (by simpa using hown') (by decide)
  · exact ((hb1.alloc (by have := hb1.size; omega) _).grown hgrow (by have := hb1.size; simp; omega) (fun k hk => (hown.lt k hk).1)).setCell (p := ⟨b, 1, none⟩) hB _

set_option maxHeartbeats 2000000 in
set_option maxRecDepth 100000 in
theorem writeString_cells (B b : Nat) (bs : List Value) (s : ByteArray) (w : World) (h : Lib.IsBuilderF 51 5 B b bs w) (hlen : bs.length + s.size ≤ 140737488355328) (hBw : B ≤ w.heap.size) :
    Calls Tryd.prog 21 #[.pointer (some ⟨b, 0, none⟩), .string s] w fun e w' => e = .returned (.tuple #[.int .i64 s.size, .nilIface]) ∧ (Lib.BuilderAtF 51 5 B b (.pointer (some ⟨b, 0, none⟩)) (bs ++ Lib.strCells s) w' ∧ Below B w w' ∧ Kept b w w') := by
  obtain ⟨i0, hi, hz0, hz1, hz2⟩ := info_parts infoByte
  go_enter Tryd.func21, Tryd.ntmps21
  go_wp2_with (go_at_call 30; refine (copyCheck_any B b bs _ h).mono ?_)
  rintro e w1 ⟨rfl, h1, hb1, hk1⟩
  obtain ⟨hB, v, hbk, hown, hne⟩ := h1
  have c0 : w1.cell? ⟨b, 0, none⟩ = some (.pointer (some ⟨b, 0, none⟩)) := by rw [Lib.cell_of_heap hbk]; rfl
  have c1 : w1.cell? ⟨b, 1, none⟩ = some v := by rw [Lib.cell_of_heap hbk]; rfl
  go_wp2_with (at_builtin; refine Lib.wpList_append_own_stringF _ rfl _ _ 49 9 rfl B 5 i0 Tryd.underlying49 Tryd.underlying9 hi hz0 hz1 hz2 _ _ _ rfl hown s rfl ?c3 ?c4 ?c5 ?_)
  case c3 => unfold maxLen; omega
  case c4 => omega
  case c5 => have := hb1.size; omega
  intro v' w2 hown' hgrow _
  have hlt : b < w1.heap.size := by
    rcases Nat.lt_or_ge b w1.heap.size with h' | h'
    · exact h'
    · simp [Array.getElem?_eq_none h'] at hbk
  have hb2 : w2.heap[b]? = some (.cells #[.pointer (some ⟨b, 0, none⟩), v] 51 (0, 0)) := by
    rw [hgrow.block b hlt (fun e => hne e.symm)]
    exact hbk
  have d0 : w2.cell? ⟨b, 0, none⟩ = some (.pointer (some ⟨b, 0, none⟩)) := by rw [Lib.cell_of_heap hb2]; rfl
  have d1 : w2.cell? ⟨b, 1, none⟩ = some v := by rw [Lib.cell_of_heap hb2]; rfl
  have f1 : w2.frozen? ⟨b, 1, none⟩ = false := Lib.frozen_of_heap hb2 1
  obtain ⟨ao, n', cap, rfl⟩ : ∃ ao n' cap, v' = .slice ao n' cap := by
    rcases hown'.2 with ⟨hv, _⟩ | ⟨g, cap, cur, fz, hv, _⟩
    · exact ⟨_, _, _, hv⟩
    · exact ⟨_, _, _, hv⟩
  go_wp2
  go_ret2
  refine ⟨rfl, ?_, ?_, (hk1.grown hgrow (Lib.ownsRowF_kind hown)).setCell ⟨b, 1, none⟩ rfl _⟩
  · exact Lib.BuilderAtF.put (T := 51) (e := 5) hB hb2 (bs' := bs ++ Lib.strCells s) (by simpa [Lib.strCells_length] using hown') (by decide)
  · exact (hb1.grown hgrow (by have := hb1.size; omega) (fun k hk => (hown.lt k hk).1)).setCell (p := ⟨b, 1, none⟩) hB _

theorem writeByte_any (B b : Nat) (l : Bytes) (c : Int) (w : World) (h : Bld B b l w) (hc : 0 ≤ c ∧ c ≤ 255) (hlen : l.length + 1 ≤ 140737488355328) (hBw : B ≤ w.heap.size) :
    Calls Tryd.prog 24 #[.pointer (some ⟨b, 0, none⟩), .int .u8 c] w fun e w' => e = .returned .nilIface ∧ Bld B b (l ++ [UInt8.ofNat c.toNat]) w' ∧ Below B w w' ∧ Kept b w w' := by
  refine (writeByte_cells B b (Lib.byteCells l) c w h (by rw [Lib.byteCells_length]; exact hlen) hBw).mono ?_
  rintro e w' ⟨rfl, h1, h2, h3⟩
  refine ⟨rfl, .inr ?_, h2, h3⟩
  rw [Lib.byteCells_append]
  have : Lib.byteCells [UInt8.ofNat c.toNat] = [.int .u8 c] := by
    simp only [Lib.byteCells, List.map_cons, List.map_nil]
    rw [u8_of (by omega), Int.toNat_of_nonneg hc.1]
  rw [this]; exact h1
theorem writeString_any (B b : Nat) (l m : Bytes) (w : World) (h : Bld B b l w) (hlen : l.length + m.length ≤ 140737488355328) (hBw : B ≤ w.heap.size) :
    Calls Tryd.prog 21 #[.pointer (some ⟨b, 0, none⟩), .string (S m)] w fun e w' => e = .returned (.tuple #[.int .i64 m.length, .nilIface]) ∧ Bld B b (l ++ m) w' ∧ Below B w w' ∧ Kept b w w' := by
  have hs : (S m).size = m.length := by simp [S, ByteArray.size]
  refine (writeString_cells B b (Lib.byteCells l) (S m) w h (by rw [Lib.byteCells_length, hs]; exact hlen) hBw).mono ?_
  rintro e w' ⟨rfl, h1, h2, h3⟩
  refine ⟨by rw [hs], .inr ?_, h2, h3⟩
  rw [Lib.byteCells_append]; exact h1
theorem builderString_any (B b : Nat) (l : Bytes) (w : World) (h : Bld B b l w) (hBw : B ≤ w.heap.size) :
    Calls Tryd.prog 25 #[.pointer (some ⟨b, 0, none⟩)] w fun e w' => e = .returned (.string (S l)) ∧ Bld B b l w' ∧ Below B w w' ∧ Kept b w w' :=
  Tryd.Builder_String_any_k B b l w h hBw
end Go.Proofs.YthilaolkkamedaaDoor
set_option linter.unusedVariables false
namespace Go.Proofs.YthilaolkkamedaaDoor
open Go.RowKit

structure Att where
  space : Bytes
  name : Bytes
  value : Bytes
  pos : Int
inductive Node where
  | mk (kind : Int) (space name : Bytes) (attrs : List Att) (kids : List Node) (text : Bytes) (pos : Int)
namespace Node
def kind : Node → Int | mk k _ _ _ _ _ _ => k
def space : Node → Bytes | mk _ s _ _ _ _ _ => s
def name : Node → Bytes | mk _ _ n _ _ _ _ => n
def attrs : Node → List Att | mk _ _ _ ats _ _ _ => ats
def kids : Node → List Node | mk _ _ _ _ ks _ _ => ks
def text : Node → Bytes | mk _ _ _ _ _ t _ => t
def pos : Node → Int | mk _ _ _ _ _ _ p => p
end Node

/-- The cells of an attribute. -/
def attCells (a : Att) : List Value := [.string (S a.space), .string (S a.name), .string (S a.value), .int .i64 a.pos]
/-- The value v is a slice of attributes that lies below block B. -/
def AttsIn (w : World) (B : Nat) (v : Value) (ats : List Att) : Prop :=
  ∃ A cap, v = .slice A ats.length cap ∧ ats.length ≤ cap ∧ (ats = [] ∨ ∃ b off, A = some ⟨b, off, none⟩ ∧ b < B ∧ ∀ (i : Nat) a, ats[i]? = some a → w.rangeAt b (off + i * 4) (attCells a))
mutual
/-- The cells of a node. -/
def NodeIn (w : World) (B : Nat) : Node → List Value → Prop
  | .mk k s n ats ks t p, cs => ∃ va A cap, cs = [.int .i64 k, .string (S s), .string (S n), va, .slice A ks.length cap, .string (S t), .int .i64 p] ∧ AttsIn w B va ats ∧ ks.length ≤ cap ∧
      (ks = [] ∨ ∃ b off, A = some ⟨b, off, none⟩ ∧ b < B ∧ KidsIn w B b off ks)
/-- Nodes one behind the other from an offset of a block on. -/
def KidsIn (w : World) (B b : Nat) : Nat → List Node → Prop
  | _, [] => True
  | off, k :: ks => (∃ cs, NodeIn w B k cs ∧ w.rangeAt b off cs) ∧ KidsIn w B b (off + 7) ks
end
/-- A slice of nodes. -/
def NodesIn (w : World) (B : Nat) (v : Value) (ks : List Node) : Prop :=
  ∃ A cap, v = .slice A ks.length cap ∧ ks.length ≤ cap ∧ (ks = [] ∨ ∃ b off, A = some ⟨b, off, none⟩ ∧ b < B ∧ KidsIn w B b off ks)
/-- A node ats a value. -/
def NodeV (w : World) (B : Nat) (n : Node) (v : Value) : Prop := ∃ cs : List Value, v = .agg cs.toArray ∧ NodeIn w B n cs

section
variable {w w' : World} {B B' b off : Nat}
theorem rangeAt_keep {cs : List Value} (h : w.rangeAt b off cs) (hk : w'.heap[b]? = w.heap[b]?) : w'.rangeAt b off cs :=
  fun j v hv => (World.cell?_of_block (w := w) (a := ⟨b, off + j, none⟩) hk).trans (h j v hv)
theorem AttsIn.keep {v : Value} {ats : List Att} (h : AttsIn w B v ats) (hb : ∀ k, k < B → w'.heap[k]? = w.heap[k]?) (hB : B ≤ B') : AttsIn w' B' v ats := by
  obtain ⟨A, cap, hv, hc, h⟩ := h
  refine ⟨A, cap, hv, hc, h.imp id ?_⟩
  rintro ⟨b, off, hA, hlt, hr⟩
  exact ⟨b, off, hA, by omega, fun i a hi => rangeAt_keep (hr i a hi) (hb b hlt)⟩
mutual
theorem NodeIn.keep (hb : ∀ k, k < B → w'.heap[k]? = w.heap[k]?) (hB : B ≤ B') : ∀ (n : Node) (cs : List Value), NodeIn w B n cs → NodeIn w' B' n cs
  | .mk k s nm ats ks t p, cs, h => by
    rw [NodeIn] at h ⊢
    obtain ⟨va, A, cap, hcs, ha, hc, h⟩ := h
    refine ⟨va, A, cap, hcs, ha.keep hb hB, hc, h.imp id ?_⟩
    rintro ⟨b, off, hA, hlt, hr⟩
    exact ⟨b, off, hA, by omega, KidsIn.keep hb hB hlt ks off hr⟩
theorem KidsIn.keep (hb : ∀ k, k < B → w'.heap[k]? = w.heap[k]?) (hB : B ≤ B') {b : Nat} (hlt : b < B) : ∀ (ks : List Node) (off : Nat), KidsIn w B b off ks → KidsIn w' B' b off ks
  | [], _, _ => by rw [KidsIn]; trivial
  | k :: ks, off, h => by
    rw [KidsIn] at h ⊢
    obtain ⟨⟨cs, h1, h2⟩, h3⟩ := h
    exact ⟨⟨cs, NodeIn.keep hb hB k cs h1, rangeAt_keep h2 (hb b hlt)⟩, KidsIn.keep hb hB hlt ks (off + 7) h3⟩
end
theorem NodesIn.keep {v : Value} {ks : List Node} (h : NodesIn w B v ks) (hb : ∀ k, k < B → w'.heap[k]? = w.heap[k]?) (hB : B ≤ B') : NodesIn w' B' v ks := by
  obtain ⟨A, cap, hv, hc, h⟩ := h
  refine ⟨A, cap, hv, hc, h.imp id ?_⟩
  rintro ⟨b, off, hA, hlt, hr⟩
  exact ⟨b, off, hA, by omega, KidsIn.keep hb hB hlt ks off hr⟩
theorem NodeV.keep {n : Node} {v : Value} (h : NodeV w B n v) (hb : ∀ k, k < B → w'.heap[k]? = w.heap[k]?) (hB : B ≤ B') : NodeV w' B' n v := by
  obtain ⟨cs, hv, hn⟩ := h
  exact ⟨cs, hv, NodeIn.keep hb hB n cs hn⟩
theorem NodeV.below {n : Node} {v : Value} (h : NodeV w B n v) (hb : Below B w w') : NodeV w' B n v := h.keep hb.block (Nat.le_refl _)
theorem NodeV.more {n : Node} {v : Value} (h : NodeV w B n v) (hB : B ≤ B') : NodeV w B' n v := h.keep (fun _ _ => rfl) hB
theorem NodesIn.below {ks : List Node} {v : Value} (h : NodesIn w B v ks) (hb : Below B w w') : NodesIn w' B v ks := h.keep hb.block (Nat.le_refl _)
theorem AttsIn.below {ats : List Att} {v : Value} (h : AttsIn w B v ats) (hb : Below B w w') : AttsIn w' B v ats := h.keep hb.block (Nat.le_refl _)
theorem KidsIn.at_ : ∀ {ks : List Node} {off : Nat}, KidsIn w B b off ks → ∀ {i : Nat} {k : Node}, ks[i]? = some k → ∃ cs, NodeIn w B k cs ∧ w.rangeAt b (off + i * 7) cs
  | [], off, _, i, k, hi => by simp at hi
  | x :: ks, off, h, i, k, hi => by
    rw [KidsIn] at h
    cases i with
    | zero => simp at hi; subst hi; simpa using h.1
    | succ i =>
      obtain ⟨cs, h1, h2⟩ := KidsIn.at_ h.2 (i := i) (by simpa using hi)
      exact ⟨cs, h1, by rw [show off + (i + 1) * 7 = off + 7 + i * 7 by omega]; exact h2⟩
theorem KidsIn.of_at : ∀ {ks : List Node} {off : Nat}, (∀ (i : Nat) (k : Node), ks[i]? = some k → ∃ cs, NodeIn w B k cs ∧ w.rangeAt b (off + i * 7) cs) → KidsIn w B b off ks
  | [], off, _ => by rw [KidsIn]; trivial
  | x :: ks, off, h => by
    rw [KidsIn]
    refine ⟨by simpa using h 0 x rfl, KidsIn.of_at fun i k hi => ?_⟩
    have := h (i + 1) k (by simpa using hi)
    rw [show off + (i + 1) * 7 = off + 7 + i * 7 by omega] at this
    exact this
theorem NodeIn.form {n : Node} {cs : List Value} (h : NodeIn w B n cs) : ∃ va vk, cs = [.int .i64 n.kind, .string (S n.space), .string (S n.name), va, vk, .string (S n.text), .int .i64 n.pos] ∧ AttsIn w B va n.attrs ∧ NodesIn w B vk n.kids := by
  cases n with
  | mk k s nm ats ks t p =>
    rw [NodeIn] at h
    obtain ⟨va, A, cap, hcs, ha, hc, h⟩ := h
    exact ⟨va, _, hcs, ha, A, cap, rfl, hc, h⟩
theorem NodeIn.of_form {n : Node} {va vk : Value} (ha : AttsIn w B va n.attrs) (hk : NodesIn w B vk n.kids) :
    NodeIn w B n [.int .i64 n.kind, .string (S n.space), .string (S n.name), va, vk, .string (S n.text), .int .i64 n.pos] := by
  cases n with
  | mk k s nm ats ks t p =>
    rw [NodeIn]
    obtain ⟨A, cap, hv, hc, h⟩ := hk
    exact ⟨va, A, cap, by rw [hv]; rfl, ha, hc, h⟩
theorem NodeV.form {n : Node} {v : Value} (h : NodeV w B n v) : ∃ va vk, v = .agg #[.int .i64 n.kind, .string (S n.space), .string (S n.name), va, vk, .string (S n.text), .int .i64 n.pos] ∧ AttsIn w B va n.attrs ∧ NodesIn w B vk n.kids := by
  obtain ⟨cs, hv, hn⟩ := h
  obtain ⟨va, vk, hcs, ha, hk⟩ := hn.form
  exact ⟨va, vk, by rw [hv, hcs], ha, hk⟩
theorem NodeV.of_form {n : Node} {va vk : Value} (ha : AttsIn w B va n.attrs) (hk : NodesIn w B vk n.kids) :
    NodeV w B n (.agg #[.int .i64 n.kind, .string (S n.space), .string (S n.name), va, vk, .string (S n.text), .int .i64 n.pos]) :=
  ⟨_, rfl, NodeIn.of_form ha hk⟩
theorem AttsIn.slice {ats : List Att} {v : Value} (h : AttsIn w B v ats) : ∃ A cap, v = .slice A ats.length cap ∧ ats.length ≤ cap := by
  obtain ⟨A, cap, hv, hc, _⟩ := h; exact ⟨A, cap, hv, hc⟩
theorem NodesIn.slice {ks : List Node} {v : Value} (h : NodesIn w B v ks) : ∃ A cap, v = .slice A ks.length cap ∧ ks.length ≤ cap := by
  obtain ⟨A, cap, hv, hc, _⟩ := h; exact ⟨A, cap, hv, hc⟩
theorem NodeIn.open_ {n : Node} {cs : List Value} (h : NodeIn w B n cs) : ∃ A c K d, cs = [.int .i64 n.kind, .string (S n.space), .string (S n.name), .slice A n.attrs.length c, .slice K n.kids.length d, .string (S n.text), .int .i64 n.pos] ∧
    AttsIn w B (.slice A n.attrs.length c) n.attrs ∧ NodesIn w B (.slice K n.kids.length d) n.kids ∧ n.attrs.length ≤ c ∧ n.kids.length ≤ d := by
  obtain ⟨va, vk, hcs, ha, hk⟩ := h.form
  obtain ⟨A, c, rfl, hc⟩ := ha.slice
  obtain ⟨K, d, rfl, hd⟩ := hk.slice
  exact ⟨A, c, K, d, hcs, ha, hk, hc, hd⟩
theorem NodeV.open_ {n : Node} {v : Value} (h : NodeV w B n v) : ∃ A c K d, v = .agg #[.int .i64 n.kind, .string (S n.space), .string (S n.name), .slice A n.attrs.length c, .slice K n.kids.length d, .string (S n.text), .int .i64 n.pos] ∧
    AttsIn w B (.slice A n.attrs.length c) n.attrs ∧ NodesIn w B (.slice K n.kids.length d) n.kids ∧ n.attrs.length ≤ c ∧ n.kids.length ≤ d := by
  obtain ⟨cs, hv, hn⟩ := h
  obtain ⟨A, c, K, d, hcs, h⟩ := hn.open_
  exact ⟨A, c, K, d, by rw [hv, hcs], h⟩
theorem AttsIn.at_ {ats : List Att} {A : Option Addr} {n cap i : Nat} (h : AttsIn w B (.slice A n cap) ats) (hi : i < ats.length) :
    ∃ b off, A = some ⟨b, off, none⟩ ∧ b < B ∧ w.rangeAt b (off + i * 4) (attCells ats[i]) := by
  obtain ⟨A', cap', hv, _, h⟩ := h
  cases hv
  rcases h with h | ⟨b, off, hA, hlt, hr⟩
  · subst h; simp at hi
  · exact ⟨b, off, hA, hlt, hr i _ (List.getElem?_eq_getElem hi)⟩
theorem NodesIn.at_ {ks : List Node} {A : Option Addr} {n cap i : Nat} (h : NodesIn w B (.slice A n cap) ks) (hi : i < ks.length) :
    ∃ b off cs, A = some ⟨b, off, none⟩ ∧ b < B ∧ w.rangeAt b (off + i * 7) cs ∧ NodeIn w B ks[i] cs := by
  obtain ⟨A', cap', hv, _, h⟩ := h
  cases hv
  rcases h with h | ⟨b, off, hA, hlt, hr⟩
  · subst h; simp at hi
  · obtain ⟨cs, h1, h2⟩ := hr.at_ (List.getElem?_eq_getElem hi)
    exact ⟨b, off, cs, hA, hlt, h2, h1⟩
end
end Go.Proofs.YthilaolkkamedaaDoor
set_option linter.unusedVariables false
namespace Go.Proofs.YthilaolkkamedaaDoor

mutual
/-- A number that every kid has less of. -/
def nsz : Node → Nat
  | .mk _ _ _ _ ks _ _ => 1 + nszL ks
def nszL : List Node → Nat
  | [] => 0
  | k :: ks => nsz k + nszL ks
end
theorem nsz_kid : ∀ {ks : List Node} {k : Node}, k ∈ ks → nsz k ≤ nszL ks
  | x :: ks, k, h => by
    rw [nszL]
    rcases List.mem_cons.1 h with rfl | h
    · omega
    · have := nsz_kid h; omega
theorem nsz_lt (n : Node) {k : Node} (h : k ∈ n.kids) : nsz k < nsz n := by
  cases n with
  | mk a b c d ks e f =>
    rw [nsz]
    have := nsz_kid h
    simp only [Node.kids] at this
    omega
theorem nsz_get (n : Node) {i : Nat} (h : i < n.kids.length) : nsz n.kids[i] < nsz n := nsz_lt n (List.getElem_mem h)

/-- A length, at most 9000. -/
def cl9 (n : Nat) : Nat := min n 9000
theorem cl9_le (n : Nat) : cl9 n ≤ 9000 := Nat.min_le_right _ _
def attW (a : Att) : Nat := 1 + cl9 a.space.length + cl9 a.name.length + cl9 a.value.length
def attsW : List Att → Nat
  | [] => 0
  | a :: l => attW a + attsW l
theorem attsW_append (a b : List Att) : attsW (a ++ b) = attsW a + attsW b := by
  induction a with
  | nil => simp [attsW]
  | cons x a ih => simp only [List.cons_append, attsW, ih]; omega
theorem attsW_take {l : List Att} {i : Nat} (h : i < l.length) : attsW (l.take (i + 1)) = attsW (l.take i) + attW l[i] := by
  rw [List.take_succ_eq_append_getElem h, attsW_append]; simp [attsW]
theorem attW_le (a : Att) : attW a ≤ 27001 := by
  have := cl9_le a.space.length; have := cl9_le a.name.length; have := cl9_le a.value.length
  unfold attW; omega
theorem attsW_le (l : List Att) : attsW l ≤ l.length * 27001 := by
  induction l with
  | nil => simp [attsW]
  | cons x a ih => have := attW_le x; simp only [attsW, List.length_cons]; omega
mutual
/-- What weight returns. -/
def wgt : Node → Nat → Nat
  | .mk _ s n ats ks t _, tot => wgtL ks (tot + (1 + cl9 s.length + cl9 n.length + cl9 t.length) + attsW ats)
def wgtL : List Node → Nat → Nat
  | [], tot => tot
  | k :: ks, tot => if 9000 < tot then tot else wgtL ks (wgt k tot)
end
mutual
/-- No slice of the tree is longer than memory allows. -/
def Fit : Node → Prop
  | .mk _ s n ats ks t _ => ats.length ≤ 2600000000000 ∧ ks.length ≤ 2600000000000 ∧ FitL ks
def FitL : List Node → Prop
  | [] => True
  | k :: ks => Fit k ∧ FitL ks
end
theorem FitL.mem : ∀ {ks : List Node}, FitL ks → ∀ {k : Node}, k ∈ ks → Fit k
  | x :: ks, h, k, hk => by
    rw [FitL] at h
    rcases List.mem_cons.1 hk with rfl | hk
    · exact h.1
    · exact FitL.mem h.2 hk
theorem Fit.form {n : Node} (h : Fit n) : n.attrs.length ≤ 2600000000000 ∧ n.kids.length ≤ 2600000000000 ∧ ∀ k ∈ n.kids, Fit k := by
  cases n with
  | mk a b c d ks e f => rw [Fit] at h; exact ⟨h.1, h.2.1, fun k hk => FitL.mem h.2.2 hk⟩
theorem Fit.of_form {n : Node} (h1 : n.attrs.length ≤ 2600000000000) (h2 : n.kids.length ≤ 2600000000000) (h3 : ∀ k ∈ n.kids, Fit k) : Fit n := by
  cases n with
  | mk a b c d ks e f =>
    rw [Fit]
    refine ⟨h1, h2, ?_⟩
    simp only [Node.kids] at h3
    clear h1 h2
    induction ks with
    | nil => rw [FitL]; trivial
    | cons x ks ih => rw [FitL]; exact ⟨h3 x (by simp), ih fun k hk => h3 k (by simp [hk])⟩
def most : Nat := 70202600000036001
theorem wgt_eq (n : Node) (tot : Nat) : wgt n tot = wgtL n.kids (tot + (1 + cl9 n.space.length + cl9 n.name.length + cl9 n.text.length) + attsW n.attrs) := by
  cases n; rw [wgt]; rfl
theorem head_le (n : Node) (h : Fit n) (tot : Nat) (ht : tot ≤ 9000) : tot + (1 + cl9 n.space.length + cl9 n.name.length + cl9 n.text.length) + attsW n.attrs ≤ most := by
  have h1 := h.form.1
  have := cl9_le n.space.length; have := cl9_le n.name.length; have := cl9_le n.text.length; have := attsW_le n.attrs
  unfold most; omega
theorem wgtL_bound : ∀ ks : List Node, (∀ k ∈ ks, ∀ t, t ≤ 9000 → wgt k t ≤ most) → ∀ tot, tot ≤ most → wgtL ks tot ≤ most
  | [], _, tot, h => by rw [wgtL]; exact h
  | k :: ks, hk, tot, h => by
    rw [wgtL]
    split
    · exact h
    · exact wgtL_bound ks (fun x hx => hk x (by simp [hx])) _ (hk k (by simp) tot (by omega))
theorem wgt_bound (m : Nat) : ∀ n, nsz n ≤ m → Fit n → ∀ tot, tot ≤ 9000 → wgt n tot ≤ most := by
  induction m with
  | zero => intro n h; cases n; rw [nsz] at h; omega
  | succ m ih =>
    intro n h hf tot ht
    rw [wgt_eq]
    exact wgtL_bound _ (fun k hk t htt => ih k (by have := nsz_lt n hk; omega) (hf.form.2.2 k hk) t htt) _ (head_le n hf tot ht)
/-- After i kids without an early end. -/
theorem wgtL_step {ks : List Node} {i : Nat} {a : Nat} (hi : i < ks.length) (ha : ¬ 9000 < a) : wgtL (ks.drop i) a = wgtL (ks.drop (i + 1)) (wgt ks[i] a) := by
  rw [List.drop_eq_getElem_cons hi, wgtL, if_neg ha]
theorem wgtL_stop {ks : List Node} {i : Nat} {a : Nat} (hi : i < ks.length) (ha : 9000 < a) : wgtL (ks.drop i) a = a := by
  rw [List.drop_eq_getElem_cons hi, wgtL, if_pos ha]

/-! A tree that is not too large is small in every part. -/
def attF (a : Att) : Nat := 1 + a.space.length + a.name.length + a.value.length
def attsF : List Att → Nat
  | [] => 0
  | a :: l => attF a + attsF l
mutual
def full : Node → Nat
  | .mk _ s n ats ks t _ => 1 + s.length + n.length + t.length + attsF ats + fullL ks
def fullL : List Node → Nat
  | [] => 0
  | k :: ks => full k + fullL ks
end
theorem cl9_small {n : Nat} (h : cl9 n < 9000) : cl9 n = n := by unfold cl9 at h ⊢; omega
theorem attsF_small : ∀ l : List Att, attsW l < 9000 → attsF l = attsW l
  | [], _ => rfl
  | a :: l, h => by
    simp only [attsW, attsF] at h ⊢
    rw [attsF_small l (by omega)]
    unfold attW attF at *
    rw [cl9_small (by omega : cl9 a.space.length < 9000), cl9_small (by omega : cl9 a.name.length < 9000), cl9_small (by omega : cl9 a.value.length < 9000)]
mutual
theorem full_le : ∀ (n : Node) (tot : Nat), wgt n tot ≤ 5000 → tot + full n ≤ wgt n tot
  | .mk k s n ats ks t p, tot, h => by
    rw [wgt] at h ⊢
    rw [full]
    have h2 := fullL_le ks _ h
    have h3 := attsF_small ats (by omega)
    have e1 := cl9_small (n := s.length) (by omega)
    have e2 := cl9_small (n := n.length) (by omega)
    have e3 := cl9_small (n := t.length) (by omega)
    omega
theorem fullL_le : ∀ (ks : List Node) (tot : Nat), wgtL ks tot ≤ 5000 → tot + fullL ks ≤ wgtL ks tot
  | [], tot, h => by rw [wgtL, fullL]; omega
  | k :: ks, tot, h => by
    rw [wgtL] at h ⊢
    rw [fullL]
    split at h
    · omega
    · rename_i hn
      rw [if_neg hn]
      have h2 := fullL_le ks _ h
      have h3 := full_le k tot (by omega)
      omega
end
theorem small_of {n : Node} (h : wgt n 0 ≤ 5000) : full n ≤ 5000 := by have := full_le n 0 h; omega
theorem full_form (n : Node) : full n = 1 + n.space.length + n.name.length + n.text.length + attsF n.attrs + fullL n.kids := by cases n; rw [full]; rfl
theorem fullL_mem : ∀ {ks : List Node} {k : Node}, k ∈ ks → full k ≤ fullL ks
  | x :: ks, k, h => by
    rw [fullL]
    rcases List.mem_cons.1 h with rfl | h
    · omega
    · have := fullL_mem h; omega
theorem attsF_mem : ∀ {l : List Att} {a : Att}, a ∈ l → attF a ≤ attsF l
  | x :: l, a, h => by
    simp only [attsF]
    rcases List.mem_cons.1 h with rfl | h
    · omega
    · have := attsF_mem h; omega
theorem attsF_len : ∀ l : List Att, l.length ≤ attsF l
  | [] => by simp [attsF]
  | a :: l => by have := attsF_len l; simp only [attsF, attF, List.length_cons]; omega
theorem full_pos (n : Node) : 1 ≤ full n := by rw [full_form]; omega
theorem fullL_len : ∀ l : List Node, l.length ≤ fullL l
  | [] => by simp
  | k :: l => by have := fullL_len l; have := full_pos k; rw [fullL]; simp only [List.length_cons]; omega
/-- What is small is small in every part. -/
structure Parts (n : Node) (N : Nat) : Prop where
  space : n.space.length < N
  name : n.name.length < N
  text : n.text.length < N
  attrs : n.attrs.length < N
  kids : n.kids.length < N
  att : ∀ a ∈ n.attrs, a.space.length < N ∧ a.name.length < N ∧ a.value.length < N
  kid : ∀ k ∈ n.kids, full k < N
theorem parts (n : Node) {N : Nat} (h : full n ≤ N) : Parts n N := by
  rw [full_form] at h
  have h1 := attsF_len n.attrs
  have h2 := fullL_len n.kids
  refine ⟨by omega, by omega, by omega, by omega, by omega, fun a ha => ?_, fun k hk => ?_⟩
  · have := attsF_mem ha; unfold attF at this; omega
  · have := fullL_mem hk; omega
theorem full_fit (m : Nat) : ∀ n : Node, nsz n ≤ m → full n ≤ 2600000000000 → Fit n := by
  induction m with
  | zero => intro n h; cases n; rw [nsz] at h; omega
  | succ m ih =>
    intro n h hf
    have hp := parts n hf
    exact Fit.of_form (by have := hp.attrs; omega) (by have := hp.kids; omega) (fun k hk => ih k (by have := nsz_lt n hk; omega) (by have := hp.kid k hk; omega))

mutual
/-- The nesting of elements. -/
def depth : Node → Nat
  | .mk k _ _ _ ks _ _ => if k = 1 then 0 else depthL ks 0 + 1
def depthL : List Node → Nat → Nat
  | [], a => a
  | k :: ks, a => depthL ks (max a (depth k))
end
theorem depth_eq (n : Node) : depth n = if n.kind = 1 then 0 else depthL n.kids 0 + 1 := by cases n; rw [depth]; rfl
theorem depthL_step {ks : List Node} {i a : Nat} (hi : i < ks.length) : depthL (ks.drop i) a = depthL (ks.drop (i + 1)) (max a (depth ks[i])) := by
  rw [List.drop_eq_getElem_cons hi, depthL]
theorem depthL_le : ∀ (ks : List Node) (a N : Nat), a ≤ N → (∀ k ∈ ks, depth k ≤ N) → depthL ks a ≤ N
  | [], a, N, h, _ => by rw [depthL]; exact h
  | k :: ks, a, N, h, hk => by
    rw [depthL]
    exact depthL_le ks _ N (Nat.max_le.2 ⟨h, hk k (by simp)⟩) (fun x hx => hk x (by simp [hx]))
theorem depthL_ge : ∀ (ks : List Node) (a : Nat), a ≤ depthL ks a
  | [], a => by rw [depthL]; exact Nat.le_refl _
  | k :: ks, a => by rw [depthL]; exact Nat.le_trans (Nat.le_max_left _ _) (depthL_ge ks _)
theorem depthL_mem : ∀ (ks : List Node) (a : Nat), ∀ k ∈ ks, depth k ≤ depthL ks a
  | x :: ks, a, k, h => by
    rw [depthL]
    rcases List.mem_cons.1 h with rfl | h
    · exact Nat.le_trans (Nat.le_max_right _ _) (depthL_ge ks _)
    · exact depthL_mem ks _ k h
theorem nszL_ge : ∀ (ks : List Node), ∀ k ∈ ks, nsz k ≤ nszL ks := fun ks k h => nsz_kid h
theorem depth_nsz (m : Nat) : ∀ n : Node, nsz n ≤ m → depth n ≤ nsz n := by
  induction m with
  | zero => intro n h; cases n; rw [nsz] at h; omega
  | succ m ih =>
    intro n h
    rw [depth_eq]
    split
    · omega
    · have : depthL n.kids 0 ≤ nsz n - 1 := depthL_le _ _ _ (by omega) (fun k hk => by
        have h1 := nsz_lt n hk
        have := ih k (by omega)
        omega)
      have : 1 ≤ nsz n := by cases n; rw [nsz]; omega
      omega
mutual
theorem nsz_full : ∀ n : Node, nsz n ≤ full n
  | .mk k s n ats ks t p => by rw [nsz, full]; have := nszL_full ks; omega
theorem nszL_full : ∀ ks : List Node, nszL ks ≤ fullL ks
  | [] => by rw [nszL, fullL]; omega
  | k :: ks => by rw [nszL, fullL]; have := nsz_full k; have := nszL_full ks; omega
end
theorem depth_full (n : Node) : depth n ≤ full n := Nat.le_trans (depth_nsz _ n (Nat.le_refl _)) (nsz_full n)

/-! Equality of trees, with or without offsets. -/
def attEqv (o : Bool) (a b : Att) : Bool := a.space == b.space && a.name == b.name && a.value == b.value && (!o || a.pos == b.pos)
def attsEqv (o : Bool) : List Att → List Att → Bool
  | a :: l, b :: r => attEqv o a b && attsEqv o l r
  | _, _ => true
/-- What is compared before attributes and kids. -/
def headEqv (o : Bool) (n m : Node) : Bool := n.kind == m.kind && n.space == m.space && n.name == m.name && n.text == m.text && (!o || n.pos == m.pos) && n.attrs.length == m.attrs.length && n.kids.length == m.kids.length
mutual
def eqv (o : Bool) : Node → Node → Bool
  | .mk k s n ats ks t p, m => headEqv o (.mk k s n ats ks t p) m && attsEqv o ats m.attrs && kidsEqv o ks m.kids
def kidsEqv (o : Bool) : List Node → List Node → Bool
  | k :: ks, ms => match ms with
    | m :: ms => eqv o k m && kidsEqv o ks ms
    | [] => true
  | [], _ => true
end
theorem eqv_eq (o : Bool) (n m : Node) : eqv o n m = (headEqv o n m && attsEqv o n.attrs m.attrs && kidsEqv o n.kids m.kids) := by cases n; rw [eqv]; rfl
theorem attsEqv_step {o : Bool} {l r : List Att} {i : Nat} (hl : i < l.length) (hr : i < r.length) : attsEqv o (l.drop i) (r.drop i) = (attEqv o l[i] r[i] && attsEqv o (l.drop (i + 1)) (r.drop (i + 1))) := by
  rw [List.drop_eq_getElem_cons hl, List.drop_eq_getElem_cons hr, attsEqv]
theorem kidsEqv_step {o : Bool} {l r : List Node} {i : Nat} (hl : i < l.length) (hr : i < r.length) : kidsEqv o (l.drop i) (r.drop i) = (eqv o l[i] r[i] && kidsEqv o (l.drop (i + 1)) (r.drop (i + 1))) := by
  rw [List.drop_eq_getElem_cons hl, List.drop_eq_getElem_cons hr, kidsEqv]
theorem attsEqv_nil (o : Bool) (r : List Att) : attsEqv o [] r = true := by rw [attsEqv]; simp
theorem kidsEqv_nil (o : Bool) (r : List Node) : kidsEqv o [] r = true := by rw [kidsEqv]
end Go.Proofs.YthilaolkkamedaaDoor
set_option linter.unusedVariables false
namespace Go.Proofs.YthilaolkkamedaaDoor
open Go.RowKit

/-! How the walk reads a string that is given by its list of bytes. -/
@[go_sem] theorem S_size (l : Bytes) : (S l).size = l.length := by simp [S, ByteArray.size]
@[go_sem] theorem S_toList (l : Bytes) : (S l).toList = l := ByteArray.toList_mk l
@[go_sem] theorem S_data (l : Bytes) : (S l).data.toList = l := by simp [S]
@[go_sem] theorem S_get (l : Bytes) (i : Nat) (h : i < (S l).size) : (S l)[i]'h = l[i]'(by rw [S_size] at h; exact h) := by
  simp only [S, ByteArray.getElem_eq_getElem_data]
  rfl
theorem S_extract (l : Bytes) (i j : Nat) : (S l).extract i j = S ((l.take j).drop i) := by
  have := Lib.extract_eq (S l) i j
  rw [S_data] at this
  rw [this, List.drop_take]
  rfl
@[go_sem] theorem S_extract_cut (l : Bytes) (i j : Nat) : (S l).extract i j = S ((l.drop i).take (j - i)) := by
  rw [S_extract, List.drop_take]
@[go_sem high] theorem S_extract_from (l : Bytes) (i : Nat) : (S l).extract i l.length = S (l.drop i) := by
  rw [S_extract, List.take_length]
@[go_sem high] theorem S_extract_to (l : Bytes) (j : Nat) : (S l).extract 0 j = S (l.take j) := by
  rw [S_extract, List.drop_zero]
@[go_sem] theorem S_append (a b : Bytes) : S a ++ S b = S (a ++ b) := ByteArray.mk_append_mk a b
@[go_sem] theorem mk_append_S (a b : Bytes) : ByteArray.mk a.toArray ++ S b = S (a ++ b) := ByteArray.mk_append_mk a b
@[go_sem] theorem S_append_mk (a b : Bytes) : S a ++ ByteArray.mk b.toArray = S (a ++ b) := ByteArray.mk_append_mk a b
@[go_sem] theorem wrap64_byte (b : UInt8) : wrap64 (b.toNat : Int) = b.toNat := IntWalk.wrap64_in _ (by have := u8_lt b; constructor <;> omega)
theorem S_data' (s : ByteArray) : S s.data.toList = s := by simp [S]
theorem S_inj {a b : Bytes} (h : S a = S b) : a = b := by
  have := congrArg (fun s : ByteArray => s.data.toList) h
  simpa [S] using this

theorem foldl_push (ns : List UInt8) : ∀ acc : ByteArray, (ns.map fun b => (b.toNat : Int)).foldl (fun r (n : Int) => r.push (UInt8.ofNat n.toNat)) acc = ⟨(acc.data.toList ++ ns).toArray⟩ := by
  induction ns with
  | nil => intro acc; simp
  | cons b ns ih =>
    intro acc
    simp only [List.map_cons, List.foldl_cons, Int.toNat_natCast, UInt8.ofNat_toNat]
    rw [ih]
    simp [ByteArray.push]
theorem run_bytes_string (w : World) (a : Addr) (l : Bytes) (cap : Nat) (h : ∀ j x, l[j]? = some x → w.cell? (a.add j) = some (.int .u8 x.toNat)) :
    (convert 49 9 (.slice (some a) l.length cap)).run Tryd.prog w = .ok (.string (S l)) w := by
  rw [run_convert_bytes_string w _ _ 5 _ _ _ Tryd.underlying49 Tryd.underlying5 Tryd.underlying9]
  rw [run_bytesToString w a l.length cap (l.map fun b => (b.toNat : Int))]
  · rw [foldl_push]; rfl
  · have := run_loadCells_list (P := Tryd.prog) (w := w) a (l.map fun b => Value.int .u8 b.toNat) (fun j v hj => by
      rw [List.getElem?_map, Option.map_eq_some_iff] at hj
      obtain ⟨x, hx, rfl⟩ := hj
      exact h j x hx)
    simp only [List.length_map] at this
    rw [this]
    simp
theorem run_bytes_nil (w : World) : (convert 49 9 (.slice none 0 0)).run Tryd.prog w = .ok (.string (S [])) w := by
  rw [run_convert_bytes_string w _ _ 5 _ _ _ Tryd.underlying49 Tryd.underlying5 Tryd.underlying9]
  simp [Conv.bytesToString, S, Sem.run_pure]
  rfl
theorem byte_int {x : Int} (h : 0 ≤ x ∧ x ≤ 255) : Value.int .u8 x = .int .u8 ((UInt8.ofNat x.toNat).toNat) := by
  rw [u8_of (by omega), Int.toNat_of_nonneg h.1]
theorem run_new_bytes (w : World) (xs : List Int) (n : Nat) (hn : xs.length = n) (h : ∀ x ∈ xs, 0 ≤ x ∧ x ≤ 255) :
    (convert 49 9 (.slice (some ⟨w.heap.size, 0, none⟩) n n)).run Tryd.prog (w.alloc (.cells (xs.map (Value.int .u8)).toArray 5)) =
      .ok (.string (S (xs.map fun x => UInt8.ofNat x.toNat))) (w.alloc (.cells (xs.map (Value.int .u8)).toArray 5)) := by
  subst hn
  have := run_bytes_string (w.alloc (.cells (xs.map (Value.int .u8)).toArray 5)) ⟨w.heap.size, 0, none⟩ (xs.map fun x => UInt8.ofNat x.toNat) xs.length (fun j x hj => by
    rw [List.getElem?_map, Option.map_eq_some_iff] at hj
    obtain ⟨y, hy, rfl⟩ := hj
    have hm := List.mem_of_getElem? hy
    rw [show (⟨w.heap.size, 0, none⟩ : Addr).add j = ⟨w.heap.size, j, none⟩ by unfold Addr.add; split <;> simp_all]
    rw [Lib.cell_of_heap (heap_alloc_new w _)]
    simp only [List.getElem?_toArray, List.getElem?_map, hy, Option.map_some]
    rw [byte_int (h y hm)])
  simpa using this
theorem run_new1 (w : World) (a : Int) (h : 0 ≤ a ∧ a ≤ 255) :
    (convert 49 9 (.slice (some ⟨w.heap.size, 0, none⟩) 1 1)).run Tryd.prog (w.alloc (.cells #[.int .u8 a] 5)) =
      .ok (.string (S [UInt8.ofNat a.toNat])) (w.alloc (.cells #[.int .u8 a] 5)) := run_new_bytes w [a] 1 rfl (by simpa using h)
theorem run_new2 (w : World) (a b : Int) (h : 0 ≤ a ∧ a ≤ 255) (h2 : 0 ≤ b ∧ b ≤ 255) :
    (convert 49 9 (.slice (some ⟨w.heap.size, 0, none⟩) 2 2)).run Tryd.prog (w.alloc (.cells #[.int .u8 a, .int .u8 b] 5)) =
      .ok (.string (S [UInt8.ofNat a.toNat, UInt8.ofNat b.toNat])) (w.alloc (.cells #[.int .u8 a, .int .u8 b] 5)) := run_new_bytes w [a, b] 2 rfl (by simp; omega)
theorem run_new3 (w : World) (a b c : Int) (h : 0 ≤ a ∧ a ≤ 255) (h2 : 0 ≤ b ∧ b ≤ 255) (h3 : 0 ≤ c ∧ c ≤ 255) :
    (convert 49 9 (.slice (some ⟨w.heap.size, 0, none⟩) 3 3)).run Tryd.prog (w.alloc (.cells #[.int .u8 a, .int .u8 b, .int .u8 c] 5)) =
      .ok (.string (S [UInt8.ofNat a.toNat, UInt8.ofNat b.toNat, UInt8.ofNat c.toNat])) (w.alloc (.cells #[.int .u8 a, .int .u8 b, .int .u8 c] 5)) := run_new_bytes w [a, b, c] 3 rfl (by simp; omega)
theorem run_new4 (w : World) (a b c d : Int) (h : 0 ≤ a ∧ a ≤ 255) (h2 : 0 ≤ b ∧ b ≤ 255) (h3 : 0 ≤ c ∧ c ≤ 255) (h4 : 0 ≤ d ∧ d ≤ 255) :
    (convert 49 9 (.slice (some ⟨w.heap.size, 0, none⟩) 4 4)).run Tryd.prog (w.alloc (.cells #[.int .u8 a, .int .u8 b, .int .u8 c, .int .u8 d] 5)) =
      .ok (.string (S [UInt8.ofNat a.toNat, UInt8.ofNat b.toNat, UInt8.ofNat c.toNat, UInt8.ofNat d.toNat])) (w.alloc (.cells #[.int .u8 a, .int .u8 b, .int .u8 c, .int .u8 d] 5)) := run_new_bytes w [a, b, c, d] 4 rfl (by simp; omega)

/-! A slice of bytes that the call has built itself. -/
def Own (B : Nat) (v : Value) (l : Bytes) (w : World) : Prop := w.ownsRow B 5 1 v l.length (Lib.byteCells l)
theorem Own.nil (B : Nat) (w : World) : Own B (.slice none 0 0) [] w := ⟨by simp [Lib.byteCells], .inl ⟨rfl, rfl⟩⟩
theorem Own.below {B : Nat} {v : Value} {l : Bytes} {w w' : World} (h : Own B v l w) (hb : Below w.heap.size w w') : Own B v l w' := by
  obtain ⟨h1, h2⟩ := h
  refine ⟨h1, ?_⟩
  rcases h2 with h2 | ⟨g, cap, cur, hv, hg, hh, r⟩
  · exact .inl h2
  · exact .inr ⟨g, cap, cur, hv, hg, (hb.block g (by
      rcases Nat.lt_or_ge g w.heap.size with h' | h'
      · exact h'
      · rw [Array.getElem?_eq_none h'] at hh; cases hh)).trans hh, r⟩
theorem own_append_str {ops : Array Oper} {rest : List Oper} {o : Oper} {a : Act} {w : World} {Q : Exit → Act → World → Prop} (hgd : o.guard = none) (sl x : Operand)
    (ho : o.op = .call { callee := .builtin .append, args := #[sl, x], argTypes := #[49, 9] })
    (B : Nat) (v : Value) (l m : Bytes) (hs : a.eval sl = v) (h : Own B v l w) (hx : a.eval x = .string (S m)) (hlen : l.length + m.length ≤ 140737488355328) (hB : B ≤ w.heap.size)
    (hK : ∀ v' w', Own B v' (l ++ m) w' → Below B w w' → wpList Tryd.prog ops Q rest (a.put o.dst v') w') : wpList Tryd.prog ops Q (o :: rest) a w := by
  obtain ⟨i0, hi, hz0, hz1, hz2⟩ := info_parts infoByte
  have hsz : (S m).size = m.length := S_size m
  refine Lib.wpList_append_own_string _ hgd sl x 49 9 ho B 5 i0 Tryd.underlying49 Tryd.underlying9 hi hz0 hz1 hz2 v _ _ hs h (S m) hx (by rw [hsz]; unfold maxLen; omega) (by rw [hsz]; omega) hB ?_
  intro v' w' hown hg _
  refine hK v' w' ?_ ((Below.refl _ _).grown hg hB (fun k hk => (h.lt k hk).1))
  unfold Own
  rw [Lib.byteCells_append, List.length_append, ← hsz]
  exact hown
theorem own_append_byte {c : UInt8} {ops : Array Oper} {rest : List Oper} {o : Oper} {a : Act} {w : World} {Q : Exit → Act → World → Prop} (hgd : o.guard = none) (sl x : Operand)
    (ho : o.op = .call { callee := .builtin .append, args := #[sl, x], argTypes := #[49, 49] })
    (B : Nat) (v : Value) (l : Bytes) (hs : a.eval sl = v) (h : Own B v l w) (hx : a.eval x = .slice (some ⟨w.heap.size, 0, none⟩) 1 1) (hlen : l.length + 1 ≤ 140737488355328) (hB : B ≤ w.heap.size)
    (hK : ∀ v' w', Own B v' (l ++ [c]) w' → Below B w w' → wpList Tryd.prog ops Q rest (a.put o.dst v') w') : wpList Tryd.prog ops Q (o :: rest) a (w.alloc (.cells #[.int .u8 c.toNat] 5)) := by
  obtain ⟨i0, hi, hz0, hz1, hz2⟩ := info_parts infoByte
  have hal : Own B v l (w.alloc (.cells #[.int .u8 c.toNat] 5)) := h.below ((Below.refl _ _).alloc (Nat.le_refl _) _)
  refine wpList_append_own _ hgd sl x 49 ho B 5 i0 (.int .u8 0) 1 1 Tryd.underlying49 hi hz0 hz1 hz2 rfl (by decide) v _ _ hs hal ⟨w.heap.size, 0, none⟩ 1 1 [.int .u8 c.toNat] hx rfl ?_ ?_ (by unfold maxLen; omega) (by omega) (by simp; omega) ?_
  · intro j u hj
    match j, hj with
    | 0, hj => simp at hj; subst hj; simp [Addr.add]
  · intro u hu; simp at hu; subst hu; rfl
  intro v' w' hown hg _
  refine hK v' w' ?_ (((Below.refl _ _).alloc hB _).grown hg (by simp; omega) (fun k hk => (h.lt k hk).1))
  unfold Own
  rw [Lib.byteCells_append, List.length_append]
  exact hown
/-- Such a slice turned into a string. -/
theorem own_string {B : Nat} {v : Value} {l : Bytes} {w : World} (h : Own B v l w) : (convert 49 9 v).run Tryd.prog w = .ok (.string (S l)) w := by
  rcases h.2 with ⟨hv, hn⟩ | ⟨g, cap, cur, hv, r⟩
  · have : l = [] := List.eq_nil_of_length_eq_zero hn
    subst this
    rw [hv]
    exact run_bytes_nil w
  · rw [hv]
    refine run_bytes_string w ⟨g, 0, none⟩ l cap (fun j x hj => ?_)
    have := h.cells (g := g) (by rw [hv]; rfl) j (.int .u8 x.toNat) (by simp [Lib.byteCells, hj])
    exact this

/-! 'Upd b w w'': w' is w with new blocks, and writes to block b alone. -/
structure Upd (b : Nat) (w w' : World) : Prop where
  os : w'.os = w.os
  tape : w'.tape = w.tape
  output : w'.output = w.output
  size : w.heap.size ≤ w'.heap.size
  block : ∀ k, k < w.heap.size → k ≠ b → w'.heap[k]? = w.heap[k]?
theorem Upd.refl (b : Nat) (w : World) : Upd b w w := ⟨rfl, rfl, rfl, Nat.le_refl _, fun _ _ _ => rfl⟩
theorem Upd.trans {b : Nat} {w w1 w2 : World} (h : Upd b w w1) (k : Upd b w1 w2) : Upd b w w2 :=
  ⟨k.os.trans h.os, k.tape.trans h.tape, k.output.trans h.output, Nat.le_trans h.size k.size, fun i hi hb => (k.block i (Nat.lt_of_lt_of_le hi h.size) hb).trans (h.block i hi hb)⟩
theorem Upd.of_below {b : Nat} {w w' : World} (h : Below w.heap.size w w') : Upd b w w' := ⟨h.os, h.tape, h.output, h.size, fun k hk _ => h.block k hk⟩
theorem Upd.next {b : Nat} {w w1 w2 : World} (h : Upd b w w1) (k : Below w1.heap.size w1 w2) : Upd b w w2 := h.trans (.of_below k)
theorem Upd.set_ (b i : Nat) (w : World) (v : Value) : Upd b w (w.setCell ⟨b, i, none⟩ v) :=
  ⟨rfl, rfl, rfl, by simp [World.setCell], fun k _ hk => Below.heap_setCell _ _ _ _ hk⟩
theorem Upd.drew {b : Nat} {w w' : World} (h : Upd b w w') : Upd b w w'.drew := ⟨h.os, h.tape, h.output, h.size, h.block⟩
theorem Upd.undrew {b : Nat} {w w' : World} (h : Upd b w.drew w') : Upd b w w' := ⟨h.os, h.tape, h.output, h.size, h.block⟩
theorem Upd.alloc {b : Nat} {w w' : World} (h : Upd b w w') (o : Obj) : Upd b w (w'.alloc o) :=
  h.trans (.of_below ((Below.refl _ _).alloc (Nat.le_refl _) o))
theorem Upd.below {b B : Nat} {w w' : World} (h : Upd b w w') (hb : B ≤ b) (hB : B ≤ w.heap.size) : Below B w w' :=
  ⟨h.os, h.tape, h.output, h.size, fun k hk => h.block k (by omega) (by omega)⟩
theorem below_undrew {B : Nat} {w w' : World} (h : Below B w.drew w') : Below B w w' := ⟨h.os, h.tape, h.output, h.size, h.block⟩
theorem heap_lt {w : World} {g : Nat} {o : Obj} (h : w.heap[g]? = some o) : g < w.heap.size := by
  rcases Nat.lt_or_ge g w.heap.size with h' | h'
  · exact h'
  · rw [Array.getElem?_eq_none h'] at h; cases h

end Go.Proofs.YthilaolkkamedaaDoor
set_option linter.unusedVariables false
namespace Go.Proofs.YthilaolkkamedaaDoor
open Go.RowKit

/-- Reducibly applied, it succeeds only where the goal is one operation. -/
theorem gate {P : Program} {ops : Array Oper} {rest : List Oper} {o : Oper} {a : Act} {w : World} {Q : Exit → Act → World → Prop} (h : wpList P ops Q (o :: rest) a w) : wpList P ops Q (o :: rest) a w := h
theorem attSize : (Tryd.prog.info? 37).map (·.size) = some 4 := by kernel_rfl
theorem nodeSize : (Tryd.prog.info? 25).map (·.size) = some 7 := by kernel_rfl
theorem wp_load_att {ops : Array Oper} {rest : List Oper} {o : Oper} {a : Act} {w : World} {Q : Exit → Act → World → Prop} (hgd : o.guard = none) (x : Operand) (ho : o.op = .load 37 x)
    (b off : Nat) (hx : a.eval x = .pointer (some ⟨b, off, none⟩)) (t : Att) (hr : w.rangeAt b off (attCells t))
    (h : wpList Tryd.prog ops Q rest (a.put o.dst (.agg #[.string (S t.space), .string (S t.name), .string (S t.value), .int .i64 t.pos])) w) : wpList Tryd.prog ops Q (o :: rest) a w :=
  wpList_load_mid hgd 37 x ho b off hx (attCells t) _ hr Tryd.underlying37 rfl attSize h
theorem wp_load_node {ops : Array Oper} {rest : List Oper} {o : Oper} {a : Act} {w : World} {Q : Exit → Act → World → Prop} (hgd : o.guard = none) (x : Operand) (ho : o.op = .load 25 x)
    (b off : Nat) (hx : a.eval x = .pointer (some ⟨b, off, none⟩)) (cs : List Value) (hl : cs.length = 7) (hr : w.rangeAt b off cs)
    (h : wpList Tryd.prog ops Q rest (a.put o.dst (.agg cs.toArray)) w) : wpList Tryd.prog ops Q (o :: rest) a w :=
  wpList_load_mid hgd 25 x ho b off hx cs _ hr Tryd.underlying25 rfl (by rw [hl]; exact nodeSize) h


/-- In a statement whose order is open: loading a node. -/
theorem still_load_node {ops : Array Oper} {rest : List Oper} {o : Oper} {a : Act} {w : World} {Q : Act → Prop} (hgd : o.guard = none) (x : Operand) (ho : o.op = .load 25 x)
    (b off : Nat) (hx : a.eval x = .pointer (some ⟨b, off, none⟩)) (cs : List Value) (hl : cs.length = 7) (hr : w.rangeAt b off cs)
    (h : wpStill Tryd.prog ops w Q rest (a.put o.dst (.agg cs.toArray))) : wpStill Tryd.prog ops w Q (o :: rest) a := by
  refine wpStill_step fun K hK => ?_
  rw [if_pos (by simp [Region.wanted, hgd])]
  unfold Oper.still execOp
  simp only [ho, hx, Instr.loadAt, Instr.sureAddr, Sem.run_bind, Sem.run_pure, Result.andThen_ok, run_loadVar_mid w b off 25 cs _ hr Tryd.underlying25 rfl (by rw [hl]; exact nodeSize)]
  rw [Oper.stillUpon_value]
  exact hK _ h
/-- The box of a node that came in by value. -/
abbrev nodeBox (n : Node) (A : Option Addr) (c : Nat) (K : Option Addr) (d : Nat) : Obj :=
  .cells #[.int .i64 n.kind, .string (S n.space), .string (S n.name), .slice A n.attrs.length c, .slice K n.kids.length d, .string (S n.text), .int .i64 n.pos] 25
theorem box_cells {w : World} {b : Nat} {n : Node} {A : Option Addr} {c : Nat} {K : Option Addr} {d : Nat} (h : w.heap[b]? = some (nodeBox n A c K d)) :
    w.cell? ⟨b, 0, none⟩ = some (.int .i64 n.kind) ∧ w.cell? ⟨b, 1, none⟩ = some (.string (S n.space)) ∧ w.cell? ⟨b, 2, none⟩ = some (.string (S n.name)) ∧ w.cell? ⟨b, 3, none⟩ = some (.slice A n.attrs.length c) ∧
    w.cell? ⟨b, 4, none⟩ = some (.slice K n.kids.length d) ∧ w.cell? ⟨b, 5, none⟩ = some (.string (S n.text)) ∧ w.cell? ⟨b, 6, none⟩ = some (.int .i64 n.pos) := by
  refine ⟨?_, ?_, ?_, ?_, ?_, ?_, ?_⟩ <;> (rw [Lib.cell_of_heap h]; rfl)
end Go.Proofs.YthilaolkkamedaaDoor
set_option linter.unusedVariables false
namespace Go.Proofs.YthilaolkkamedaaDoor
open Go.RowKit

def AttsP (w : World) (p : Nat → Prop) (v : Value) (ats : List Att) : Prop :=
  ∃ A cap, v = .slice A ats.length cap ∧ ats.length ≤ cap ∧ (ats = [] ∨ ∃ b off, A = some ⟨b, off, none⟩ ∧ p b ∧ ∀ (i : Nat) a, ats[i]? = some a → w.rangeAt b (off + i * 4) (attCells a))
mutual
def NodeP (w : World) (p : Nat → Prop) : Node → List Value → Prop
  | .mk k s n ats ks t q, cs => ∃ va A cap, cs = [.int .i64 k, .string (S s), .string (S n), va, .slice A ks.length cap, .string (S t), .int .i64 q] ∧ AttsP w p va ats ∧ ks.length ≤ cap ∧
      (ks = [] ∨ ∃ b off, A = some ⟨b, off, none⟩ ∧ p b ∧ KidsP w p b off ks)
def KidsP (w : World) (p : Nat → Prop) (b : Nat) : Nat → List Node → Prop
  | _, [] => True
  | off, k :: ks => (∃ cs, NodeP w p k cs ∧ w.rangeAt b off cs) ∧ KidsP w p b (off + 7) ks
end
def NodesP (w : World) (p : Nat → Prop) (v : Value) (ks : List Node) : Prop :=
  ∃ A cap, v = .slice A ks.length cap ∧ ks.length ≤ cap ∧ (ks = [] ∨ ∃ b off, A = some ⟨b, off, none⟩ ∧ p b ∧ KidsP w p b off ks)
def NodePV (w : World) (p : Nat → Prop) (n : Node) (v : Value) : Prop := ∃ cs : List Value, v = .agg cs.toArray ∧ NodeP w p n cs

section
variable {w w' : World} {p p' : Nat → Prop} {B b off : Nat}
theorem AttsP.keep {v : Value} {ats : List Att} (h : AttsP w p v ats) (hb : ∀ k, p k → w'.heap[k]? = w.heap[k]?) (hp : ∀ k, p k → p' k) : AttsP w' p' v ats := by
  obtain ⟨A, cap, hv, hc, h⟩ := h
  refine ⟨A, cap, hv, hc, h.imp id ?_⟩
  rintro ⟨b, off, hA, hlt, hr⟩
  exact ⟨b, off, hA, hp b hlt, fun i a hi => rangeAt_keep (hr i a hi) (hb b hlt)⟩
mutual
theorem NodeP.keep (hb : ∀ k, p k → w'.heap[k]? = w.heap[k]?) (hp : ∀ k, p k → p' k) : ∀ (n : Node) (cs : List Value), NodeP w p n cs → NodeP w' p' n cs
  | .mk k s nm ats ks t q, cs, h => by
    rw [NodeP] at h ⊢
    obtain ⟨va, A, cap, hcs, ha, hc, h⟩ := h
    refine ⟨va, A, cap, hcs, ha.keep hb hp, hc, h.imp id ?_⟩
    rintro ⟨b, off, hA, hlt, hr⟩
    exact ⟨b, off, hA, hp b hlt, KidsP.keep hb hp hlt ks off hr⟩
theorem KidsP.keep (hb : ∀ k, p k → w'.heap[k]? = w.heap[k]?) (hp : ∀ k, p k → p' k) {b : Nat} (hlt : p b) : ∀ (ks : List Node) (off : Nat), KidsP w p b off ks → KidsP w' p' b off ks
  | [], _, _ => by rw [KidsP]; trivial
  | k :: ks, off, h => by
    rw [KidsP] at h ⊢
    obtain ⟨⟨cs, h1, h2⟩, h3⟩ := h
    exact ⟨⟨cs, NodeP.keep hb hp k cs h1, rangeAt_keep h2 (hb b hlt)⟩, KidsP.keep hb hp hlt ks (off + 7) h3⟩
end
theorem NodesP.keep {v : Value} {ks : List Node} (h : NodesP w p v ks) (hb : ∀ k, p k → w'.heap[k]? = w.heap[k]?) (hp : ∀ k, p k → p' k) : NodesP w' p' v ks := by
  obtain ⟨A, cap, hv, hc, h⟩ := h
  refine ⟨A, cap, hv, hc, h.imp id ?_⟩
  rintro ⟨b, off, hA, hlt, hr⟩
  exact ⟨b, off, hA, hp b hlt, KidsP.keep hb hp hlt ks off hr⟩
theorem NodePV.keep {n : Node} {v : Value} (h : NodePV w p n v) (hb : ∀ k, p k → w'.heap[k]? = w.heap[k]?) (hp : ∀ k, p k → p' k) : NodePV w' p' n v := by
  obtain ⟨cs, hv, hn⟩ := h
  exact ⟨cs, hv, NodeP.keep hb hp n cs hn⟩
theorem KidsP.at_ : ∀ {ks : List Node} {off : Nat}, KidsP w p b off ks → ∀ {i : Nat} {k : Node}, ks[i]? = some k → ∃ cs, NodeP w p k cs ∧ w.rangeAt b (off + i * 7) cs
  | [], off, _, i, k, hi => by simp at hi
  | x :: ks, off, h, i, k, hi => by
    rw [KidsP] at h
    cases i with
    | zero => simp at hi; subst hi; simpa using h.1
    | succ i =>
      obtain ⟨cs, h1, h2⟩ := KidsP.at_ h.2 (i := i) (by simpa using hi)
      exact ⟨cs, h1, by rw [show off + (i + 1) * 7 = off + 7 + i * 7 by omega]; exact h2⟩
theorem KidsP.of_at : ∀ {ks : List Node} {off : Nat}, (∀ (i : Nat) (k : Node), ks[i]? = some k → ∃ cs, NodeP w p k cs ∧ w.rangeAt b (off + i * 7) cs) → KidsP w p b off ks
  | [], off, _ => by rw [KidsP]; trivial
  | x :: ks, off, h => by
    rw [KidsP]
    refine ⟨by simpa using h 0 x rfl, KidsP.of_at fun i k hi => ?_⟩
    have := h (i + 1) k (by simpa using hi)
    rw [show off + (i + 1) * 7 = off + 7 + i * 7 by omega] at this
    exact this
theorem NodeP.form {n : Node} {cs : List Value} (h : NodeP w p n cs) : ∃ va vk, cs = [.int .i64 n.kind, .string (S n.space), .string (S n.name), va, vk, .string (S n.text), .int .i64 n.pos] ∧ AttsP w p va n.attrs ∧ NodesP w p vk n.kids := by
  cases n with
  | mk k s nm ats ks t q =>
    rw [NodeP] at h
    obtain ⟨va, A, cap, hcs, ha, hc, h⟩ := h
    exact ⟨va, _, hcs, ha, A, cap, rfl, hc, h⟩
theorem NodeP.of_form {n : Node} {va vk : Value} (ha : AttsP w p va n.attrs) (hk : NodesP w p vk n.kids) :
    NodeP w p n [.int .i64 n.kind, .string (S n.space), .string (S n.name), va, vk, .string (S n.text), .int .i64 n.pos] := by
  cases n with
  | mk k s nm ats ks t q =>
    rw [NodeP]
    obtain ⟨A, cap, hv, hc, h⟩ := hk
    exact ⟨va, A, cap, by rw [hv]; rfl, ha, hc, h⟩
theorem NodePV.of_form {n : Node} {va vk : Value} (ha : AttsP w p va n.attrs) (hk : NodesP w p vk n.kids) :
    NodePV w p n (.agg #[.int .i64 n.kind, .string (S n.space), .string (S n.name), va, vk, .string (S n.text), .int .i64 n.pos]) :=
  ⟨_, rfl, NodeP.of_form ha hk⟩
theorem AttsP.slice {v : Value} {ats : List Att} (h : AttsP w p v ats) : ∃ A cap, v = .slice A ats.length cap ∧ ats.length ≤ cap := by
  obtain ⟨A, cap, hv, hc, _⟩ := h; exact ⟨A, cap, hv, hc⟩
theorem NodesP.slice {v : Value} {ks : List Node} (h : NodesP w p v ks) : ∃ A cap, v = .slice A ks.length cap ∧ ks.length ≤ cap := by
  obtain ⟨A, cap, hv, hc, _⟩ := h; exact ⟨A, cap, hv, hc⟩
theorem NodeP.open_ {n : Node} {cs : List Value} (h : NodeP w p n cs) : ∃ A c K d, cs = [.int .i64 n.kind, .string (S n.space), .string (S n.name), .slice A n.attrs.length c, .slice K n.kids.length d, .string (S n.text), .int .i64 n.pos] ∧
    AttsP w p (.slice A n.attrs.length c) n.attrs ∧ NodesP w p (.slice K n.kids.length d) n.kids ∧ n.attrs.length ≤ c ∧ n.kids.length ≤ d := by
  obtain ⟨va, vk, hcs, ha, hk⟩ := h.form
  obtain ⟨A, c, rfl, hc⟩ := ha.slice
  obtain ⟨K, d, rfl, hd⟩ := hk.slice
  exact ⟨A, c, K, d, hcs, ha, hk, hc, hd⟩
theorem NodePV.open_ {n : Node} {v : Value} (h : NodePV w p n v) : ∃ A c K d, v = .agg #[.int .i64 n.kind, .string (S n.space), .string (S n.name), .slice A n.attrs.length c, .slice K n.kids.length d, .string (S n.text), .int .i64 n.pos] ∧
    AttsP w p (.slice A n.attrs.length c) n.attrs ∧ NodesP w p (.slice K n.kids.length d) n.kids ∧ n.attrs.length ≤ c ∧ n.kids.length ≤ d := by
  obtain ⟨cs, hv, hn⟩ := h
  obtain ⟨A, c, K, d, hcs, h⟩ := hn.open_
  exact ⟨A, c, K, d, by rw [hv, hcs], h⟩
theorem NodesP.at_ {ks : List Node} {A : Option Addr} {n cap i : Nat} (h : NodesP w p (.slice A n cap) ks) (hi : i < ks.length) :
    ∃ b off cs, A = some ⟨b, off, none⟩ ∧ p b ∧ w.rangeAt b (off + i * 7) cs ∧ NodeP w p ks[i] cs := by
  obtain ⟨A', cap', hv, _, h⟩ := h
  cases hv
  rcases h with h | ⟨b, off, hA, hlt, hr⟩
  · subst h; simp at hi
  · obtain ⟨cs, h1, h2⟩ := hr.at_ (List.getElem?_eq_getElem hi)
    exact ⟨b, off, cs, hA, hlt, h2, h1⟩
theorem AttsP.at_ {ats : List Att} {A : Option Addr} {n cap i : Nat} (h : AttsP w p (.slice A n cap) ats) (hi : i < ats.length) :
    ∃ b off, A = some ⟨b, off, none⟩ ∧ p b ∧ w.rangeAt b (off + i * 4) (attCells ats[i]) := by
  obtain ⟨A', cap', hv, _, h⟩ := h
  cases hv
  rcases h with h | ⟨b, off, hA, hlt, hr⟩
  · subst h; simp at hi
  · exact ⟨b, off, hA, hlt, hr i _ (List.getElem?_eq_getElem hi)⟩

/-! The two ways to tell where a tree lies. -/
theorem AttsP.toIn {v : Value} {ats : List Att} (h : AttsP w p v ats) (hp : ∀ k, p k → k < B) : AttsIn w B v ats := by
  obtain ⟨A, cap, hv, hc, h⟩ := h
  exact ⟨A, cap, hv, hc, h.imp id fun ⟨b, off, hA, hlt, hr⟩ => ⟨b, off, hA, hp b hlt, hr⟩⟩
theorem AttsIn.toP {v : Value} {ats : List Att} (h : AttsIn w B v ats) : AttsP w (· < B) v ats := h
mutual
theorem NodeP.toIn (hp : ∀ k, p k → k < B) : ∀ (n : Node) (cs : List Value), NodeP w p n cs → NodeIn w B n cs
  | .mk k s nm ats ks t q, cs, h => by
    rw [NodeP] at h
    rw [NodeIn]
    obtain ⟨va, A, cap, hcs, ha, hc, h⟩ := h
    refine ⟨va, A, cap, hcs, ha.toIn hp, hc, h.imp id ?_⟩
    rintro ⟨b, off, hA, hlt, hr⟩
    exact ⟨b, off, hA, hp b hlt, KidsP.toIn hp ks off hr⟩
theorem KidsP.toIn (hp : ∀ k, p k → k < B) {b : Nat} : ∀ (ks : List Node) (off : Nat), KidsP w p b off ks → KidsIn w B b off ks
  | [], _, _ => by rw [KidsIn]; trivial
  | k :: ks, off, h => by
    rw [KidsP] at h
    rw [KidsIn]
    obtain ⟨⟨cs, h1, h2⟩, h3⟩ := h
    exact ⟨⟨cs, NodeP.toIn hp k cs h1, h2⟩, KidsP.toIn hp ks (off + 7) h3⟩
end
mutual
theorem NodeIn.toP : ∀ (n : Node) (cs : List Value), NodeIn w B n cs → NodeP w (· < B) n cs
  | .mk k s nm ats ks t q, cs, h => by
    rw [NodeIn] at h
    rw [NodeP]
    obtain ⟨va, A, cap, hcs, ha, hc, h⟩ := h
    refine ⟨va, A, cap, hcs, ha, hc, h.imp id ?_⟩
    rintro ⟨b, off, hA, hlt, hr⟩
    exact ⟨b, off, hA, hlt, KidsIn.toP ks off hr⟩
theorem KidsIn.toP {b : Nat} : ∀ (ks : List Node) (off : Nat), KidsIn w B b off ks → KidsP w (· < B) b off ks
  | [], _, _ => by rw [KidsP]; trivial
  | k :: ks, off, h => by
    rw [KidsIn] at h
    rw [KidsP]
    obtain ⟨⟨cs, h1, h2⟩, h3⟩ := h
    exact ⟨⟨cs, NodeIn.toP k cs h1, h2⟩, KidsIn.toP ks (off + 7) h3⟩
end
theorem NodesP.toIn {v : Value} {ks : List Node} (h : NodesP w p v ks) (hp : ∀ k, p k → k < B) : NodesIn w B v ks := by
  obtain ⟨A, cap, hv, hc, h⟩ := h
  exact ⟨A, cap, hv, hc, h.imp id fun ⟨b, off, hA, hlt, hr⟩ => ⟨b, off, hA, hp b hlt, KidsP.toIn hp _ _ hr⟩⟩
theorem NodesIn.toP {v : Value} {ks : List Node} (h : NodesIn w B v ks) : NodesP w (· < B) v ks := by
  obtain ⟨A, cap, hv, hc, h⟩ := h
  exact ⟨A, cap, hv, hc, h.imp id fun ⟨b, off, hA, hlt, hr⟩ => ⟨b, off, hA, hlt, KidsIn.toP _ _ hr⟩⟩
theorem NodePV.toV {n : Node} {v : Value} (h : NodePV w p n v) (hp : ∀ k, p k → k < B) : NodeV w B n v := by
  obtain ⟨cs, hv, hn⟩ := h
  exact ⟨cs, hv, NodeP.toIn hp n cs hn⟩
theorem NodeV.toP {n : Node} {v : Value} (h : NodeV w B n v) : NodePV w (· < B) n v := by
  obtain ⟨cs, hv, hn⟩ := h
  exact ⟨cs, hv, NodeIn.toP n cs hn⟩
end
end Go.Proofs.YthilaolkkamedaaDoor
set_option linter.unusedVariables false
namespace Go.Proofs.YthilaolkkamedaaDoor
open Go.RowKit

theorem infoNode : (Tryd.prog.info? 25).map (fun i => (i.zero, i.size, i.bytes)) = some (some (.agg #[.int .i64 0, .string ByteArray.empty, .string ByteArray.empty, .slice none 0 0, .slice none 0 0, .string ByteArray.empty, .int .i64 0]), 7, 112) := by kernel_rfl
theorem infoAtt : (Tryd.prog.info? 37).map (fun i => (i.zero, i.size, i.bytes)) = some (some (.agg #[.string ByteArray.empty, .string ByteArray.empty, .string ByteArray.empty, .int .i64 0]), 4, 56) := by kernel_rfl

theorem flat_at {c : Nat} : ∀ {css : List (List Value)}, (∀ cs ∈ css, cs.length = c) → ∀ {i j : Nat} {cs : List Value}, css[i]? = some cs → j < c → css.flatten[i * c + j]? = cs[j]?
  | [], _, i, j, cs, hi, _ => by simp at hi
  | x :: css, h, 0, j, cs, hi, hj => by
    simp only [List.getElem?_cons_zero, Option.some.injEq] at hi
    subst hi
    rw [List.flatten_cons, List.getElem?_append_left (by rw [h x (by simp)]; omega), Nat.zero_mul, Nat.zero_add]
  | x :: css, h, i + 1, j, cs, hi, hj => by
    have hx := h x (by simp)
    rw [List.flatten_cons, List.getElem?_append_right (by rw [hx, Nat.succ_mul]; omega), hx, show (i + 1) * c + j - c = i * c + j by rw [Nat.succ_mul]; omega]
    exact flat_at (fun y hy => h y (by simp [hy])) (by simpa using hi) hj
theorem flat_len {c : Nat} : ∀ {css : List (List Value)}, (∀ cs ∈ css, cs.length = c) → css.flatten.length = css.length * c
  | [], _ => by simp
  | x :: css, h => by
    rw [List.flatten_cons, List.length_append, flat_len (fun y hy => h y (by simp [hy])), h x (by simp), List.length_cons, Nat.succ_mul]; omega
theorem add_zero_block (g j : Nat) : (⟨g, 0, none⟩ : Addr).add j = ⟨g, j, none⟩ := by unfold Addr.add; split <;> simp_all

/-- A slice of attributes that the call has built itself, in a block of its own from 'base' on. -/
def AttRow (w : World) (base : Nat) (v : Value) (ats : List Att) : Prop := w.ownsRow base 37 4 v ats.length (ats.map attCells).flatten
/-- A slice of nodes that the call has built itself; what they hold lies in blocks that satisfy p. -/
def NodeRow (w : World) (base : Nat) (p : Nat → Prop) (v : Value) (ks : List Node) : Prop :=
  ∃ css : List (List Value), css.length = ks.length ∧ (∀ (i : Nat) k cs, ks[i]? = some k → css[i]? = some cs → NodeP w p k cs) ∧ w.ownsRow base 25 7 v ks.length css.flatten

section
variable {w w' : World} {base B : Nat} {p : Nat → Prop} {v : Value}
theorem attCells_len (a : Att) : (attCells a).length = 4 := rfl
theorem NodeP.len {n : Node} {cs : List Value} (h : NodeP w p n cs) : cs.length = 7 := by
  obtain ⟨va, vk, hcs, _⟩ := h.form; rw [hcs]; rfl
theorem NodeP.one {n : Node} {cs : List Value} (h : NodeP w p n cs) : ∀ u ∈ cs, u.oneCell' = true := by
  obtain ⟨va, vk, hcs, ⟨A, c, ha, _⟩, ⟨K, d, hk, _⟩⟩ := h.form
  subst hcs ha hk
  simp [Value.oneCell']
theorem AttRow.nil (w : World) (base : Nat) : AttRow w base (.slice none 0 0) [] := World.ownsRow_nil w base _ _
theorem NodeRow.nil (w : World) (base : Nat) (p : Nat → Prop) : NodeRow w base p (.slice none 0 0) [] := ⟨[], rfl, by simp, World.ownsRow_nil w base _ _⟩
theorem ownsRow_below {e : TypeId} {size n : Nat} {xs : List Value} (h : w.ownsRow base e size v n xs) (hb : Below w.heap.size w w') : w'.ownsRow base e size v n xs := by
  obtain ⟨h1, h2⟩ := h
  refine ⟨h1, ?_⟩
  rcases h2 with h2 | ⟨g, cap, cur, hv, hg, hh, r⟩
  · exact .inl h2
  · exact .inr ⟨g, cap, cur, hv, hg, (hb.block g (heap_lt hh)).trans hh, r⟩
theorem ownsRow_heap {e : TypeId} {size n : Nat} {xs : List Value} (h : w.ownsRow base e size v n xs) (hb : ∀ k, v.ownBlock = some k → w'.heap[k]? = w.heap[k]?) : w'.ownsRow base e size v n xs := by
  obtain ⟨h1, h2⟩ := h
  refine ⟨h1, ?_⟩
  rcases h2 with h2 | ⟨g, cap, cur, hv, hg, hh, r⟩
  · exact .inl h2
  · exact .inr ⟨g, cap, cur, hv, hg, (hb g (by rw [hv]; rfl)).trans hh, r⟩
theorem ownsRow_base {e : TypeId} {size n : Nat} {xs : List Value} {base' : Nat} (h : w.ownsRow base e size v n xs) (hb : base' ≤ base) : w.ownsRow base' e size v n xs :=
  ⟨h.1, h.2.imp id fun ⟨g, cap, cur, hv, hg, r⟩ => ⟨g, cap, cur, hv, by omega, r⟩⟩
theorem AttRow.below {ats : List Att} (h : AttRow w base v ats) (hb : Below w.heap.size w w') : AttRow w' base v ats := ownsRow_below h hb
theorem NodeRow.below {ks : List Node} (h : NodeRow w base p v ks) (hb : Below w.heap.size w w') (hp : ∀ k, p k → k < w.heap.size) : NodeRow w' base p v ks := by
  obtain ⟨css, h1, h2, h3⟩ := h
  exact ⟨css, h1, fun i k cs hk hc => NodeP.keep (fun j hj => hb.block j (hp j hj)) (fun _ h => h) k cs (h2 i k cs hk hc), ownsRow_below h3 hb⟩
theorem NodeRow.heap {ks : List Node} (h : NodeRow w base p v ks) (hb : ∀ k, v.ownBlock = some k → w'.heap[k]? = w.heap[k]?) (hp : ∀ k, p k → w'.heap[k]? = w.heap[k]?) : NodeRow w' base p v ks := by
  obtain ⟨css, h1, h2, h3⟩ := h
  exact ⟨css, h1, fun i k cs hk hc => NodeP.keep hp (fun _ h => h) k cs (h2 i k cs hk hc), ownsRow_heap h3 hb⟩
theorem NodeRow.more {p' : Nat → Prop} {ks : List Node} (h : NodeRow w base p v ks) (hp : ∀ k, p k → p' k) : NodeRow w base p' v ks := by
  obtain ⟨css, h1, h2, h3⟩ := h
  exact ⟨css, h1, fun i k cs hk hc => NodeP.keep (fun _ _ => rfl) hp k cs (h2 i k cs hk hc), h3⟩
theorem row_lt {e : TypeId} {size n : Nat} {xs : List Value} (h : w.ownsRow base e size v n xs) : ∀ k, v.ownBlock = some k → base ≤ k ∧ k < w.heap.size := h.lt
theorem NodeRow.lt {ks : List Node} (h : NodeRow w base p v ks) : ∀ k, v.ownBlock = some k → base ≤ k ∧ k < w.heap.size := by
  obtain ⟨css, _, _, h3⟩ := h; exact h3.lt
theorem AttRow.lt {ats : List Att} (h : AttRow w base v ats) : ∀ k, v.ownBlock = some k → base ≤ k ∧ k < w.heap.size := World.ownsRow.lt h
theorem AttRow.slice {ats : List Att} (h : AttRow w base v ats) : ∃ A cap, v = .slice A ats.length cap ∧ ats.length ≤ cap := by
  rcases h.2 with ⟨hv, hn⟩ | ⟨g, cap, cur, hv, _, _, hc, _⟩
  · exact ⟨none, 0, by rw [hv, hn], by omega⟩
  · exact ⟨_, cap, hv, hc⟩
theorem NodeRow.slice {ks : List Node} (h : NodeRow w base p v ks) : ∃ A cap, v = .slice A ks.length cap ∧ ks.length ≤ cap := by
  obtain ⟨css, _, _, h⟩ := h
  rcases h.2 with ⟨hv, hn⟩ | ⟨g, cap, cur, hv, _, _, hc, _⟩
  · exact ⟨none, 0, by rw [hv, hn], by omega⟩
  · exact ⟨_, cap, hv, hc⟩
/-- What it reads as. -/
theorem AttRow.attsIn {ats : List Att} (h : AttRow w base v ats) : AttsIn w w.heap.size v ats := by
  rcases h.2 with ⟨hv, hn⟩ | ⟨g, cap, cur, hv, hg, hh, hc, _⟩
  · have : ats = [] := List.eq_nil_of_length_eq_zero hn
    subst this
    exact ⟨none, 0, hv, by simp, .inl rfl⟩
  · refine ⟨_, cap, hv, hc, .inr ⟨g, 0, rfl, heap_lt hh, fun i a hi j u hu => ?_⟩⟩
    have hj : j < 4 := by have := (List.getElem?_eq_some_iff.1 hu).1; rw [attCells_len] at this; exact this
    have hx := flat_at (c := 4) (css := ats.map attCells) (by simp [attCells_len]) (i := i) (j := j) (cs := attCells a) (by simp [hi]) hj
    have := h.cells (g := g) (by rw [hv]; rfl) (i * 4 + j) u (by rw [hx]; exact hu)
    rw [add_zero_block] at this
    rw [show 0 + i * 4 + j = i * 4 + j by omega]
    exact this
theorem NodeRow.nodesP {p' : Nat → Prop} {ks : List Node} (h : NodeRow w base p v ks) (hp : ∀ k, p k → p' k) (hr : ∀ k, v.ownBlock = some k → p' k) : NodesP w p' v ks := by
  obtain ⟨css, hl, hin, h⟩ := h
  rcases h.2 with ⟨hv, hn⟩ | ⟨g, cap, cur, hv, hg, hh, hc, _⟩
  · have : ks = [] := List.eq_nil_of_length_eq_zero hn
    subst this
    exact ⟨none, 0, hv, by simp, .inl rfl⟩
  · have hlen : ∀ cs ∈ css, cs.length = 7 := fun cs hcs => by
      obtain ⟨i, hi⟩ := List.getElem?_of_mem hcs
      have hik : i < ks.length := by rw [← hl]; exact (List.getElem?_eq_some_iff.1 hi).1
      exact (hin i _ cs (List.getElem?_eq_getElem hik) hi).len
    refine ⟨_, cap, hv, hc, .inr ⟨g, 0, rfl, hr g (by rw [hv]; rfl), KidsP.of_at fun i k hi => ?_⟩⟩
    have hik : i < css.length := by rw [hl]; exact (List.getElem?_eq_some_iff.1 hi).1
    refine ⟨css[i], NodeP.keep (fun _ _ => rfl) hp k _ (hin i k _ hi (List.getElem?_eq_getElem hik)), fun j u hu => ?_⟩
    have hj : j < 7 := by have := (List.getElem?_eq_some_iff.1 hu).1; rw [hlen _ (List.getElem_mem hik)] at this; exact this
    have hx := flat_at (c := 7) (css := css) hlen (i := i) (j := j) (List.getElem?_eq_getElem hik) hj
    have := h.cells (g := g) (by rw [hv]; rfl) (i * 7 + j) u (by rw [hx]; exact hu)
    rw [add_zero_block] at this
    rw [show 0 + i * 7 + j = i * 7 + j by omega]
    exact this
theorem NodeRow.nodesIn {ks : List Node} (h : NodeRow w base p v ks) (hp : ∀ k, p k → k < w.heap.size) : NodesIn w w.heap.size v ks :=
  (h.nodesP (p' := (· < w.heap.size)) hp (fun k hk => (h.lt k hk).2)).toIn (fun _ h => h)
end

/-! Appending one element, which lies in a block of its own. -/
theorem row_grown {w w' : World} {base : Nat} {v : Value} (hg : w.grownBy w' v.ownBlock) (hb : base ≤ w.heap.size) (hl : ∀ k, v.ownBlock = some k → base ≤ k ∧ k < w.heap.size) : Below base w w' :=
  ⟨hg.os, hg.tape, hg.output, hg.size, fun k hk => hg.block k (by omega) (fun e => by have := (hl k e.symm).1; omega)⟩
/-- What an append leaves. -/
structure Grew (w : World) (v v' : Value) (w' : World) : Prop where
  grown : w.grownBy w' v.ownBlock
  lt : w.heap.size ≤ w'.heap.size
theorem Grew.heap {w w' : World} {v v' : Value} (h : Grew w v v' w') {k : Nat} {o : Obj} (hk : w.heap[k]? = some o) (hne : v.ownBlock ≠ some k) : w'.heap[k]? = some o :=
  (h.grown.block k (heap_lt hk) (fun e => hne e.symm)).trans hk
theorem nodes_append_all {P' : (Value → World → Prop) → Prop} (w : World) (base : Nat) (p : Nat → Prop) (v : Value) (ks : List Node) (h : NodeRow w base p v ks) (k : Node) (cs : List Value) (hk : NodeP w p k cs) (hB : ∀ j, p j → j < base) (hbase : base ≤ w.heap.size) (hlen : ks.length < 1000000000000)
    (raw : ∀ (css : List (List Value)), css.length = ks.length → w.ownsRow base 25 7 v ks.length css.flatten → P' (fun v' w' => w'.ownsRow base 25 7 v' (ks.length + 1) (css.flatten ++ cs) ∧ (w.alloc (.cells cs.toArray 25)).grownBy w' v.ownBlock))
    (mono : ∀ {p q : Value → World → Prop}, (∀ v' w', p v' w' → q v' w') → P' p → P' q) : P' (fun v' w' => NodeRow w' base p v' (ks ++ [k]) ∧ Grew w v v' w' ∧ Below base w w') := by
  obtain ⟨css, hl, hin, hown⟩ := h
  refine mono ?_ (raw css hl hown)
  rintro v' w' ⟨h1, h2⟩
  have hlt := hown.lt
  have hbelow : Below base w w' := ((Below.refl _ _).alloc hbase _).trans (row_grown h2 (by simp; omega) (fun k hk => by have := hlt k hk; simp; omega))
  refine ⟨⟨css ++ [cs], by simp [hl], ?_, ?_⟩, ⟨⟨h2.os, h2.tape, h2.output, by have := h2.size; simp at this; omega, fun j hj hne => (h2.block j (by simp; omega) hne).trans (Below.heap_alloc w _ j hj)⟩, by have := h2.size; simp at this; omega⟩, hbelow⟩
  · intro i k' cs' hk' hcs'
    have hkeep : ∀ (n : Node) c, NodeP w p n c → NodeP w' p n c := fun n c hn => NodeP.keep (fun j hj => hbelow.block j (hB j hj)) (fun _ h => h) n c hn
    by_cases hi : i < ks.length
    · rw [List.getElem?_append_left hi] at hk'
      rw [List.getElem?_append_left (by omega)] at hcs'
      exact hkeep _ _ (hin i k' cs' hk' hcs')
    · have hi2 : i = ks.length := by
        have := (List.getElem?_eq_some_iff.1 hk').1
        simp at this; omega
      subst hi2
      rw [List.getElem?_append_right (Nat.le_refl _)] at hk'
      rw [List.getElem?_append_right (by omega), hl] at hcs'
      simp at hk' hcs'
      subst hk' hcs'
      exact hkeep _ _ hk
  · rw [List.flatten_append, List.length_append]
    simpa using h1
theorem nodes_append {ops : Array Oper} {rest : List Oper} {o : Oper} {a : Act} {Q : Exit → Act → World → Prop} (hgd : o.guard = none) (s x : Operand)
    (ho : o.op = .call { callee := .builtin .append, args := #[s, x], argTypes := #[23, 23] })
    (w : World) (base : Nat) (p : Nat → Prop) (v : Value) (ks : List Node) (hs : a.eval s = v) (h : NodeRow w base p v ks) (k : Node) (cs : List Value) (H : Nat) (hH : w.heap.size = H) (hx : a.eval x = .slice (some ⟨H, 0, none⟩) 1 1) (hk : NodeP w p k cs) (hB : ∀ j, p j → j < base) (hbase : base ≤ w.heap.size) (hlen : ks.length < 1000000000000)
    (hK : ∀ g cap w', NodeRow w' base p (.slice (some ⟨g, 0, none⟩) (ks.length + 1) cap) (ks ++ [k]) → Grew w v (.slice (some ⟨g, 0, none⟩) (ks.length + 1) cap) w' → Below base w w' → wpList Tryd.prog ops Q rest (a.put o.dst (.slice (some ⟨g, 0, none⟩) (ks.length + 1) cap)) w') :
    wpList Tryd.prog ops Q (o :: rest) a (w.alloc (.cells cs.toArray 25)) := by
  subst hH
  obtain ⟨i0, hi0, hz0, hz1, hz2⟩ := info_parts infoNode
  refine nodes_append_all (P' := fun p => (∀ g cap w', p (.slice (some ⟨g, 0, none⟩) (ks.length + 1) cap) w' → wpList Tryd.prog ops Q rest (a.put o.dst (.slice (some ⟨g, 0, none⟩) (ks.length + 1) cap)) w') → wpList Tryd.prog ops Q (o :: rest) a (w.alloc (.cells cs.toArray 25))) w base p v ks h k cs hk hB hbase hlen ?_ (fun hpq hp H => hp fun g cap w' h' => H g cap w' (hpq _ _ h')) (fun g cap w' h' => hK g cap w' h'.1 h'.2.1 h'.2.2)
  intro css hl hown H
  refine wpList_append_lies _ hgd s x 23 ho base 25 i0 _ 7 112 Tryd.underlying23 hi0 hz0 hz1 hz2 rfl (by omega) v ks.length css.flatten hs (ownsRow_below hown ((Below.refl _ _).alloc (Nat.le_refl _) _)) ⟨w.heap.size, 0, none⟩ 1 1 cs hx (by rw [hk.len]) ?_ hk.one (by omega) (by unfold maxLen; omega) (by omega) (by simp; omega) _ rfl ?_
  · intro j u hu
    exact World.news_of_block (heap_alloc_new w (.cells cs.toArray 25)) j u (by simpa using hu)
  · intro g cap w1 hown1 hgrow hat hlt
    exact H g cap w1 ⟨hown1, hgrow⟩
theorem nodes_append_step {ops : Array Oper} {o : Oper} {a : Act} {K : Act → World → Prop} {Q : Exit → Act → World → Prop} {E : Prop} (hgd : o.guard = none) (s x : Operand)
    (ho : o.op = .call { callee := .builtin .append, args := #[s, x], argTypes := #[23, 23] })
    (w : World) (base : Nat) (p : Nat → Prop) (v : Value) (ks : List Node) (hs : a.eval s = v) (h : NodeRow w base p v ks) (k : Node) (cs : List Value) (H : Nat) (hH : w.heap.size = H) (hx : a.eval x = .slice (some ⟨H, 0, none⟩) 1 1) (hk : NodeP w p k cs) (hB : ∀ j, p j → j < base) (hbase : base ≤ w.heap.size) (hlen : ks.length < 1000000000000)
    (hK : ∀ g cap w', NodeRow w' base p (.slice (some ⟨g, 0, none⟩) (ks.length + 1) cap) (ks ++ [k]) → Grew w v (.slice (some ⟨g, 0, none⟩) (ks.length + 1) cap) w' → Below base w w' → K (a.put o.dst (.slice (some ⟨g, 0, none⟩) (ks.length + 1) cap)) w') :
    if Region.wanted o (yielded ops a.tmps) = true then Oper.wp Tryd.prog o a ((w.alloc (.cells cs.toArray 25))) K Q else E := by
  subst hH
  obtain ⟨i0, hi0, hz0, hz1, hz2⟩ := info_parts infoNode
  refine nodes_append_all (P' := fun p => (∀ g cap w', p (.slice (some ⟨g, 0, none⟩) (ks.length + 1) cap) w' → K (a.put o.dst (.slice (some ⟨g, 0, none⟩) (ks.length + 1) cap)) w') → (if Region.wanted o (yielded ops a.tmps) = true then Oper.wp Tryd.prog o a (w.alloc (.cells cs.toArray 25)) K Q else E)) w base p v ks h k cs hk hB hbase hlen ?_ (fun hpq hp H => hp fun g cap w' h' => H g cap w' (hpq _ _ h')) (fun g cap w' h' => hK g cap w' h'.1 h'.2.1 h'.2.2)
  intro css hl hown H
  refine step_append_lies _ hgd s x 23 ho base 25 i0 _ 7 112 Tryd.underlying23 hi0 hz0 hz1 hz2 rfl (by omega) v ks.length css.flatten hs (ownsRow_below hown ((Below.refl _ _).alloc (Nat.le_refl _) _)) ⟨w.heap.size, 0, none⟩ 1 1 cs hx (by rw [hk.len]) ?_ hk.one (by omega) (by unfold maxLen; omega) (by omega) (by simp; omega) _ rfl ?_
  · intro j u hu
    exact World.news_of_block (heap_alloc_new w (.cells cs.toArray 25)) j u (by simpa using hu)
  · intro g cap w1 hown1 hgrow hat hlt
    exact H g cap w1 ⟨hown1, hgrow⟩
theorem atts_append_all {w w' : World} {base : Nat} {v v' : Value} {ats : List Att} (h : AttRow w base v ats) (b : Att) (hbase : base ≤ w.heap.size)
    (h1 : w'.ownsRow base 37 4 v' (ats.length + 1) ((ats.map attCells).flatten ++ attCells b)) (h2 : (w.alloc (.cells (attCells b).toArray 37)).grownBy w' v.ownBlock) : AttRow w' base v' (ats ++ [b]) ∧ Grew w v v' w' ∧ Below base w w' := by
  have hlt := h.lt
  have hbelow : Below base w w' := ((Below.refl _ _).alloc hbase _).trans (row_grown h2 (by simp; omega) (fun k hk => by have := hlt k hk; simp; omega))
  refine ⟨?_, ⟨⟨h2.os, h2.tape, h2.output, by have := h2.size; simp at this; omega, fun j hj hne => (h2.block j (by simp; omega) hne).trans (Below.heap_alloc w _ j hj)⟩, by have := h2.size; simp at this; omega⟩, hbelow⟩
  unfold AttRow
  rw [List.map_append, List.flatten_append, List.length_append]
  simpa using h1
theorem atts_append {ops : Array Oper} {rest : List Oper} {o : Oper} {a : Act} {Q : Exit → Act → World → Prop} (hgd : o.guard = none) (s x : Operand)
    (ho : o.op = .call { callee := .builtin .append, args := #[s, x], argTypes := #[22, 22] })
    (w : World) (base : Nat) (v : Value) (ats : List Att) (hs : a.eval s = v) (h : AttRow w base v ats) (b : Att) (H : Nat) (hH : w.heap.size = H) (hx : a.eval x = .slice (some ⟨H, 0, none⟩) 1 1) (hbase : base ≤ w.heap.size) (hlen : ats.length < 1000000000000)
    (hK : ∀ g cap w', AttRow w' base (.slice (some ⟨g, 0, none⟩) (ats.length + 1) cap) (ats ++ [b]) → Grew w v (.slice (some ⟨g, 0, none⟩) (ats.length + 1) cap) w' → Below base w w' → wpList Tryd.prog ops Q rest (a.put o.dst (.slice (some ⟨g, 0, none⟩) (ats.length + 1) cap)) w') :
    wpList Tryd.prog ops Q (o :: rest) a (w.alloc (.cells #[.string (S b.space), .string (S b.name), .string (S b.value), .int .i64 b.pos] 37)) := by
  subst hH
  obtain ⟨i0, hi0, hz0, hz1, hz2⟩ := info_parts infoAtt
  refine wpList_append_lies _ hgd s x 22 ho base 37 i0 _ 4 56 Tryd.underlying22 hi0 hz0 hz1 hz2 rfl (by omega) v ats.length _ hs (ownsRow_below h ((Below.refl _ _).alloc (Nat.le_refl _) _)) ⟨w.heap.size, 0, none⟩ 1 1 (attCells b) hx rfl ?_ (by simp [attCells, Value.oneCell']) (by omega) (by unfold maxLen; omega) (by omega) (by simp; omega) _ rfl ?_
  · intro j u hu
    exact World.news_of_block (heap_alloc_new w (.cells (attCells b).toArray 37)) j u (by simpa using hu)
  · intro g cap w1 hown1 hgrow hat hlt
    obtain ⟨r1, r2, r3⟩ := atts_append_all h b hbase hown1 hgrow
    exact hK g cap w1 r1 r2 r3
theorem atts_append_step {ops : Array Oper} {o : Oper} {a : Act} {K : Act → World → Prop} {Q : Exit → Act → World → Prop} {E : Prop} (hgd : o.guard = none) (s x : Operand)
    (ho : o.op = .call { callee := .builtin .append, args := #[s, x], argTypes := #[22, 22] })
    (w : World) (base : Nat) (v : Value) (ats : List Att) (hs : a.eval s = v) (h : AttRow w base v ats) (b : Att) (H : Nat) (hH : w.heap.size = H) (hx : a.eval x = .slice (some ⟨H, 0, none⟩) 1 1) (hbase : base ≤ w.heap.size) (hlen : ats.length < 1000000000000)
    (hK : ∀ g cap w', AttRow w' base (.slice (some ⟨g, 0, none⟩) (ats.length + 1) cap) (ats ++ [b]) → Grew w v (.slice (some ⟨g, 0, none⟩) (ats.length + 1) cap) w' → Below base w w' → K (a.put o.dst (.slice (some ⟨g, 0, none⟩) (ats.length + 1) cap)) w') :
    if Region.wanted o (yielded ops a.tmps) = true then Oper.wp Tryd.prog o a (w.alloc (.cells #[.string (S b.space), .string (S b.name), .string (S b.value), .int .i64 b.pos] 37)) K Q else E := by
  subst hH
  obtain ⟨i0, hi0, hz0, hz1, hz2⟩ := info_parts infoAtt
  refine step_append_lies _ hgd s x 22 ho base 37 i0 _ 4 56 Tryd.underlying22 hi0 hz0 hz1 hz2 rfl (by omega) v ats.length _ hs (ownsRow_below h ((Below.refl _ _).alloc (Nat.le_refl _) _)) ⟨w.heap.size, 0, none⟩ 1 1 (attCells b) hx rfl ?_ (by simp [attCells, Value.oneCell']) (by omega) (by unfold maxLen; omega) (by omega) (by simp; omega) _ rfl ?_
  · intro j u hu
    exact World.news_of_block (heap_alloc_new w (.cells (attCells b).toArray 37)) j u (by simpa using hu)
  · intro g cap w1 hown1 hgrow hat hlt
    obtain ⟨r1, r2, r3⟩ := atts_append_all h b hbase hown1 hgrow
    exact hK g cap w1 r1 r2 r3

/-! A struct stored whole into a block, and a result that lies in a block. -/
theorem run_store_whole {P : Program} (w : World) (g : Nat) (ty t : TypeId) (cur cells : Array Value) (hg : w.heap[g]? = some (.cells cur t (0, 0))) (hs : cur.size = cells.size) (hi : (P.info? ty).map (·.size) = some cells.size) (h1 : cells.all (·.oneCell') = true) :
    (storeVar ty ⟨g, 0, none⟩ (.agg cells)).run P w = .ok () (w.setRow g cells) := by
  have := run_storeCells_at P g 0 t cells.toList 0 cur w hg (by simp; omega) (fun v hv => (Array.all_eq_true_iff_forall_mem.1 h1) v (by simpa using hv))
  cases hq : P.info? ty with
  | none => simp [hq] at hi
  | some i =>
    have hs' : cells.size = i.size := by simp [hq] at hi; omega
    have he : (cur.toList.take (0 + 0) ++ cells.toList ++ cur.toList.drop (0 + 0 + cells.toList.length)).toArray = cells := by
      rw [List.drop_eq_nil_of_le (by simp; omega)]; simp
    rw [he] at this
    simp [storeVar, sizeOf, typeInfo, hq, Value.cells, hs', this]
theorem range_of_heap {w : World} {b : Nat} {cs : List Value} {t : TypeId} {fr : Nat × Nat} (h : w.heap[b]? = some (.cells cs.toArray t fr)) : w.rangeAt b 0 cs := fun j v hv => by
  rw [Nat.zero_add, Lib.cell_of_heap h]; simpa using hv
theorem cells7 {w : World} {b : Nat} {c0 c1 c2 c3 c4 c5 c6 : Value} {t : TypeId} {fr : Nat × Nat} (h : w.heap[b]? = some (.cells #[c0, c1, c2, c3, c4, c5, c6] t fr)) :
    w.cell? ⟨b, 0, none⟩ = some c0 ∧ w.cell? ⟨b, 1, none⟩ = some c1 ∧ w.cell? ⟨b, 2, none⟩ = some c2 ∧ w.cell? ⟨b, 3, none⟩ = some c3 ∧ w.cell? ⟨b, 4, none⟩ = some c4 ∧ w.cell? ⟨b, 5, none⟩ = some c5 ∧ w.cell? ⟨b, 6, none⟩ = some c6 := by
  refine ⟨?_, ?_, ?_, ?_, ?_, ?_, ?_⟩ <;> (rw [Lib.cell_of_heap h]; rfl)
theorem upd_setRow (w : World) (g : Nat) (cs : Array Value) : Upd g w (w.setRow g cs) := ⟨rfl, rfl, rfl, by simp [World.setRow], fun k _ hk => setRow_other w g k cs hk⟩
theorem wp_store_whole {ops : Array Oper} {rest : List Oper} {o : Oper} {a : Act} {w : World} {Q : Exit → Act → World → Prop} (hgd : o.guard = none) (ty : TypeId) (x y : Operand) (ho : o.op = .store ty x y)
    (g : Nat) (t : TypeId) (cur cells : Array Value) (hx : a.eval x = .pointer (some ⟨g, 0, none⟩)) (hy : a.eval y = .agg cells) (hg : w.heap[g]? = some (.cells cur t (0, 0))) (hs : cur.size = cells.size) (hi : (Tryd.prog.info? ty).map (·.size) = some cells.size) (h1 : cells.all (·.oneCell') = true)
    (h : ∀ w', w'.heap[g]? = some (.cells cells t (0, 0)) → Upd g w w' → wpList Tryd.prog ops Q rest (a.put o.dst undef) w') : wpList Tryd.prog ops Q (o :: rest) a w := by
  refine wpList_plain hgd fun K hK => ?_
  unfold Oper.wp execOp
  simp only [ho, hx, hy, Instr.storeAt, Instr.sureAddr, Sem.run_bind, Sem.run_pure, Result.andThen_ok, run_store_whole w g ty t cur cells hg hs hi h1]
  exact hK _ _ (h _ (setRow_heap w g cur cells t (0, 0) hg) (upd_setRow w g cells))
theorem wp_store_node {ops : Array Oper} {rest : List Oper} {o : Oper} {a : Act} {w : World} {Q : Exit → Act → World → Prop} (hgd : o.guard = none) (x y : Operand) (ho : o.op = .store 25 x y)
    (g : Nat) (cur : Array Value) (k p : Int) (s nm t : ByteArray) (A K : Option Addr) (n c m d : Nat) (hx : a.eval x = .pointer (some ⟨g, 0, none⟩)) (hy : a.eval y = .agg #[.int .i64 k, .string s, .string nm, .slice A n c, .slice K m d, .string t, .int .i64 p])
    (hg : w.heap[g]? = some (.cells cur 25 (0, 0))) (hs : cur.size = 7)
    (h : ∀ w', w'.heap[g]? = some (.cells #[.int .i64 k, .string s, .string nm, .slice A n c, .slice K m d, .string t, .int .i64 p] 25 (0, 0)) → Upd g w w' → wpList Tryd.prog ops Q rest (a.put o.dst undef) w') : wpList Tryd.prog ops Q (o :: rest) a w :=
  wp_store_whole hgd 25 x y ho g 25 cur _ hx hy hg (by rw [hs]; rfl) nodeSize (by simp [Value.oneCell']) h
theorem res_whole {P : Program} {fn : Func} {p : Tmp} {ty : TypeId} (h : fn.results = #[.cell p ty]) (tmps : Array Value) (w : World) (g : Nat) (ht : tmps.getD p undef = .pointer (some ⟨g, 0, none⟩)) (t : TypeId) (cells : Array Value) (hg : w.heap[g]? = some (.cells cells t (0, 0)))
    {d : TypeDesc} (hu : P.underlying ty = some d) (hd : d.isRow = true) (hi : (P.info? ty).map (·.size) = some cells.size) : (results fn tmps).run P w = .ok (.agg cells) w := by
  have hc : w.rangeAt g 0 cells.toList := fun j v hv => by rw [Nat.zero_add, Lib.cell_of_heap hg]; simpa using hv
  have hl := run_loadVar_mid (P := P) w g 0 ty cells.toList d hc hu hd (by simpa using hi)
  rw [Array.toArray_toList] at hl
  have ht' : tmps[p]?.getD undef = .pointer (some ⟨g, 0, none⟩) := by simpa using ht
  simp only [results, h]
  simp [ht', asAddr, hl]
end Go.Proofs.YthilaolkkamedaaDoor
set_option linter.unusedVariables false
namespace Go.Proofs.YthilaolkkamedaaDoor
open Go.RowKit

/-- The value v is a slice of strings that lies below block B. -/
def StrsIn (w : World) (B : Nat) (v : Value) (l : List Bytes) : Prop :=
  ∃ A cap, v = .slice A l.length cap ∧ l.length ≤ cap ∧ cap ≤ 9223372036854775807 ∧ (l = [] ∨ ∃ b off, A = some ⟨b, off, none⟩ ∧ b < B ∧ ∀ (i : Nat) s, l[i]? = some s → w.cell? ⟨b, off + i, none⟩ = some (.string (S s)))
section
variable {w w' : World} {B B' : Nat} {v : Value} {l : List Bytes}
theorem StrsIn.keep (h : StrsIn w B v l) (hb : ∀ k, k < B → w'.heap[k]? = w.heap[k]?) (hB : B ≤ B') : StrsIn w' B' v l := by
  obtain ⟨A, cap, hv, hc, hc2, h⟩ := h
  refine ⟨A, cap, hv, hc, hc2, h.imp id ?_⟩
  rintro ⟨b, off, hA, hlt, hr⟩
  exact ⟨b, off, hA, by omega, fun i s hi => (World.cell?_of_block (w := w) (a := ⟨b, off + i, none⟩) (hb b hlt)).trans (hr i s hi)⟩
theorem StrsIn.below (h : StrsIn w B v l) (hb : Below B w w') : StrsIn w' B v l := h.keep hb.block (Nat.le_refl _)
theorem StrsIn.nil (w : World) (B : Nat) : StrsIn w B (.slice none 0 0) [] := ⟨none, 0, rfl, Nat.le_refl _, by omega, .inl rfl⟩
theorem StrsIn.form (h : StrsIn w B v l) : ∃ A cap, v = .slice A l.length cap ∧ l.length ≤ cap := by
  obtain ⟨A, cap, hv, hc, _⟩ := h; exact ⟨A, cap, hv, hc⟩
/-- The first two and the rest. -/
theorem StrsIn.two {a b : Bytes} {r : List Bytes} (h : StrsIn w B v (a :: b :: r)) :
    ∃ x off cap, v = .slice (some ⟨x, off, none⟩) (r.length + 2) cap ∧ x < B ∧ r.length + 2 ≤ cap ∧ w.cell? ⟨x, off, none⟩ = some (.string (S a)) ∧ w.cell? ⟨x, off + 1, none⟩ = some (.string (S b)) ∧
      ∃ v', (∀ W : World, (Instr.slice 35 (.slice (some ⟨x, off, none⟩) (r.length + 2) cap) (some (.int .i64 2)) none none).run Tryd.prog W = .ok v' W) ∧ StrsIn w B v' r := by
  obtain ⟨A, cap, hv, hc, hc2, h⟩ := h
  rcases h with h | ⟨x, off, hA, hlt, hr⟩
  · cases h
  · subst hA
    refine ⟨x, off, cap, hv, hlt, by simpa using hc, hr 0 a rfl, hr 1 b rfl, ?_⟩
    simp only [List.length_cons] at hc
    have hadd : (⟨x, off, none⟩ : Addr).add 2 = ⟨x, off + 2, none⟩ := by unfold Addr.add; simp
    have hsz : (Tryd.prog.info? 9).map (·.size) = some 1 := by kernel_rfl
    by_cases hcap : cap = 2
    · have hr0 : r = [] := List.eq_nil_of_length_eq_zero (by omega)
      subst hr0 hcap
      refine ⟨.slice (some ⟨x, off, none⟩) 0 0, fun W => ?_, ⟨_, 0, rfl, Nat.le_refl _, by omega, .inl rfl⟩⟩
      cases hq : Tryd.prog.info? 9 with
      | none => simp [hq] at hsz
      | some i =>
        have hi : i.size = 1 := by simpa [hq] using hsz
        simp [Instr.slice, run_underlying Tryd.underlying35, go_sem, Instr.sliceBounds, sizeOf, typeInfo, hq]
    · refine ⟨.slice (some ⟨x, off + 2, none⟩) r.length (cap - 2), fun W => ?_, ⟨_, cap - 2, rfl, by omega, by omega, .inr ⟨x, off + 2, rfl, hlt, fun i s hi => ?_⟩⟩⟩
      · have h1 : (2 : Int) ≤ (r.length : Int) + 2 := by omega
        have h3 : ¬ (cap = 2) := hcap
        cases hq : Tryd.prog.info? 9 with
        | none => simp [hq] at hsz
        | some i =>
          have hi : i.size = 1 := by simpa [hq] using hsz
          simp [Instr.slice, run_underlying Tryd.underlying35, go_sem, Instr.sliceBounds, sizeOf, typeInfo, hq, hi, h3]
          intro h; omega
      · have := hr (i + 2) s (by simpa using hi)
        rw [show off + 2 + i = off + (i + 2) by omega]; exact this
end

/-! Cells of attributes. -/
theorem atts_cells {w : World} {B : Nat} {A : Option Addr} {cap : Nat} {ats : List Att} (h : AttsIn w B (.slice A ats.length cap) ats) {ad : Addr} (hA : A = some ad) :
    ∀ j u, (ats.map attCells).flatten[j]? = some u → w.cell? (ad.add j) = some u := by
  intro j u hj
  have hl : (ats.map attCells).flatten.length = ats.length * 4 := by rw [flat_len (c := 4) (by simp [attCells_len])]; simp
  have hlt : j < ats.length * 4 := by rw [← hl]; exact (List.getElem?_eq_some_iff.1 hj).1
  obtain ⟨b, off, hA', hb, hr⟩ := h.at_ (i := j / 4) (by omega)
  rw [hA] at hA'
  cases hA'
  have hadd : (⟨b, off, none⟩ : Addr).add j = ⟨b, off + j, none⟩ := by unfold Addr.add; split <;> simp_all
  rw [hadd, show off + j = off + j / 4 * 4 + j % 4 by omega]
  refine hr (j % 4) u ?_
  have := flat_at (c := 4) (css := ats.map attCells) (by simp [attCells_len]) (i := j / 4) (j := j % 4) (cs := attCells ats[j / 4]) (by simp [show j / 4 < ats.length by omega]) (by omega)
  rw [show j / 4 * 4 + j % 4 = j by omega] at this
  rw [← this, hj]
theorem flat_one (ats : List Att) : ∀ u ∈ (ats.map attCells).flatten, u.oneCell' = true := by
  intro u hu
  rw [List.mem_flatten] at hu
  obtain ⟨cs, hcs, hu⟩ := hu
  rw [List.mem_map] at hcs
  obtain ⟨a, _, rfl⟩ := hcs
  simp only [attCells, List.mem_cons, List.not_mem_nil, or_false] at hu
  rcases hu with rfl | rfl | rfl | rfl <;> rfl
theorem flat_atts_len (ats : List Att) : (ats.map attCells).flatten.length = ats.length * 4 := by rw [flat_len (c := 4) (by simp [attCells_len])]; simp

/-- Copying attributes into a new row. -/
theorem run_copy_atts (w : World) (ty : TypeId) (g cap : Nat) (A : Option Addr) (c : Nat) (ats : List Att) (B base : Nat) (h : AttsIn w B (.slice A ats.length c) ats) (cur : Array Value) (hg : w.heap[g]? = some (.cells cur 37 (0, 0))) (hcur : cur.size = cap * 4) (hcap : ats.length ≤ cap) (hm : cap ≤ maxLen) (hb : base ≤ g) :
    ∃ w', (Builtin.copy_ #[22, 22] ty #[.slice (some ⟨g, 0, none⟩) ats.length cap, .slice A ats.length c]).run Tryd.prog w = .ok (goInt ats.length) w' ∧ AttRow w' base (.slice (some ⟨g, 0, none⟩) ats.length cap) ats ∧ Upd g w w' := by
  obtain ⟨i0, hi0, hz0, hz1, hz2⟩ := info_parts infoAtt
  have hfl := flat_atts_len ats
  have hst := run_storeCells_at Tryd.prog g 0 37 (ats.map attCells).flatten 0 cur w hg (by rw [hfl, hcur]; omega) (flat_one ats)
  have hfc : (Builtin.firstCells 4 ats.length (.slice A ats.length c)).run Tryd.prog w = .ok (ats.map attCells).flatten.toArray w := by
    cases A with
    | none =>
      have : ats = [] := by
        obtain ⟨A', c', hv, _, h⟩ := h
        rcases h with h | ⟨b, off, hA, _⟩
        · exact h
        · cases hv; cases hA
      subst this
      rw [run_firstCells_none]; rfl
    | some ad => exact run_firstCells_some w 4 ats.length ad _ _ _ hfl (atts_cells h rfl)
  refine ⟨_, ?_, ?_, upd_setRow w g ((cur.toList.take (0 + 0) ++ (ats.map attCells).flatten ++ cur.toList.drop (0 + 0 + (ats.map attCells).flatten.length)).toArray)⟩
  · simp [Builtin.copy_, run_underlying Tryd.underlying22, Builtin.lenOf, sizeOf, typeInfo, hi0, hz1, hfc, hst]
  · refine ⟨by rw [hfl], .inr ⟨g, cap, _, rfl, hb, setRow_heap w g cur _ _ _ hg, hcap, hm, ?_, ?_⟩⟩
    · simp only [List.size_toArray, List.length_append, List.length_take, List.length_drop, hfl, Array.length_toList, hcur]; omega
    · simp only [Nat.zero_add, List.take_zero, List.nil_append]
      rw [← hfl, List.take_left]
theorem atts_copy {ops : Array Oper} {rest : List Oper} {o : Oper} {a : Act} {Q : Exit → Act → World → Prop} (hgd : o.guard = none) (d s : Operand)
    (ho : o.op = .call { callee := .builtin .copy, args := #[d, s], argTypes := #[22, 22] })
    (w : World) (g cap : Nat) (A : Option Addr) (c : Nat) (ats : List Att) (B base : Nat) (hd : a.eval d = .slice (some ⟨g, 0, none⟩) ats.length cap) (hs : a.eval s = .slice A ats.length c) (h : AttsIn w B (.slice A ats.length c) ats) (cur : Array Value) (hg : w.heap[g]? = some (.cells cur 37 (0, 0))) (hcur : cur.size = cap * 4) (hcap : ats.length ≤ cap) (hm : cap ≤ maxLen) (hb : base ≤ g)
    (hK : ∀ w', AttRow w' base (.slice (some ⟨g, 0, none⟩) ats.length cap) ats → Upd g w w' → wpList Tryd.prog ops Q rest (a.put o.dst (goInt ats.length)) w') : wpList Tryd.prog ops Q (o :: rest) a w := by
  refine wpList_plain hgd fun K hK' => ?_
  obtain ⟨w', hrun, h1, h2⟩ := run_copy_atts w o.type g cap A c ats B base h cur hg hcur hcap hm hb
  unfold Oper.wp
  simp [execOp, ho, resolve, invoke, builtin, hd, hs, hrun, Result.andThen]
  exact hK' _ _ (hK w' h1 h2)

/-- Appending all attributes of a slice. -/
theorem run_append_atts (w : World) (ty : TypeId) (base : Nat) (v : Value) (xs : List Att) (hx : AttRow w base v xs) (A : Option Addr) (c : Nat) (ats : List Att) (B : Nat) (h : AttsIn w B (.slice A ats.length c) ats) (hbase : base ≤ w.heap.size) (hl : xs.length + ats.length < 1000000000000) :
    ∃ v' w', (Builtin.append_ #[22, 22] ty #[v, .slice A ats.length c]).run Tryd.prog w = .ok v' w' ∧ AttRow w' base v' (xs ++ ats) ∧ Grew w v v' w' ∧ Below base w w' := by
  obtain ⟨i0, hi0, hz0, hz1, hz2⟩ := info_parts infoAtt
  cases A with
  | none =>
    have hn : ats = [] := by
      obtain ⟨A', c', hv, _, h⟩ := h
      rcases h with h | ⟨b, off, hA, _⟩
      · exact h
      · cases hv; cases hA
    subst hn
    refine ⟨v, w, ?_, by rw [List.append_nil]; exact hx, ⟨⟨rfl, rfl, rfl, Nat.le_refl _, fun _ _ _ => rfl⟩, Nat.le_refl _⟩, Below.refl _ _⟩
    rcases hx.2 with ⟨rfl, hn⟩ | ⟨g, cap, cur, rfl, _, _, hnc, _⟩
    · simp [Builtin.append_, run_underlying Tryd.underlying22, sizeOf, typeInfo, hi0, Builtin.lenOf, Builtin.firstCells]
    · simp [Builtin.append_, run_underlying Tryd.underlying22, sizeOf, typeInfo, hi0, Builtin.lenOf, Builtin.firstCells, hnc, storeCells]
  | some ad =>
    obtain ⟨v', w', h1, h2, h3, _, _⟩ := run_append_own_at (P := Tryd.prog) w base 22 ty 37 i0 _ 4 56 Tryd.underlying22 hi0 hz0 hz1 hz2 rfl (by omega) v xs.length _ hx ad ats.length c _ (flat_atts_len ats) (atts_cells h rfl) (flat_one ats) (by unfold maxLen; omega) (by omega) hbase
    refine ⟨v', w', h1, ?_, ⟨h3, h3.size⟩, row_grown h3 hbase hx.lt⟩
    unfold AttRow
    rw [List.map_append, List.flatten_append, List.length_append]
    exact h2
theorem atts_append_all2 {ops : Array Oper} {rest : List Oper} {o : Oper} {a : Act} {Q : Exit → Act → World → Prop} (hgd : o.guard = none) (d s : Operand)
    (ho : o.op = .call { callee := .builtin .append, args := #[d, s], argTypes := #[22, 22] })
    (w : World) (base : Nat) (v : Value) (xs : List Att) (hd : a.eval d = v) (hx : AttRow w base v xs) (A : Option Addr) (c : Nat) (ats : List Att) (B : Nat) (hs : a.eval s = .slice A ats.length c) (h : AttsIn w B (.slice A ats.length c) ats) (hbase : base ≤ w.heap.size) (hl : xs.length + ats.length < 1000000000000)
    (hK : ∀ v' w', AttRow w' base v' (xs ++ ats) → Grew w v v' w' → Below base w w' → wpList Tryd.prog ops Q rest (a.put o.dst v') w') : wpList Tryd.prog ops Q (o :: rest) a w := by
  refine wpList_plain hgd fun K hK' => ?_
  obtain ⟨v', w', hrun, h1, h2, h3⟩ := run_append_atts w o.type base v xs hx A c ats B h hbase hl
  unfold Oper.wp
  simp [execOp, ho, resolve, invoke, builtin, hd, hs, hrun, Result.andThen]
  exact hK' _ _ (hK v' w' h1 h2 h3)

/-- Attributes out of names and values. -/
def pairsOf : List Bytes → List Att
  | a :: b :: r => ⟨[], a, b, 0⟩ :: pairsOf r
  | _ => []
theorem pairsOf_short {l : List Bytes} (h : l.length ≤ 1) : pairsOf l = [] := by
  match l, h with
  | [], _ => rfl
  | [a], _ => rfl
theorem pairsOf_len : ∀ l : List Bytes, (pairsOf l).length = l.length / 2
  | [] => rfl
  | [a] => by simp [pairsOf]
  | a :: b :: r => by rw [pairsOf, List.length_cons, pairsOf_len r, List.length_cons, List.length_cons]; omega
end Go.Proofs.YthilaolkkamedaaDoor
set_option linter.unusedVariables false
namespace Go.Proofs.YthilaolkkamedaaDoor
open Go.RowKit

set_option maxHeartbeats 2000000 in
theorem refDepth_any (m : Nat) : ∀ (n : Node) (v : Value) (w : World), nsz n ≤ m → m ≤ 4611686018427387904 → NodeV w w.heap.size n v →
    Calls Tryd.prog 28 #[v] w fun e w' => e = .returned (.int .i64 (depth n : Nat)) ∧ Below w.heap.size w w' := by
  induction m with
  | zero => intro n v w h; cases n; rw [nsz] at h; omega
  | succ m ih =>
    intro n v w hm hbig hv
    obtain ⟨A, cap, K, kcap, rfl, ha, hk, hcap, hkcap⟩ := hv.open_
    have hdep := depth_nsz _ n (Nat.le_refl _)
    have hkl : n.kids.length ≤ 4611686018427387904 := by
      have h1 : n.kids.length ≤ nszL n.kids := by
        generalize n.kids = ks
        induction ks with
        | nil => simp
        | cons x ks ih => rw [nszL]; have : 1 ≤ nsz x := by cases x; rw [nsz]; omega
                          simp only [List.length_cons]; omega
      have h2 : nszL n.kids < nsz n := by cases n; simp only [Node.kids]; rw [nsz]; omega
      omega
    have HIH := Lib.hid ih
    have HK := Lib.hid hk
    have HM := Lib.hid hm
    clear ih ha hk hv hm
    by_cases h1 : n.kind = 1
    · have hd : depth n = 0 := by rw [depth_eq, if_pos h1]
      have t : (n.kind == 1) = true := by rw [h1]; rfl
      have HD := Lib.hid hd
      clear hd h1 hdep
      go_enter Tryd.func28, Tryd.ntmps28
      go_wp2_with fail
      go_ret
      exact ⟨ret_int (by rw [HD.out]; rfl), (Below.refl _ _).alloc (Nat.le_refl _) _⟩
    · have hd : depth n = depthL n.kids 0 + 1 := by rw [depth_eq, if_neg h1]
      have t : (n.kind == 1) = false := by rw [beq_eq_false_iff_ne]; exact h1
      rw [hd] at hdep ⊢
      generalize hD : depthL n.kids 0 = D at *
      have HD := Lib.hid hD
      clear hd h1 hD
      go_enter Tryd.func28, Tryd.ntmps28
      go_wp2_with fail
      go_loopw [3, 4] (fun s3 i4 wr => ∃ (i a : Nat), i ≤ n.kids.length ∧ i4 = .int .i64 i ∧ s3 = .int .i64 a ∧ depthL (n.kids.drop i) a = D ∧ Below (w.heap.size + 1) (w.alloc (nodeBox n A cap K kcap)) wr) (fun _ i4 _ => n.kids.length - (intOf i4).toNat)
      case atStart => exact ⟨0, 0, Nat.zero_le _, rfl, rfl, by rw [List.drop_zero]; exact HD.out, Below.refl _ _⟩
      case round =>
        obtain ⟨i, a, hi, rfl, rfl, hrem, hb⟩ := hrel
        have hbw : Below w.heap.size w wr := ((Below.refl _ _).alloc (Nat.le_refl _) _).trans (hb.mono (by omega))
        have hbox : wr.heap[w.heap.size]? = some (nodeBox n A cap K kcap) := (hb.block _ (by omega)).trans (heap_alloc_new w _)
        have c4 := (box_cells hbox).2.2.2.2.1
        have hsz := hb.size
        simp only [World.size_alloc] at hsz
        have HB := Lib.hid hb
        have HBW := Lib.hid hbw
        have HR := Lib.hid hrem
        clear hb hbw hrem hbox
        by_cases hlt : i < n.kids.length
        · have hfin := depthL_step (a := a) hlt
          rw [HR.out] at hfin
          obtain ⟨b, off, cs, rfl, hbl, hr, hcs⟩ := HK.out.at_ hlt
          have hr' : wr.rangeAt b (off + i * 7) cs := rangeAt_keep hr (HBW.out.block b hbl)
          have hnv : NodeV w w.heap.size n.kids[i] (.agg cs.toArray) := ⟨cs, rfl, hcs⟩
          obtain ⟨A', c', K', d', rfl, ha', hk', _, _⟩ := hcs.open_
          have hsn : nsz n.kids[i] ≤ m := by have := nsz_get n hlt; have := HM.out; omega
          have hcall := HIH.out n.kids[i] _ wr hsn (by omega) (hnv.keep HBW.out.block HBW.out.size)
          have HC := Lib.hid hcall
          have HRR := Lib.hid hr'
          have HF := Lib.hid hfin
          clear hr hr' hcs ha' hk' hfin hnv hsn hcall
          generalize depth n.kids[i] = dk at *
          go_wp2_with (first
            | (refine wp_load_node rfl _ rfl b (off + i * 7) rfl _ rfl HRR.out ?_)
            | (go_at_call 28; refine HC.out.mono ?_; rintro e w' ⟨rfl, hb'⟩))
          go_roundw
          case rel =>
            exact ⟨i + 1, max a dk, by omega, by go_num, val_int (by omega), HF.out.symm, HB.out.trans (hb'.mono (by omega))⟩
          case measure => simp [intOf]; omega
        · obtain rfl : i = n.kids.length := by omega
          have hfin := HR.out
          rw [List.drop_length, depthL] at hfin
          have hab : (a : Int) ≤ 4611686018427387904 := by have := HM.out; omega
          have HF := Lib.hid hfin
          clear hfin
          go_wp2_with fail
          go_ret
          exact ⟨ret_int (by rw [← HF.out]; omega), HBW.out⟩
end Go.Proofs.YthilaolkkamedaaDoor
