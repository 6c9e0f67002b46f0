/-
  Several texts in one file, in build order:
  - A strings.Builder that a call has made itself: copyCheck, WriteByte, WriteString, String over this translation (after the shelf's proofs of the forms _k; here copyCheck's last branch is a refusal).
  - Small laws on memory over this translation: a slice of bytes turned into a string.
  - Blocks, rows and whole stores in memory, of no type in particular.
  - From the row's list of package variables to the library's tables.
  - The tables that chapters 10 to 13 read, as the start lays them.
  - Plain functions of chapter 1 (text): which numbers are characters, which may stand in names; what a list of bytes checks as. No program.
  - Plain functions of chapter 5 (xmlescape): escaping. No program.
  - Plain functions of chapter 5 (xmlescape): references and their replacement. No program.
  - Plain functions on places in a string: what stands there, where it is found, white space, runs. No program.
-/
import Derived.Test.YthlppbpccldikaaDoorH0
import Derived.Test.YthlppbpccldikaaDoorH1
import Derived.Shelf.Strings.BuilderK
import Derived.WalkKit
import Derived.Lib.Hide
import Derived.Outline
import Derived.Deep.MidRow
import Derived.Deep.AppendLies
import Derived.Laws.OwnMore
import Derived.Laws.CopyRow
import Derived.Test.YthlppbpccldikaaDoorRows
import Derived.Lib.LaidU8
import Derived.LaidLaws
import Derived.Lib.AppendIntMem
import Derived.Shelf.Unicode.DecodeAny
set_option linter.unusedVariables false
namespace Go.Proofs.YthlppbpccldikaaDoor
open Go.RowKit

theorem ret_bool {a b : Bool} (h : a = b) : Ending.returned (.bool a) = .returned (.bool b) := by rw [h]
theorem ret_int {k : IntKind} {a b : Int} (h : a = b) : Ending.returned (.int k a) = .returned (.int k b) := by rw [h]
theorem val_bool {a b : Bool} (h : a = b) : Value.bool a = .bool b := by rw [h]
theorem val_int {k : IntKind} {a b : Int} (h : a = b) : Value.int k a = .int k b := by rw [h]

/-- Block b is a builder that holds the bytes l; what it owns lies from block B on. -/
def Bld (B b : Nat) (l : Bytes) (w : World) : Prop := Lib.IsBuilderF 63 5 B b (Lib.byteCells l) w
/-- Every block but b, and but rows of bytes, is as it was. -/
abbrev Kept (b : Nat) (w w' : World) : Prop := Lib.OthersKept 5 (some b) w w'

theorem sizeBuilder : (Tryd.prog.info? 63).map (·.size) = some 2 := by kernel_rfl
theorem liesBuilder : liesAt Tryd.prog Tryd.prog.depth 63 (2 / Tryd.prog.cellsOf 63) 0 63 1 = true := by kernel_rfl
theorem infoByte : (Tryd.prog.info? 5).map (fun i => (i.zero, i.size, i.bytes)) = some (some (.int .u8 0), 1, 1) := by kernel_rfl

theorem Bld.new (w : World) : Bld w.heap.size w.heap.size [] (w.alloc (.cells #[.pointer none, .slice none 0 0] 63)) := by
  refine .inl ⟨Nat.le_refl _, .slice none 0 0, heap_alloc_new w _, World.ownsRowF_nil _ _ _ _, ?_⟩
  simp [Value.ownBlock]
theorem Bld.mono {B B' b : Nat} {l : Bytes} {w : World} (h : Bld B b l w) (hB : B' ≤ B) : Bld B' b l w := by
  rcases h with ⟨h1, v, h2, h3, h4⟩ | ⟨h1, v, h2, h3, h4⟩
  · refine .inl ⟨by omega, v, h2, ⟨h3.1, ?_⟩, h4⟩
    rcases h3.2 with h | ⟨g, cap, cur, fz, hv, hg, r⟩
    · exact .inl h
    · exact .inr ⟨g, cap, cur, fz, hv, by omega, r⟩
  · refine .inr ⟨by omega, v, h2, ⟨h3.1, ?_⟩, h4⟩
    rcases h3.2 with h | ⟨g, cap, cur, fz, hv, hg, r⟩
    · exact .inl h
    · exact .inr ⟨g, cap, cur, fz, hv, by omega, r⟩
theorem Bld.le {B b : Nat} {l : Bytes} {w : World} (h : Bld B b l w) : B ≤ b := by
  rcases h with h | h <;> exact h.1
theorem Bld.lt {B b : Nat} {l : Bytes} {w : World} (h : Bld B b l w) : b < w.heap.size := by
  rcases h with h | h <;> exact h.lt
/-- Nothing in the builder's own memory has turned. -/
theorem Bld.alloc {B b : Nat} {l : Bytes} {w : World} (h : Bld B b l w) (o : Obj) : Bld B b l (w.alloc o) := Lib.IsBuilderF.alloc h o
theorem Bld.drew {B b : Nat} {l : Bytes} {w : World} (h : Bld B b l w) : Bld B b l w.drew := h
theorem ownF_below {B e n K : Nat} {v : Value} {bs : List Value} {w w' : World} (h : w.ownsRowF B e 1 v n bs) (hK : w.heap.size ≤ K) (hb : Below K w w') : w'.ownsRowF B e 1 v n bs := by
  obtain ⟨h1, h2⟩ := h
  refine ⟨h1, ?_⟩
  rcases h2 with h2 | ⟨g, cap, cur, fz, hv, hg, hh, r⟩
  · exact .inl h2
  · refine .inr ⟨g, cap, cur, fz, hv, hg, ?_, r⟩
    have hlt : g < w.heap.size := by
      rcases Nat.lt_or_ge g w.heap.size with h | h
      · exact h
      · rw [Array.getElem?_eq_none h] at hh; cases hh
    rw [hb.block g (by omega)]; exact hh
theorem Bld.below {B b : Nat} {l : Bytes} {w w' : World} (h : Bld B b l w) (hb : Below w.heap.size w w') : Bld B b l w' := by
  have hlt := h.lt
  rcases h with ⟨h1, v, h2, h3, h4⟩ | ⟨h1, v, h2, h3, h4⟩
  · exact .inl ⟨h1, v, by rw [hb.block b hlt]; exact h2, ownF_below h3 (Nat.le_refl _) hb, h4⟩
  · exact .inr ⟨h1, v, by rw [hb.block b hlt]; exact h2, ownF_below h3 (Nat.le_refl _) hb, h4⟩

set_option maxHeartbeats 1000000 in
set_option maxRecDepth 100000 in
theorem copyCheck_used (b : Nat) (w : World) (h0 : w.cell? ⟨b, 0, none⟩ = some (.pointer (some ⟨b, 0, none⟩))) :
    Calls Tryd.prog 45 #[.pointer (some ⟨b, 0, none⟩)] w fun e w' => e = .returned (.tuple #[]) ∧ w' = w := by
  obtain ⟨j, hj, _⟩ := Option.map_eq_some_iff.1 sizeBuilder
  go_enter Tryd.func45, Tryd.ntmps45
  go_wp2
  rw [Lib.run_neq_ptr_same w _ Tryd.underlying61 hj]
  go_wp2
  go_end0
  exact ⟨rfl, rfl⟩

set_option maxHeartbeats 1000000 in
set_option maxRecDepth 100000 in
theorem copyCheck_fresh (b : Nat) (w : World) (h0 : w.cell? ⟨b, 0, none⟩ = some (.pointer none)) (hsh : w.shape? b = some (63, 2)) (hfz : w.frozen? ⟨b, 0, none⟩ = false) :
    Calls Tryd.prog 45 #[.pointer (some ⟨b, 0, none⟩)] w fun e w' => e = .returned (.tuple #[]) ∧ w' = w.setCell ⟨b, 0, none⟩ (.pointer (some ⟨b, 0, none⟩)) := by
  obtain ⟨j, hj, hjs⟩ := Option.map_eq_some_iff.1 sizeBuilder
  have hun : Tryd.prog.underlying 91 = some .unsafePointer := by kernel_rfl
  go_enter Tryd.func45, Tryd.ntmps45
  go_wp2
  rw [Lib.run_to_unsafe w ⟨b, 0, none⟩ Tryd.underlying61 hun hj (by rw [hjs]; decide) hsh (Nat.zero_lt_succ 1)]
  simp only [Result.andThen]
  rw [Oper.upon_value]
  go_wp2
  rw [run_callFunc_extern Tryd.func54 (by kernel_rfl) (by kernel_rfl) (by kernel_rfl) (e := Extern.AbiNoEscape.same) (by kernel_rfl)]
  rw [Lib.run_noEscape]
  simp only [Result.andThen]
  rw [Oper.upon_value]
  go_wp2
  rw [Lib.run_from_unsafe w ⟨b, 0, none⟩ hun Tryd.underlying61 hj hsh liesBuilder]
  simp only [Result.andThen]
  rw [Oper.upon_value]
  go_wp2
  go_end0
  exact ⟨rfl, rfl⟩

theorem copyCheck_any (B b : Nat) (bs : List Value) (w : World) (h : Lib.IsBuilderF 63 5 B b bs w) :
    Calls Tryd.prog 45 #[.pointer (some ⟨b, 0, none⟩)] w fun e w' => e = .returned (.tuple #[]) ∧ (Lib.BuilderAtF 63 5 B b (.pointer (some ⟨b, 0, none⟩)) bs w' ∧ Below B w w' ∧ Kept b w w') := by
  rcases h with h | h
  · refine (copyCheck_fresh b w h.cell0 h.shape h.frozen0).mono ?_
    rintro e w' ⟨rfl, rfl⟩
    exact ⟨rfl, h.used _, (Below.refl B w).setCell (p := ⟨b, 0, none⟩) h.1 _, (Lib.OthersKept.refl _ _ w).setCell ⟨b, 0, none⟩ rfl _⟩
  · refine (copyCheck_used b w h.cell0).mono ?_
    rintro e w' ⟨rfl, rfl⟩
    exact ⟨rfl, h, Below.refl B _, Lib.OthersKept.refl _ _ _⟩

set_option maxHeartbeats 2000000 in
set_option maxRecDepth 100000 in
theorem writeString_cells (B b : Nat) (bs : List Value) (s : ByteArray) (w : World) (h : Lib.IsBuilderF 63 5 B b bs w) (hlen : bs.length + s.size ≤ 140737488355328) (hBw : B ≤ w.heap.size) :
    Calls Tryd.prog 29 #[.pointer (some ⟨b, 0, none⟩), .string s] w fun e w' => e = .returned (.tuple #[.int .i64 s.size, .nilIface]) ∧ (Lib.BuilderAtF 63 5 B b (.pointer (some ⟨b, 0, none⟩)) (bs ++ Lib.strCells s) w' ∧ Below B w w' ∧ Kept b w w') := by
  obtain ⟨i0, hi, hz0, hz1, hz2⟩ := info_parts infoByte
  go_enter Tryd.func29, Tryd.ntmps29
  go_wp2_with (go_at_call 45; refine (copyCheck_any B b bs _ h).mono ?_)
  rintro e w1 ⟨rfl, h1, hb1, hk1⟩
  obtain ⟨hB, v, hbk, hown, hne⟩ := h1
  have c0 : w1.cell? ⟨b, 0, none⟩ = some (.pointer (some ⟨b, 0, none⟩)) := by rw [Lib.cell_of_heap hbk]; rfl
  have c1 : w1.cell? ⟨b, 1, none⟩ = some v := by rw [Lib.cell_of_heap hbk]; rfl
  go_wp2_with (at_builtin; refine Lib.wpList_append_own_stringF _ rfl _ _ 34 9 rfl B 5 i0 Tryd.underlying34 Tryd.underlying9 hi hz0 hz1 hz2 _ _ _ rfl hown s rfl ?c3 ?c4 ?c5 ?_)
  case c3 => unfold maxLen; omega
  case c4 => omega
  case c5 => have := hb1.size; omega
  intro v' w2 hown' hgrow _
  have hlt : b < w1.heap.size := by
    rcases Nat.lt_or_ge b w1.heap.size with h' | h'
    · exact h'
    · simp [Array.getElem?_eq_none h'] at hbk
  have hb2 : w2.heap[b]? = some (.cells #[.pointer (some ⟨b, 0, none⟩), v] 63 (0, 0)) := by
    rw [hgrow.block b hlt (fun e => hne e.symm)]
    exact hbk
  have d0 : w2.cell? ⟨b, 0, none⟩ = some (.pointer (some ⟨b, 0, none⟩)) := by rw [Lib.cell_of_heap hb2]; rfl
  have d1 : w2.cell? ⟨b, 1, none⟩ = some v := by rw [Lib.cell_of_heap hb2]; rfl
  have f1 : w2.frozen? ⟨b, 1, none⟩ = false := Lib.frozen_of_heap hb2 1
  obtain ⟨ao, n', cap, rfl⟩ : ∃ ao n' cap, v' = .slice ao n' cap := by
    rcases hown'.2 with ⟨hv, _⟩ | ⟨g, cap, cur, fz, hv, _⟩
    · exact ⟨_, _, _, hv⟩
    · exact ⟨_, _, _, hv⟩
  go_wp2
  go_ret2
  refine ⟨rfl, ?_, ?_, (hk1.grown hgrow (Lib.ownsRowF_kind hown)).setCell ⟨b, 1, none⟩ rfl _⟩
  · exact Lib.BuilderAtF.put (T := 63) (e := 5) hB hb2 (bs' := bs ++ Lib.strCells s) (by simpa [Lib.strCells_length] using hown') (by decide)
  · exact (hb1.grown hgrow (by have := hb1.size; omega) (fun k hk => (hown.lt k hk).1)).setCell (p := ⟨b, 1, none⟩) hB _

theorem writeString_any (B b : Nat) (l m : Bytes) (w : World) (h : Bld B b l w) (hlen : l.length + m.length ≤ 140737488355328) (hBw : B ≤ w.heap.size) :
    Calls Tryd.prog 29 #[.pointer (some ⟨b, 0, none⟩), .string (S m)] w fun e w' => e = .returned (.tuple #[.int .i64 m.length, .nilIface]) ∧ Bld B b (l ++ m) w' ∧ Below B w w' ∧ Kept b w w' := by
  have hs : (S m).size = m.length := by simp [S, ByteArray.size]
  refine (writeString_cells B b (Lib.byteCells l) (S m) w h (by rw [Lib.byteCells_length, hs]; exact hlen) hBw).mono ?_
  rintro e w' ⟨rfl, h1, h2, h3⟩
  refine ⟨by rw [hs], .inr ?_, h2, h3⟩
  rw [Lib.byteCells_append]; exact h1
theorem builderString_any (B b : Nat) (l : Bytes) (w : World) (h : Bld B b l w) (hBw : B ≤ w.heap.size) :
    Calls Tryd.prog 31 #[.pointer (some ⟨b, 0, none⟩)] w fun e w' => e = .returned (.string (S l)) ∧ Bld B b l w' ∧ Below B w w' ∧ Kept b w w' :=
  Tryd.Builder_String_any_k B b l w h hBw
end Go.Proofs.YthlppbpccldikaaDoor
set_option linter.unusedVariables false
namespace Go.Proofs.YthlppbpccldikaaDoor
open Go.RowKit

/-! How the walk reads a string that is given by its list of bytes. -/
@[go_sem] theorem S_size (l : Bytes) : (S l).size = l.length := by simp [S, ByteArray.size]
@[go_sem] theorem S_toList (l : Bytes) : (S l).toList = l := ByteArray.toList_mk l
@[go_sem] theorem S_data (l : Bytes) : (S l).data.toList = l := by simp [S]
@[go_sem] theorem S_get (l : Bytes) (i : Nat) (h : i < (S l).size) : (S l)[i]'h = l[i]'(by rw [S_size] at h; exact h) := by
  simp only [S, ByteArray.getElem_eq_getElem_data]
  rfl
theorem S_extract (l : Bytes) (i j : Nat) : (S l).extract i j = S ((l.take j).drop i) := by
  have := Lib.extract_eq (S l) i j
  rw [S_data] at this
  rw [this, List.drop_take]
  rfl
@[go_sem] theorem S_extract_cut (l : Bytes) (i j : Nat) : (S l).extract i j = S ((l.drop i).take (j - i)) := by
  rw [S_extract, List.drop_take]
@[go_sem high] theorem S_extract_from (l : Bytes) (i : Nat) : (S l).extract i l.length = S (l.drop i) := by
  rw [S_extract, List.take_length]
@[go_sem high] theorem S_extract_to (l : Bytes) (j : Nat) : (S l).extract 0 j = S (l.take j) := by
  rw [S_extract, List.drop_zero]
@[go_sem] theorem S_append (a b : Bytes) : S a ++ S b = S (a ++ b) := ByteArray.mk_append_mk a b
@[go_sem] theorem mk_append_S (a b : Bytes) : ByteArray.mk a.toArray ++ S b = S (a ++ b) := ByteArray.mk_append_mk a b
@[go_sem] theorem S_append_mk (a b : Bytes) : S a ++ ByteArray.mk b.toArray = S (a ++ b) := ByteArray.mk_append_mk a b
@[go_sem] theorem wrap64_byte (b : UInt8) : wrap64 (b.toNat : Int) = b.toNat := IntWalk.wrap64_in _ (by have := u8_lt b; constructor <;> omega)
theorem S_data' (s : ByteArray) : S s.data.toList = s := by simp [S]
theorem S_inj {a b : Bytes} (h : S a = S b) : a = b := by
  have := congrArg (fun s : ByteArray => s.data.toList) h
  simpa [S] using this

theorem foldl_push (ns : List UInt8) : ∀ acc : ByteArray, (ns.map fun b => (b.toNat : Int)).foldl (fun r (n : Int) => r.push (UInt8.ofNat n.toNat)) acc = ⟨(acc.data.toList ++ ns).toArray⟩ := by
  induction ns with
  | nil => intro acc; simp
  | cons b ns ih =>
    intro acc
    simp only [List.map_cons, List.foldl_cons, Int.toNat_natCast, UInt8.ofNat_toNat]
    rw [ih]
    simp [ByteArray.push]
theorem run_bytes_string (w : World) (a : Addr) (l : Bytes) (cap : Nat) (h : ∀ j x, l[j]? = some x → w.cell? (a.add j) = some (.int .u8 x.toNat)) :
    (convert 34 9 (.slice (some a) l.length cap)).run Tryd.prog w = .ok (.string (S l)) w := by
  rw [run_convert_bytes_string w _ _ 5 _ _ _ Tryd.underlying34 Tryd.underlying5 Tryd.underlying9]
  rw [run_bytesToString w a l.length cap (l.map fun b => (b.toNat : Int))]
  · rw [foldl_push]; rfl
  · have := run_loadCells_list (P := Tryd.prog) (w := w) a (l.map fun b => Value.int .u8 b.toNat) (fun j v hj => by
      rw [List.getElem?_map, Option.map_eq_some_iff] at hj
      obtain ⟨x, hx, rfl⟩ := hj
      exact h j x hx)
    simp only [List.length_map] at this
    rw [this]
    simp
theorem run_bytes_nil (w : World) : (convert 34 9 (.slice none 0 0)).run Tryd.prog w = .ok (.string (S [])) w := by
  rw [run_convert_bytes_string w _ _ 5 _ _ _ Tryd.underlying34 Tryd.underlying5 Tryd.underlying9]
  simp [Conv.bytesToString, S, Sem.run_pure]
  rfl
theorem byte_int {x : Int} (h : 0 ≤ x ∧ x ≤ 255) : Value.int .u8 x = .int .u8 ((UInt8.ofNat x.toNat).toNat) := by
  rw [u8_of (by omega), Int.toNat_of_nonneg h.1]
theorem run_new_bytes (w : World) (xs : List Int) (n : Nat) (hn : xs.length = n) (h : ∀ x ∈ xs, 0 ≤ x ∧ x ≤ 255) :
    (convert 34 9 (.slice (some ⟨w.heap.size, 0, none⟩) n n)).run Tryd.prog (w.alloc (.cells (xs.map (Value.int .u8)).toArray 5)) =
      .ok (.string (S (xs.map fun x => UInt8.ofNat x.toNat))) (w.alloc (.cells (xs.map (Value.int .u8)).toArray 5)) := by
  subst hn
  have := run_bytes_string (w.alloc (.cells (xs.map (Value.int .u8)).toArray 5)) ⟨w.heap.size, 0, none⟩ (xs.map fun x => UInt8.ofNat x.toNat) xs.length (fun j x hj => by
    rw [List.getElem?_map, Option.map_eq_some_iff] at hj
    obtain ⟨y, hy, rfl⟩ := hj
    have hm := List.mem_of_getElem? hy
    rw [show (⟨w.heap.size, 0, none⟩ : Addr).add j = ⟨w.heap.size, j, none⟩ by unfold Addr.add; split <;> simp_all]
    rw [Lib.cell_of_heap (heap_alloc_new w _)]
    simp only [List.getElem?_toArray, List.getElem?_map, hy, Option.map_some]
    rw [byte_int (h y hm)])
  simpa using this
theorem run_new1 (w : World) (a : Int) (h : 0 ≤ a ∧ a ≤ 255) :
    (convert 34 9 (.slice (some ⟨w.heap.size, 0, none⟩) 1 1)).run Tryd.prog (w.alloc (.cells #[.int .u8 a] 5)) =
      .ok (.string (S [UInt8.ofNat a.toNat])) (w.alloc (.cells #[.int .u8 a] 5)) := run_new_bytes w [a] 1 rfl (by simpa using h)
theorem run_new2 (w : World) (a b : Int) (h : 0 ≤ a ∧ a ≤ 255) (h2 : 0 ≤ b ∧ b ≤ 255) :
    (convert 34 9 (.slice (some ⟨w.heap.size, 0, none⟩) 2 2)).run Tryd.prog (w.alloc (.cells #[.int .u8 a, .int .u8 b] 5)) =
      .ok (.string (S [UInt8.ofNat a.toNat, UInt8.ofNat b.toNat])) (w.alloc (.cells #[.int .u8 a, .int .u8 b] 5)) := run_new_bytes w [a, b] 2 rfl (by simp; omega)
theorem run_new3 (w : World) (a b c : Int) (h : 0 ≤ a ∧ a ≤ 255) (h2 : 0 ≤ b ∧ b ≤ 255) (h3 : 0 ≤ c ∧ c ≤ 255) :
    (convert 34 9 (.slice (some ⟨w.heap.size, 0, none⟩) 3 3)).run Tryd.prog (w.alloc (.cells #[.int .u8 a, .int .u8 b, .int .u8 c] 5)) =
      .ok (.string (S [UInt8.ofNat a.toNat, UInt8.ofNat b.toNat, UInt8.ofNat c.toNat])) (w.alloc (.cells #[.int .u8 a, .int .u8 b, .int .u8 c] 5)) := run_new_bytes w [a, b, c] 3 rfl (by simp; omega)
theorem run_new4 (w : World) (a b c d : Int) (h : 0 ≤ a ∧ a ≤ 255) (h2 : 0 ≤ b ∧ b ≤ 255) (h3 : 0 ≤ c ∧ c ≤ 255) (h4 : 0 ≤ d ∧ d ≤ 255) :
    (convert 34 9 (.slice (some ⟨w.heap.size, 0, none⟩) 4 4)).run Tryd.prog (w.alloc (.cells #[.int .u8 a, .int .u8 b, .int .u8 c, .int .u8 d] 5)) =
      .ok (.string (S [UInt8.ofNat a.toNat, UInt8.ofNat b.toNat, UInt8.ofNat c.toNat, UInt8.ofNat d.toNat])) (w.alloc (.cells #[.int .u8 a, .int .u8 b, .int .u8 c, .int .u8 d] 5)) := run_new_bytes w [a, b, c, d] 4 rfl (by simp; omega)

/-! A slice of bytes that the call has built itself. -/
def Own (B : Nat) (v : Value) (l : Bytes) (w : World) : Prop := w.ownsRow B 5 1 v l.length (Lib.byteCells l)
theorem Own.nil (B : Nat) (w : World) : Own B (.slice none 0 0) [] w := ⟨by simp [Lib.byteCells], .inl ⟨rfl, rfl⟩⟩
theorem Own.below {B : Nat} {v : Value} {l : Bytes} {w w' : World} (h : Own B v l w) (hb : Below w.heap.size w w') : Own B v l w' := by
  obtain ⟨h1, h2⟩ := h
  refine ⟨h1, ?_⟩
  rcases h2 with h2 | ⟨g, cap, cur, hv, hg, hh, r⟩
  · exact .inl h2
  · exact .inr ⟨g, cap, cur, hv, hg, (hb.block g (by
      rcases Nat.lt_or_ge g w.heap.size with h' | h'
      · exact h'
      · rw [Array.getElem?_eq_none h'] at hh; cases hh)).trans hh, r⟩
theorem own_append_str {ops : Array Oper} {rest : List Oper} {o : Oper} {a : Act} {w : World} {Q : Exit → Act → World → Prop} (hgd : o.guard = none) (sl x : Operand)
    (ho : o.op = .call { callee := .builtin .append, args := #[sl, x], argTypes := #[34, 9] })
    (B : Nat) (v : Value) (l m : Bytes) (hs : a.eval sl = v) (h : Own B v l w) (hx : a.eval x = .string (S m)) (hlen : l.length + m.length ≤ 140737488355328) (hB : B ≤ w.heap.size)
    (hK : ∀ v' w', Own B v' (l ++ m) w' → Below B w w' → wpList Tryd.prog ops Q rest (a.put o.dst v') w') : wpList Tryd.prog ops Q (o :: rest) a w := by
  obtain ⟨i0, hi, hz0, hz1, hz2⟩ := info_parts infoByte
  have hsz : (S m).size = m.length := S_size m
  refine Lib.wpList_append_own_string _ hgd sl x 34 9 ho B 5 i0 Tryd.underlying34 Tryd.underlying9 hi hz0 hz1 hz2 v _ _ hs h (S m) hx (by rw [hsz]; unfold maxLen; omega) (by rw [hsz]; omega) hB ?_
  intro v' w' hown hg _
  refine hK v' w' ?_ ((Below.refl _ _).grown hg hB (fun k hk => (h.lt k hk).1))
  unfold Own
  rw [Lib.byteCells_append, List.length_append, ← hsz]
  exact hown
theorem own_append_byte {c : UInt8} {ops : Array Oper} {rest : List Oper} {o : Oper} {a : Act} {w : World} {Q : Exit → Act → World → Prop} (hgd : o.guard = none) (sl x : Operand)
    (ho : o.op = .call { callee := .builtin .append, args := #[sl, x], argTypes := #[34, 34] })
    (B : Nat) (v : Value) (l : Bytes) (hs : a.eval sl = v) (h : Own B v l w) (hx : a.eval x = .slice (some ⟨w.heap.size, 0, none⟩) 1 1) (hlen : l.length + 1 ≤ 140737488355328) (hB : B ≤ w.heap.size)
    (hK : ∀ v' w', Own B v' (l ++ [c]) w' → Below B w w' → wpList Tryd.prog ops Q rest (a.put o.dst v') w') : wpList Tryd.prog ops Q (o :: rest) a (w.alloc (.cells #[.int .u8 c.toNat] 5)) := by
  obtain ⟨i0, hi, hz0, hz1, hz2⟩ := info_parts infoByte
  have hal : Own B v l (w.alloc (.cells #[.int .u8 c.toNat] 5)) := h.below ((Below.refl _ _).alloc (Nat.le_refl _) _)
  refine wpList_append_own _ hgd sl x 34 ho B 5 i0 (.int .u8 0) 1 1 Tryd.underlying34 hi hz0 hz1 hz2 rfl (by decide) v _ _ hs hal ⟨w.heap.size, 0, none⟩ 1 1 [.int .u8 c.toNat] hx rfl ?_ ?_ (by unfold maxLen; omega) (by omega) (by simp; omega) ?_
  · intro j u hj
    match j, hj with
    | 0, hj => simp at hj; subst hj; simp [Addr.add]
  · intro u hu; simp at hu; subst hu; rfl
  intro v' w' hown hg _
  refine hK v' w' ?_ (((Below.refl _ _).alloc hB _).grown hg (by simp; omega) (fun k hk => (h.lt k hk).1))
  unfold Own
  rw [Lib.byteCells_append, List.length_append]
  exact hown
/-- Such a slice turned into a string. -/
theorem own_string {B : Nat} {v : Value} {l : Bytes} {w : World} (h : Own B v l w) : (convert 34 9 v).run Tryd.prog w = .ok (.string (S l)) w := by
  rcases h.2 with ⟨hv, hn⟩ | ⟨g, cap, cur, hv, r⟩
  · have : l = [] := List.eq_nil_of_length_eq_zero hn
    subst this
    rw [hv]
    exact run_bytes_nil w
  · rw [hv]
    refine run_bytes_string w ⟨g, 0, none⟩ l cap (fun j x hj => ?_)
    have := h.cells (g := g) (by rw [hv]; rfl) j (.int .u8 x.toNat) (by simp [Lib.byteCells, hj])
    exact this

/-! 'Upd b w w'': w' is w with new blocks, and writes to block b alone. -/
structure Upd (b : Nat) (w w' : World) : Prop where
  os : w'.os = w.os
  tape : w'.tape = w.tape
  output : w'.output = w.output
  size : w.heap.size ≤ w'.heap.size
  block : ∀ k, k < w.heap.size → k ≠ b → w'.heap[k]? = w.heap[k]?
theorem Upd.refl (b : Nat) (w : World) : Upd b w w := ⟨rfl, rfl, rfl, Nat.le_refl _, fun _ _ _ => rfl⟩
theorem Upd.trans {b : Nat} {w w1 w2 : World} (h : Upd b w w1) (k : Upd b w1 w2) : Upd b w w2 :=
  ⟨k.os.trans h.os, k.tape.trans h.tape, k.output.trans h.output, Nat.le_trans h.size k.size, fun i hi hb => (k.block i (Nat.lt_of_lt_of_le hi h.size) hb).trans (h.block i hi hb)⟩
theorem Upd.of_below {b : Nat} {w w' : World} (h : Below w.heap.size w w') : Upd b w w' := ⟨h.os, h.tape, h.output, h.size, fun k hk _ => h.block k hk⟩
theorem Upd.next {b : Nat} {w w1 w2 : World} (h : Upd b w w1) (k : Below w1.heap.size w1 w2) : Upd b w w2 := h.trans (.of_below k)
theorem Upd.set_ (b i : Nat) (w : World) (v : Value) : Upd b w (w.setCell ⟨b, i, none⟩ v) :=
  ⟨rfl, rfl, rfl, by simp [World.setCell], fun k _ hk => Below.heap_setCell _ _ _ _ hk⟩
theorem Upd.drew {b : Nat} {w w' : World} (h : Upd b w w') : Upd b w w'.drew := ⟨h.os, h.tape, h.output, h.size, h.block⟩
theorem Upd.undrew {b : Nat} {w w' : World} (h : Upd b w.drew w') : Upd b w w' := ⟨h.os, h.tape, h.output, h.size, h.block⟩
theorem Upd.alloc {b : Nat} {w w' : World} (h : Upd b w w') (o : Obj) : Upd b w (w'.alloc o) :=
  h.trans (.of_below ((Below.refl _ _).alloc (Nat.le_refl _) o))
theorem Upd.below {b B : Nat} {w w' : World} (h : Upd b w w') (hb : B ≤ b) (hB : B ≤ w.heap.size) : Below B w w' :=
  ⟨h.os, h.tape, h.output, h.size, fun k hk => h.block k (by omega) (by omega)⟩
theorem below_undrew {B : Nat} {w w' : World} (h : Below B w.drew w') : Below B w w' := ⟨h.os, h.tape, h.output, h.size, h.block⟩
theorem heap_lt {w : World} {g : Nat} {o : Obj} (h : w.heap[g]? = some o) : g < w.heap.size := by
  rcases Nat.lt_or_ge g w.heap.size with h' | h'
  · exact h'
  · rw [Array.getElem?_eq_none h'] at h; cases h

end Go.Proofs.YthlppbpccldikaaDoor
set_option linter.unusedVariables false
namespace Go.Proofs.YthlppbpccldikaaDoor
open Go.RowKit

section
variable {w w' : World} {base B b off : Nat} {p : Nat → Prop} {v : Value}
theorem rangeAt_keep {cs : List Value} (h : w.rangeAt b off cs) (hk : w'.heap[b]? = w.heap[b]?) : w'.rangeAt b off cs :=
  fun j v hv => (World.cell?_of_block (w := w) (a := ⟨b, off + j, none⟩) hk).trans (h j v hv)
theorem ownsRow_below {e : TypeId} {size n : Nat} {xs : List Value} (h : w.ownsRow base e size v n xs) (hb : Below w.heap.size w w') : w'.ownsRow base e size v n xs := by
  obtain ⟨h1, h2⟩ := h
  refine ⟨h1, ?_⟩
  rcases h2 with h2 | ⟨g, cap, cur, hv, hg, hh, r⟩
  · exact .inl h2
  · exact .inr ⟨g, cap, cur, hv, hg, (hb.block g (heap_lt hh)).trans hh, r⟩
theorem ownsRow_heap {e : TypeId} {size n : Nat} {xs : List Value} (h : w.ownsRow base e size v n xs) (hb : ∀ k, v.ownBlock = some k → w'.heap[k]? = w.heap[k]?) : w'.ownsRow base e size v n xs := by
  obtain ⟨h1, h2⟩ := h
  refine ⟨h1, ?_⟩
  rcases h2 with h2 | ⟨g, cap, cur, hv, hg, hh, r⟩
  · exact .inl h2
  · exact .inr ⟨g, cap, cur, hv, hg, (hb g (by rw [hv]; rfl)).trans hh, r⟩
theorem ownsRow_base {e : TypeId} {size n : Nat} {xs : List Value} {base' : Nat} (h : w.ownsRow base e size v n xs) (hb : base' ≤ base) : w.ownsRow base' e size v n xs :=
  ⟨h.1, h.2.imp id fun ⟨g, cap, cur, hv, hg, r⟩ => ⟨g, cap, cur, hv, by omega, r⟩⟩
theorem row_lt {e : TypeId} {size n : Nat} {xs : List Value} (h : w.ownsRow base e size v n xs) : ∀ k, v.ownBlock = some k → base ≤ k ∧ k < w.heap.size := h.lt
end
/-- Reducibly applied, it succeeds only where the goal is one operation. -/
theorem gate {P : Program} {ops : Array Oper} {rest : List Oper} {o : Oper} {a : Act} {w : World} {Q : Exit → Act → World → Prop} (h : wpList P ops Q (o :: rest) a w) : wpList P ops Q (o :: rest) a w := h
theorem flat_at {c : Nat} : ∀ {css : List (List Value)}, (∀ cs ∈ css, cs.length = c) → ∀ {i j : Nat} {cs : List Value}, css[i]? = some cs → j < c → css.flatten[i * c + j]? = cs[j]?
  | [], _, i, j, cs, hi, _ => by simp at hi
  | x :: css, h, 0, j, cs, hi, hj => by
    simp only [List.getElem?_cons_zero, Option.some.injEq] at hi
    subst hi
    rw [List.flatten_cons, List.getElem?_append_left (by rw [h x (by simp)]; omega), Nat.zero_mul, Nat.zero_add]
  | x :: css, h, i + 1, j, cs, hi, hj => by
    have hx := h x (by simp)
    rw [List.flatten_cons, List.getElem?_append_right (by rw [hx, Nat.succ_mul]; omega), hx, show (i + 1) * c + j - c = i * c + j by rw [Nat.succ_mul]; omega]
    exact flat_at (fun y hy => h y (by simp [hy])) (by simpa using hi) hj
theorem flat_len {c : Nat} : ∀ {css : List (List Value)}, (∀ cs ∈ css, cs.length = c) → css.flatten.length = css.length * c
  | [], _ => by simp
  | x :: css, h => by
    rw [List.flatten_cons, List.length_append, flat_len (fun y hy => h y (by simp [hy])), h x (by simp), List.length_cons, Nat.succ_mul]; omega
theorem add_zero_block (g j : Nat) : (⟨g, 0, none⟩ : Addr).add j = ⟨g, j, none⟩ := by unfold Addr.add; split <;> simp_all
theorem row_grown {w w' : World} {base : Nat} {v : Value} (hg : w.grownBy w' v.ownBlock) (hb : base ≤ w.heap.size) (hl : ∀ k, v.ownBlock = some k → base ≤ k ∧ k < w.heap.size) : Below base w w' :=
  ⟨hg.os, hg.tape, hg.output, hg.size, fun k hk => hg.block k (by omega) (fun e => by have := (hl k e.symm).1; omega)⟩
/-- What an append leaves. -/
structure Grew (w : World) (v v' : Value) (w' : World) : Prop where
  grown : w.grownBy w' v.ownBlock
  lt : w.heap.size ≤ w'.heap.size
theorem Grew.heap {w w' : World} {v v' : Value} (h : Grew w v v' w') {k : Nat} {o : Obj} (hk : w.heap[k]? = some o) (hne : v.ownBlock ≠ some k) : w'.heap[k]? = some o :=
  (h.grown.block k (heap_lt hk) (fun e => hne e.symm)).trans hk
theorem run_store_whole {P : Program} (w : World) (g : Nat) (ty t : TypeId) (cur cells : Array Value) (hg : w.heap[g]? = some (.cells cur t (0, 0))) (hs : cur.size = cells.size) (hi : (P.info? ty).map (·.size) = some cells.size) (h1 : cells.all (·.oneCell') = true) :
    (storeVar ty ⟨g, 0, none⟩ (.agg cells)).run P w = .ok () (w.setRow g cells) := by
  have := run_storeCells_at P g 0 t cells.toList 0 cur w hg (by simp; omega) (fun v hv => (Array.all_eq_true_iff_forall_mem.1 h1) v (by simpa using hv))
  cases hq : P.info? ty with
  | none => simp [hq] at hi
  | some i =>
    have hs' : cells.size = i.size := by simp [hq] at hi; omega
    have he : (cur.toList.take (0 + 0) ++ cells.toList ++ cur.toList.drop (0 + 0 + cells.toList.length)).toArray = cells := by
      rw [List.drop_eq_nil_of_le (by simp; omega)]; simp
    rw [he] at this
    simp [storeVar, sizeOf, typeInfo, hq, Value.cells, hs', this]
theorem range_of_heap {w : World} {b : Nat} {cs : List Value} {t : TypeId} {fr : Nat × Nat} (h : w.heap[b]? = some (.cells cs.toArray t fr)) : w.rangeAt b 0 cs := fun j v hv => by
  rw [Nat.zero_add, Lib.cell_of_heap h]; simpa using hv
theorem cells7 {w : World} {b : Nat} {c0 c1 c2 c3 c4 c5 c6 : Value} {t : TypeId} {fr : Nat × Nat} (h : w.heap[b]? = some (.cells #[c0, c1, c2, c3, c4, c5, c6] t fr)) :
    w.cell? ⟨b, 0, none⟩ = some c0 ∧ w.cell? ⟨b, 1, none⟩ = some c1 ∧ w.cell? ⟨b, 2, none⟩ = some c2 ∧ w.cell? ⟨b, 3, none⟩ = some c3 ∧ w.cell? ⟨b, 4, none⟩ = some c4 ∧ w.cell? ⟨b, 5, none⟩ = some c5 ∧ w.cell? ⟨b, 6, none⟩ = some c6 := by
  refine ⟨?_, ?_, ?_, ?_, ?_, ?_, ?_⟩ <;> (rw [Lib.cell_of_heap h]; rfl)
theorem upd_setRow (w : World) (g : Nat) (cs : Array Value) : Upd g w (w.setRow g cs) := ⟨rfl, rfl, rfl, by simp [World.setRow], fun k _ hk => setRow_other w g k cs hk⟩
theorem wp_store_whole {ops : Array Oper} {rest : List Oper} {o : Oper} {a : Act} {w : World} {Q : Exit → Act → World → Prop} (hgd : o.guard = none) (ty : TypeId) (x y : Operand) (ho : o.op = .store ty x y)
    (g : Nat) (t : TypeId) (cur cells : Array Value) (hx : a.eval x = .pointer (some ⟨g, 0, none⟩)) (hy : a.eval y = .agg cells) (hg : w.heap[g]? = some (.cells cur t (0, 0))) (hs : cur.size = cells.size) (hi : (Tryd.prog.info? ty).map (·.size) = some cells.size) (h1 : cells.all (·.oneCell') = true)
    (h : ∀ w', w'.heap[g]? = some (.cells cells t (0, 0)) → Upd g w w' → wpList Tryd.prog ops Q rest (a.put o.dst undef) w') : wpList Tryd.prog ops Q (o :: rest) a w := by
  refine wpList_plain hgd fun K hK => ?_
  unfold Oper.wp execOp
  simp only [ho, hx, hy, Instr.storeAt, Instr.sureAddr, Sem.run_bind, Sem.run_pure, Result.andThen_ok, run_store_whole w g ty t cur cells hg hs hi h1]
  exact hK _ _ (h _ (setRow_heap w g cur cells t (0, 0) hg) (upd_setRow w g cells))
theorem res_whole {P : Program} {fn : Func} {p : Tmp} {ty : TypeId} (h : fn.results = #[.cell p ty]) (tmps : Array Value) (w : World) (g : Nat) (ht : tmps.getD p undef = .pointer (some ⟨g, 0, none⟩)) (t : TypeId) (cells : Array Value) (hg : w.heap[g]? = some (.cells cells t (0, 0)))
    {d : TypeDesc} (hu : P.underlying ty = some d) (hd : d.isRow = true) (hi : (P.info? ty).map (·.size) = some cells.size) : (results fn tmps).run P w = .ok (.agg cells) w := by
  have hc : w.rangeAt g 0 cells.toList := fun j v hv => by rw [Nat.zero_add, Lib.cell_of_heap hg]; simpa using hv
  have hl := run_loadVar_mid (P := P) w g 0 ty cells.toList d hc hu hd (by simpa using hi)
  rw [Array.toArray_toList] at hl
  have ht' : tmps[p]?.getD undef = .pointer (some ⟨g, 0, none⟩) := by simpa using ht
  simp only [results, h]
  simp [ht', asAddr, hl]
theorem alloc_at {W : World} {o : Obj} {h : Nat} (e : W.heap.size = h) : (W.alloc o).heap[h]? = some o := by subst e; exact heap_alloc_new W o
theorem alloc_old {W : World} {o x : Obj} {h : Nat} (e : W.heap[h]? = some x) : (W.alloc o).heap[h]? = some x := (Below.heap_alloc W o h (heap_lt e)).trans e
theorem cells2 {w : World} {b : Nat} {c0 c1 : Value} {t : TypeId} {fr : Nat × Nat} (h : w.heap[b]? = some (.cells #[c0, c1] t fr)) :
    w.cell? ⟨b, 0, none⟩ = some c0 ∧ w.cell? ⟨b, 1, none⟩ = some c1 := by
  refine ⟨?_, ?_⟩ <;> (rw [Lib.cell_of_heap h]; rfl)
theorem heap_set {W : World} {b i : Nat} {t : TypeId} {fr : Nat × Nat} {cur : Array Value} (h : W.heap[b]? = some (.cells cur t fr)) (v : Value) : (W.setCell ⟨b, i, none⟩ v).heap[b]? = some (.cells (cur.setIfInBounds i v) t fr) := by
  simp [World.setCell, Array.getElem?_modify, h]
theorem below_undrew' {B : Nat} {w w' : World} (h : Below B w.drew w') : Below B w w' := ⟨h.os, h.tape, h.output, h.size, h.block⟩
theorem res_cells2 {P : Program} {fn : Func} {p q : Tmp} {ty tz : TypeId} (h : fn.results = #[.cell p ty, .cell q tz]) (tmps : Array Value) (w : World) (g f : Nat) (ht : tmps.getD p undef = .pointer (some ⟨g, 0, none⟩)) (hf : tmps.getD q undef = .pointer (some ⟨f, 0, none⟩)) (t s : TypeId) (cells ds : Array Value) (hg : w.heap[g]? = some (.cells cells t (0, 0))) (hd : w.heap[f]? = some (.cells ds s (0, 0)))
    {d e : TypeDesc} (hu : P.underlying ty = some d) (hr : d.isRow = true) (hi : (P.info? ty).map (·.size) = some cells.size) (hv : P.underlying tz = some e) (hs : e.isRow = true) (hj : (P.info? tz).map (·.size) = some ds.size) : (results fn tmps).run P w = .ok (.tuple #[.agg cells, .agg ds]) w := by
  have hc : w.rangeAt g 0 cells.toList := fun j v hv => by rw [Nat.zero_add, Lib.cell_of_heap hg]; simpa using hv
  have hl := run_loadVar_mid (P := P) w g 0 ty cells.toList d hc hu hr (by simpa using hi)
  have hc2 : w.rangeAt f 0 ds.toList := fun j v hv => by rw [Nat.zero_add, Lib.cell_of_heap hd]; simpa using hv
  have hl2 := run_loadVar_mid (P := P) w f 0 tz ds.toList e hc2 hv hs (by simpa using hj)
  rw [Array.toArray_toList] at hl hl2
  have ht' : tmps[p]?.getD undef = .pointer (some ⟨g, 0, none⟩) := by simpa using ht
  have hf' : tmps[q]?.getD undef = .pointer (some ⟨f, 0, none⟩) := by simpa using hf
  simp only [results, h]
  simp [ht', hf', asAddr, hl, hl2]
/-- A block of one's own: it is not frozen. -/
def Loose (w : World) (b : Nat) : Prop := ∃ cur t, w.heap[b]? = some (.cells cur t (0, 0))
theorem Loose.keep {w w' : World} {b : Nat} (h : Loose w b) (hk : w'.heap[b]? = w.heap[b]?) : Loose w' b := by
  obtain ⟨cur, t, h⟩ := h
  exact ⟨cur, t, hk.trans h⟩
theorem ownsRow_loose {w : World} {base : Nat} {T : TypeId} {c : Nat} {v : Value} {n : Nat} {cs : List Value} {b : Nat} (h : w.ownsRow base T c v n cs) (hb : v.ownBlock = some b) : Loose w b := by
  rcases h.2 with ⟨hv, hn⟩ | ⟨g, cap, cur, hv, hg, hh, _⟩
  · rw [hv] at hb; cases hb
  · rw [hv] at hb
    cases hb
    exact ⟨cur, T, hh⟩
theorem two_heap {W : World} {f : Nat} {t : TypeId} {c0 c1 : Value} (h : W.heap[f]? = some (.cells #[c0, c1] t (0, 0))) (u0 u1 : Value) : ((W.setCell ⟨f, 0, none⟩ u0).setCell ⟨f, 1, none⟩ u1).heap[f]? = some (.cells #[u0, u1] t (0, 0)) := heap_set (i := 1) (heap_set (i := 0) h u0) u1
theorem two_other (W : World) {f k : Nat} (h : k ≠ f) (u0 u1 : Value) : ((W.setCell ⟨f, 0, none⟩ u0).setCell ⟨f, 1, none⟩ u1).heap[k]? = W.heap[k]? :=
  (Below.heap_setCell _ ⟨f, 1, none⟩ _ k h).trans (Below.heap_setCell _ ⟨f, 0, none⟩ _ k h)
end Go.Proofs.YthlppbpccldikaaDoor
set_option linter.unusedVariables false
namespace Go.Proofs.YthlppbpccldikaaDoor
open Go.RowKit Go.ChangeShapes Go.WideShapes

/-- An array of pairs of integers that reads as these rows holds their numbers, cell for cell. -/
theorem cells_of_rows {H : Type} {enc : TypeId × Value → H} {P : Program} {w : World} {base : Nat} {sp : Nat → Bool} {held : Bool} {fuel : Nat} {t e : TypeId} {n : Nat} {k : IntKind} {cs : List Value} {rows : List (Int × Int)} {p : List MemPlace}
    (ht : P.underlying t = some (.array n e)) (hel : ∀ {fuel : Nat} {cs : List Value} {r : Int × Int} {q : List MemPlace}, DataW.trod enc P w base sp held fuel e cs = some (Lib.tabData k [r.1, r.2], q) → cs = [.int k r.1, .int k r.2]) (hce : P.cellsOf e = 2) (hct : P.cellsOf t = n * 2)
    (h : DataW.trod enc P w base sp held fuel t cs = some (.agg (rows.map fun r => Lib.tabData k [r.1, r.2]), p)) (hn : rows.length = n) : cs = rows.flatMap fun r => [.int k r.1, .int k r.2] := by
  have hl : cs.length = n * 2 := by
    cases fuel with
    | zero => simp [DataW.trod] at h
    | succ fuel =>
      simp only [DataW.trod, ht] at h
      split at h
      · rename_i hl; rw [hl, hct]
      · cases h
  have hrow : ∀ j (hj : j < n), (cs.drop (j * 2)).take 2 = [.int k (rows[j]'(by omega)).1, .int k (rows[j]'(by omega)).2] := by
    intro j hj
    obtain ⟨fuel', d, q, hd, ht'⟩ := Lib.array_elem ht h j hj
    rw [List.getElem?_map, List.getElem?_eq_getElem (by omega)] at hd
    simp only [Option.map_some, Option.some.injEq] at hd
    subst hd
    rw [hce] at ht'
    exact hel ht'
  clear h ht hct
  subst hn
  induction rows generalizing cs with
  | nil => simpa using hl
  | cons r rows ih =>
    have h0 := hrow 0 (by simp)
    simp only [Nat.zero_mul, List.drop_zero, List.getElem_cons_zero] at h0
    have h1 := ih (cs := cs.drop 2) (by simp only [List.length_drop, List.length_cons] at hl ⊢; omega) (fun j hj => by
      have := hrow (j + 1) (by simpa using hj)
      rw [List.drop_drop, show 2 + j * 2 = (j + 1) * 2 by omega, this]
      simp)
    rw [List.flatMap_cons, ← h1, ← h0, List.take_append_drop]
theorem cells_of_pairs {H : Type} {enc : TypeId × Value → H} {P : Program} {w : World} {base : Nat} {sp : Nat → Bool} {held : Bool} {fuel : Nat} {t e i : TypeId} {n : Nat} {k : IntKind} {cs : List Value} {rows : List (Int × Int)} {p : List MemPlace}
    (ht : P.underlying t = some (.array n e)) (he : P.underlying e = some (.array 2 i)) (hi : P.underlying i = some (.int k)) (hci : P.cellsOf i = 1) (hce : P.cellsOf e = 2) (hct : P.cellsOf t = n * 2)
    (h : DataW.trod enc P w base sp held fuel t cs = some (.agg (rows.map fun r => Lib.tabData k [r.1, r.2]), p)) (hn : rows.length = n) : cs = rows.flatMap fun r => [.int k r.1, .int k r.2] :=
  cells_of_rows ht (fun {_ _ r _} h => Lib.cells_of_tab (zs := [r.1, r.2]) he hi hci hce h) hce hct h hn
theorem heap_of_var {P : Program} {w : World} {name : String} {g : Nat} {cs : Array Value} (hg : P.globalNamed name = some g) (h : w.var? P name = some cs) : ∃ t fr, w.heap[g]? = some (.cells cs t fr) := by
  unfold World.var? at h
  rw [hg] at h
  simp only [Option.bind_some] at h
  split at h
  · rename_i cs' t fr hh
    cases h
    exact ⟨t, fr, hh⟩
  · cases h

/-- What the second table's rows are. -/
def acceptRows : List (Int × Int) := (List.range 16).map fun i => ((Lib.accLo i : Int), (Lib.accHi i : Int))
theorem gFirst : Tryd.prog.globalNamed "unicode/utf8.first" = some 4 := by kernel_rfl
theorem gAccept : Tryd.prog.globalNamed "unicode/utf8.acceptRanges" = some 5 := by kernel_rfl
theorem tFirst : (Tryd.prog.globals[(4 : Nat)]?).map (·.type) = some 128 := by kernel_rfl
theorem tAccept : (Tryd.prog.globals[(5 : Nat)]?).map (·.type) = some 131 := by kernel_rfl
theorem cellsByte : Tryd.prog.cellsOf 5 = 1 := by kernel_rfl
theorem cellsFirst : Tryd.prog.cellsOf 128 = 256 := by kernel_rfl
theorem cellsAccept : Tryd.prog.cellsOf 131 = 16 * 2 := by kernel_rfl
theorem cellsRange : Tryd.prog.cellsOf 130 = 2 := by kernel_rfl
theorem utf8_own {w : World} (h3 : Lib.VarReads Tryd.prog w "unicode/utf8.first" Lib.firstData) (h4 : Lib.VarReads Tryd.prog w "unicode/utf8.acceptRanges" Lib.acceptData) : Lib.Utf8Tabs 4 5 w := by
  refine ⟨?_, ?_⟩
  · obtain ⟨g, t, cs, fuel, p, hg, hty, hvar, hd⟩ := h3
    obtain rfl := Option.some.inj (gFirst.symm.trans hg)
    obtain rfl := Option.some.inj (tFirst.symm.trans hty)
    have hcs := Lib.cells_of_tab Tryd.underlying128 Tryd.underlying5 cellsByte cellsFirst hd
    obtain ⟨t, fr, hh⟩ := heap_of_var hg hvar
    intro c hc
    rw [Lib.cell_of_heap hh, ← Array.getElem?_toList, hcs]
    simp [Lib.firstTab, hc]
  · obtain ⟨g, t, cs, fuel, p, hg, hty, hvar, hd⟩ := h4
    obtain rfl := Option.some.inj (gAccept.symm.trans hg)
    obtain rfl := Option.some.inj (tAccept.symm.trans hty)
    have hcs := cells_of_rows (rows := acceptRows) (k := .u8) Tryd.underlying131 (fun {_ _ r _} h => Lib.ints_of_struct (zs := [r.1, r.2]) (k := .u8) Tryd.underlying130 (fun j f hj => by
      match j, hj with
      | 0, hj => simp at hj; subst hj; exact ⟨Tryd.underlying5, rfl, cellsByte⟩
      | 1, hj => simp at hj; subst hj; exact ⟨Tryd.underlying5, rfl, cellsByte⟩
      | j + 2, hj => simp at hj) (by rw [cellsRange]; rfl) h) cellsRange cellsAccept hd rfl
    obtain ⟨t, fr, hh⟩ := heap_of_var hg hvar
    have hall : ∀ i, i < 16 → (acceptRows.flatMap fun r => [Value.int .u8 r.1, Value.int .u8 r.2])[2 * i]? = some (.int .u8 (Lib.accLo i)) ∧ (acceptRows.flatMap fun r => [Value.int .u8 r.1, Value.int .u8 r.2])[2 * i + 1]? = some (.int .u8 (Lib.accHi i)) := by
      intro i hi
      match i, hi with
      | 0, _ => exact ⟨rfl, rfl⟩
      | 1, _ => exact ⟨rfl, rfl⟩
      | 2, _ => exact ⟨rfl, rfl⟩
      | 3, _ => exact ⟨rfl, rfl⟩
      | 4, _ => exact ⟨rfl, rfl⟩
      | 5, _ => exact ⟨rfl, rfl⟩
      | 6, _ => exact ⟨rfl, rfl⟩
      | 7, _ => exact ⟨rfl, rfl⟩
      | 8, _ => exact ⟨rfl, rfl⟩
      | 9, _ => exact ⟨rfl, rfl⟩
      | 10, _ => exact ⟨rfl, rfl⟩
      | 11, _ => exact ⟨rfl, rfl⟩
      | 12, _ => exact ⟨rfl, rfl⟩
      | 13, _ => exact ⟨rfl, rfl⟩
      | 14, _ => exact ⟨rfl, rfl⟩
      | 15, _ => exact ⟨rfl, rfl⟩
      | i + 16, hi => exact absurd hi (by omega)
    intro i hi
    rw [Lib.cell_of_heap hh, Lib.cell_of_heap hh, ← Array.getElem?_toList, ← Array.getElem?_toList, hcs]
    exact hall i hi
theorem first_eq : Rows.laid_unicode_utf8_first = Lib.firstData := by kernel_rfl
theorem accept_eq : (Rows.laid_unicode_utf8_acceptRanges : DataW Unit) = Lib.acceptData := by kernel_rfl
end Go.Proofs.YthlppbpccldikaaDoor
set_option linter.unusedVariables false
namespace Go.Proofs.YthlppbpccldikaaDoor
open Go.RowKit

def lettCells : Array Value := #[.int .u8 98, .int .u8 8, .int .u8 102, .int .u8 12, .int .u8 110, .int .u8 10, .int .u8 114, .int .u8 13, .int .u8 116, .int .u8 9]
structure TabJ (w : World) : Prop where
  utf : Lib.Utf8Tabs 4 5 w
  lett : ∃ t fr, w.heap[(1 : Nat)]? = some (.cells lettCells t fr)
  pow : Lib.TabIs Tryd.prog w "internal/strconv.uint64pow10" .u64 Lib.pow10Tab
theorem lt_of_cellJ {w : World} {a : Addr} {v : Value} (h : w.cell? a = some v) : a.block < w.heap.size := by
  rcases Nat.lt_or_ge a.block w.heap.size with h' | h'
  · exact h'
  · simp [World.cell?, Array.getElem?_eq_none h'] at h
theorem TabJ.next {w w' : World} (h : TabJ w) (hb : Below w.heap.size w w') : TabJ w' := by
  obtain ⟨⟨h1, h2⟩, ⟨t3, f3, h3⟩, h4⟩ := h
  refine ⟨⟨fun c hc => ?_, fun i hi => ?_⟩, ⟨t3, f3, ?_⟩, Lib.tabBelow_of_tabIs h4 w' hb⟩
  · have := h1 c hc
    rw [hb.cell (p := ⟨_, c, none⟩) (lt_of_cellJ this)]; exact this
  · have h := h2 i hi
    rw [hb.cell (p := ⟨_, 2 * i, none⟩) (lt_of_cellJ h.1), hb.cell (p := ⟨_, 2 * i + 1, none⟩) (lt_of_cellJ h.2)]; exact h
  · rw [hb.block _ (heap_lt h3)]; exact h3
end Go.Proofs.YthlppbpccldikaaDoor
set_option linter.unusedVariables false
namespace Go.Proofs.YthlppbpccldikaaDoor

def isChar (r : Int) : Bool := decide (r = 9 ∨ r = 10 ∨ r = 13 ∨ (32 ≤ r ∧ r ≤ 55295) ∨ (57344 ≤ r ∧ r ≤ 65533) ∨ (65536 ≤ r ∧ r ≤ 1114111))
theorem isChar_yes {r : Int} (h : r = 9 ∨ r = 10 ∨ r = 13 ∨ (32 ≤ r ∧ r ≤ 55295) ∨ (57344 ≤ r ∧ r ≤ 65533) ∨ (65536 ≤ r ∧ r ≤ 1114111)) : isChar r = true := decide_eq_true h
theorem isChar_no {r : Int} (h : ¬ (r = 9 ∨ r = 10 ∨ r = 13 ∨ (32 ≤ r ∧ r ≤ 55295) ∨ (57344 ≤ r ∧ r ≤ 65533) ∨ (65536 ≤ r ∧ r ≤ 1114111))) : isChar r = false := decide_eq_false h
theorem isChar_iff {r : Int} : isChar r = true ↔ (r = 9 ∨ r = 10 ∨ r = 13 ∨ (32 ≤ r ∧ r ≤ 55295) ∨ (57344 ≤ r ∧ r ≤ 65533) ∨ (65536 ≤ r ∧ r ≤ 1114111)) := by unfold isChar; simp

def startRanges : List (Int × Int) := [(65, 90), (95, 95), (97, 122), (192, 214), (216, 246), (248, 767), (880, 893), (895, 8191), (8204, 8205), (8304, 8591), (11264, 12271), (12289, 55295), (63744, 64975), (65008, 65533), (65536, 983039)]
def moreRanges : List (Int × Int) := [(45, 46), (48, 57), (183, 183), (768, 879), (8255, 8256)]
def inRanges (l : List (Int × Int)) (r : Int) : Bool := l.any fun p => decide (p.1 ≤ r ∧ r ≤ p.2)
def nameStart (r : Int) : Bool := inRanges startRanges r
def nameChar (r : Int) : Bool := inRanges moreRanges r || nameStart r

def nsLetter (r : Int) : Bool := decide ((65 ≤ r ∧ r ≤ 90) ∨ (97 ≤ r ∧ r ≤ 122) ∨ r = 95)
def nsLow (r : Int) : Bool := decide ((192 ≤ r ∧ r ≤ 767 ∧ r ≠ 215 ∧ r ≠ 247) ∨ (880 ≤ r ∧ r ≤ 8191 ∧ r ≠ 894))
def nsMiddle (r : Int) : Bool := decide (r = 8204 ∨ r = 8205 ∨ (8304 ≤ r ∧ r ≤ 8591) ∨ (11264 ≤ r ∧ r ≤ 12271) ∨ (12289 ≤ r ∧ r ≤ 55295))
def nsHigh (r : Int) : Bool := decide ((63744 ≤ r ∧ r ≤ 64975) ∨ (65008 ≤ r ∧ r ≤ 65533) ∨ (65536 ≤ r ∧ r ≤ 983039))
theorem nameStart_eq (r : Int) : nameStart r = (nsLetter r || nsLow r || nsMiddle r || nsHigh r) := by
  rw [Bool.eq_iff_iff]
  simp only [nameStart, inRanges, startRanges, nsLetter, nsLow, nsMiddle, nsHigh, List.any_cons, List.any_nil, Bool.or_eq_true, decide_eq_true_eq, Bool.or_false]
  omega
theorem more_iff (r : Int) : inRanges moreRanges r = true ↔ ((48 ≤ r ∧ r ≤ 57) ∨ r = 45 ∨ r = 46 ∨ r = 183 ∨ (768 ≤ r ∧ r ≤ 879) ∨ r = 8255 ∨ r = 8256) := by
  simp only [inRanges, moreRanges, List.any_cons, List.any_nil, Bool.or_eq_true, decide_eq_true_eq, Bool.or_false]
  omega
theorem nameChar_of_start {r : Int} (h : nameStart r = true) : nameChar r = true := by simp [nameChar, h]
theorem nameStart_pos {r : Int} (h : nameStart r = true) : 65 ≤ r ∧ r ≤ 983039 ∧ isChar r = true := by
  simp only [nameStart, inRanges, startRanges, List.any_cons, List.any_nil, Bool.or_eq_true, decide_eq_true_eq, Bool.or_false] at h
  rw [isChar_iff]
  omega

/-- Offset and error of the first byte that is no part of an XML character. -/
def chkS : Nat → Bytes → Nat → Nat × Nat
  | _, [], at_ => (at_, 0)
  | k + 1, _ :: t, at_ => chkS k t (at_ + 1)
  | 0, a :: t, at_ =>
    if (dec (a :: t)).2 = 0 then (at_, 5)
    else if isChar (dec (a :: t)).1 then chkS ((dec (a :: t)).2 - 1) t (at_ + 1)
    else (at_, 6)
def check (l : Bytes) : Nat × Nat := chkS 0 l 0

theorem chkS_skip : ∀ (k : Nat) (l : Bytes) (at_ : Nat), k ≤ l.length → chkS k l at_ = chkS 0 (l.drop k) (at_ + k)
  | 0, l, at_, _ => by simp
  | k + 1, [], _, h => by simp at h
  | k + 1, a :: t, at_, h => by
    rw [chkS, chkS_skip k t (at_ + 1) (by simpa using h)]
    simp only [List.drop_succ_cons]
    rw [show at_ + 1 + k = at_ + (k + 1) by omega]
theorem chk_bad {l : Bytes} {at_ : Nat} (h0 : l ≠ []) (h : (dec l).2 = 0) : chkS 0 l at_ = (at_, 5) := by
  cases l with
  | nil => exact absurd rfl h0
  | cons a t => simp [chkS, h]
theorem chk_char {l : Bytes} {at_ : Nat} (h0 : l ≠ []) (h : (dec l).2 ≠ 0) (hc : isChar (dec l).1 = false) : chkS 0 l at_ = (at_, 6) := by
  cases l with
  | nil => exact absurd rfl h0
  | cons a t => simp [chkS, h, hc]
theorem chk_next {l : Bytes} {at_ : Nat} (h0 : l ≠ []) (h : (dec l).2 ≠ 0) (hc : isChar (dec l).1 = true) : chkS 0 l at_ = chkS 0 (l.drop (dec l).2) (at_ + (dec l).2) := by
  cases l with
  | nil => exact absurd rfl h0
  | cons a t =>
    have hl := (dec_le (a :: t)).1
    rw [chkS, if_neg h, if_pos hc, chkS_skip _ _ _ (by simp at hl; omega)]
    obtain ⟨k, hk⟩ : ∃ k, (dec (a :: t)).2 = k + 1 := ⟨(dec (a :: t)).2 - 1, by omega⟩
    rw [hk]
    simp only [Nat.add_sub_cancel, List.drop_succ_cons]
    rw [show at_ + 1 + k = at_ + (k + 1) by omega]

/-! The reference's way to decode: encode what each length would yield. -/
def rp0 (l : Bytes) (n : Nat) : Nat :=
  if n = 2 then (l.getD 0 0).toNat % 32 else if n = 3 then (l.getD 0 0).toNat % 16 else if n = 4 then (l.getD 0 0).toNat % 8 else (l.getD 0 0).toNat
def rp (l : Bytes) (n : Nat) : Nat → Nat
  | 0 => rp0 l n
  | i + 1 => rp l n i * 64 + (l.getD (i + 1) 0).toNat % 64
def rv (l : Bytes) (n : Nat) : Nat := rp l n (n - 1)
theorem rp_le (l : Bytes) (n i : Nat) (h : i ≤ 3) : rp l n i < 67108864 := by
  have h0 : rp0 l n < 256 := by have := u8_lt (l.getD 0 0); unfold rp0; repeat' split
                                all_goals omega
  match i, h with
  | 0, _ => simp only [rp]; omega
  | 1, _ => simp only [rp]; omega
  | 2, _ => simp only [rp]; omega
  | 3, _ => simp only [rp]; omega
def encI (r : Int) : Bytes := if r < 0 then [] else enc r.toNat
theorem encI_nat (n : Nat) : encI (n : Int) = enc n := by simp [encI, Int.not_lt.2 (Int.natCast_nonneg n)]

theorem ref_hit {l : Bytes} {n : Nat} (h1 : 1 ≤ n) (h2 : n ≤ l.length) (h : enc (rv l n) = l.take n) : dec l = (rv l n, n) := by
  have ho : okRune (rv l n) := by
    by_cases ho : okRune (rv l n)
    · exact ho
    · exfalso
      have : enc (rv l n) = [] := by simp [enc, ho]
      rw [this] at h
      have := congrArg List.length h
      simp at this
      omega
  have := enc_dec ho (l.drop n)
  rw [h, List.take_append_drop] at this
  rw [this, List.length_take, Nat.min_eq_left h2]
theorem dec_cases (l : Bytes) : dec l = (0, 0) ∨ ((dec l).2 ≠ 0 ∧ rv l (dec l).2 = (dec l).1) := by
  match l with
  | [] => exact .inl rfl
  | a :: t =>
    by_cases h1 : a.toNat < 128
    · refine .inr ?_
      simp [dec, h1, rv, rp, rp0]
    · match t with
      | [] => refine .inl ?_; simp [dec, h1]
      | b :: t =>
        by_cases h2 : a.toNat / 32 = 6
        · by_cases h3 : b.toNat / 64 = 2 ∧ 128 ≤ a.toNat % 32 * 64 + b.toNat % 64
          · refine .inr ?_
            simp [dec, h1, h2, h3, rv, rp, rp0]
          · refine .inl ?_
            simp [dec, h1, h2, h3]
        · match t with
          | [] => refine .inl ?_; simp [dec, h1, h2]
          | c :: t =>
            by_cases h5 : a.toNat / 16 = 14
            · by_cases h6 : b.toNat / 64 = 2 ∧ c.toNat / 64 = 2 ∧ 2048 ≤ a.toNat % 16 * 4096 + b.toNat % 64 * 64 + c.toNat % 64 ∧
                (a.toNat % 16 * 4096 + b.toNat % 64 * 64 + c.toNat % 64 < 55296 ∨ 57344 ≤ a.toNat % 16 * 4096 + b.toNat % 64 * 64 + c.toNat % 64)
              · refine .inr ?_
                simp only [dec, h1, h2, h5, if_false, if_true]
                rw [if_pos h6]
                simp [rv, rp, rp0]
                omega
              · refine .inl ?_
                simp only [dec, h1, h2, h5, if_false, if_true]
                rw [if_neg h6]
            · match t with
              | [] => refine .inl ?_; simp [dec, h1, h2, h5]
              | d :: t =>
                by_cases h10 : a.toNat / 8 = 30 ∧ b.toNat / 64 = 2 ∧ c.toNat / 64 = 2 ∧ d.toNat / 64 = 2 ∧
                    65536 ≤ a.toNat % 8 * 262144 + b.toNat % 64 * 4096 + c.toNat % 64 * 64 + d.toNat % 64 ∧
                    a.toNat % 8 * 262144 + b.toNat % 64 * 4096 + c.toNat % 64 * 64 + d.toNat % 64 ≤ 1114111
                · refine .inr ?_
                  simp only [dec, h1, h2, h5, if_false]
                  rw [if_pos h10]
                  simp [rv, rp, rp0]
                  omega
                · refine .inl ?_
                  simp only [dec, h1, h2, h5, if_false]
                  rw [if_neg h10]
theorem dec_zero {l : Bytes} (h : (dec l).2 = 0) : dec l = (0, 0) := (dec_cases l).elim id fun h' => absurd h h'.1
theorem dec_rv {l : Bytes} (h : (dec l).2 ≠ 0) : rv l (dec l).2 = (dec l).1 := (dec_cases l).elim (fun e => absurd (by rw [e]) h) fun h' => h'.2
theorem ref_miss {l : Bytes} (h : ∀ n, 1 ≤ n → n ≤ 4 → n ≤ l.length → enc (rv l n) ≠ l.take n) : dec l = (0, 0) := by
  by_cases h0 : (dec l).2 = 0
  · exact dec_zero h0
  · exfalso
    have hl := dec_le l
    exact h _ (by omega) hl.2 hl.1 (by rw [dec_rv h0]; exact (dec_enc l h0).2)
end Go.Proofs.YthlppbpccldikaaDoor
set_option linter.unusedVariables false
namespace Go.Proofs.YthlppbpccldikaaDoor

/-- What replaces a byte; empty: nothing does. -/
def rep (attr : Bool) (c : UInt8) : Bytes :=
  if c.toNat = 38 then [38, 97, 109, 112, 59]
  else if c.toNat = 60 then [38, 108, 116, 59]
  else if c.toNat = 62 then [38, 103, 116, 59]
  else if c.toNat = 13 then [38, 35, 49, 51, 59]
  else if attr = true ∧ c.toNat = 34 then [38, 113, 117, 111, 116, 59]
  else if attr = true ∧ c.toNat = 9 then [38, 35, 57, 59]
  else if attr = true ∧ c.toNat = 10 then [38, 35, 49, 48, 59]
  else []
def escOne (attr : Bool) (c : UInt8) : Bytes := if rep attr c = [] then [c] else rep attr c
def esc (attr : Bool) (l : Bytes) : Bytes := l.flatMap (escOne attr)

theorem rep_38 {a : Bool} {c : UInt8} (h : c.toNat = 38) : rep a c = [38, 97, 109, 112, 59] := by simp [rep, h]
theorem rep_60 {a : Bool} {c : UInt8} (h : c.toNat = 60) : rep a c = [38, 108, 116, 59] := by simp [rep, h]
theorem rep_62 {a : Bool} {c : UInt8} (h : c.toNat = 62) : rep a c = [38, 103, 116, 59] := by simp [rep, h]
theorem rep_13 {a : Bool} {c : UInt8} (h : c.toNat = 13) : rep a c = [38, 35, 49, 51, 59] := by simp [rep, h]
theorem rep_34 {a : Bool} {c : UInt8} (ha : a = true) (h : c.toNat = 34) : rep a c = [38, 113, 117, 111, 116, 59] := by simp [rep, h, ha]
theorem rep_9 {a : Bool} {c : UInt8} (ha : a = true) (h : c.toNat = 9) : rep a c = [38, 35, 57, 59] := by simp [rep, h, ha]
theorem rep_10 {a : Bool} {c : UInt8} (ha : a = true) (h : c.toNat = 10) : rep a c = [38, 35, 49, 48, 59] := by simp [rep, h, ha]
theorem rep_no {a : Bool} {c : UInt8} (h1 : c.toNat ≠ 38) (h2 : c.toNat ≠ 60) (h3 : c.toNat ≠ 62) (h4 : c.toNat ≠ 13)
    (h5 : a = true → c.toNat ≠ 34 ∧ c.toNat ≠ 9 ∧ c.toNat ≠ 10) : rep a c = [] := by
  unfold rep
  rw [if_neg h1, if_neg h2, if_neg h3, if_neg h4, if_neg (fun h => (h5 h.1).1 h.2), if_neg (fun h => (h5 h.1).2.1 h.2), if_neg (fun h => (h5 h.1).2.2 h.2)]
theorem escOne_of {a : Bool} {c : UInt8} {x : Bytes} (h : rep a c = x) (hx : x ≠ []) : escOne a c = x := by
  unfold escOne; rw [h, if_neg hx]
theorem escOne_no {a : Bool} {c : UInt8} (h : rep a c = []) : escOne a c = [c] := by
  unfold escOne; rw [if_pos h]
theorem esc_append (a : Bool) (x y : Bytes) : esc a (x ++ y) = esc a x ++ esc a y := by simp [esc]
theorem esc_take {a : Bool} {l : Bytes} {i : Nat} (h : i < l.length) : esc a (l.take (i + 1)) = esc a (l.take i) ++ escOne a l[i] := by
  rw [List.take_succ_eq_append_getElem h, esc_append]
  simp [esc]
theorem rep_len (a : Bool) (c : UInt8) : (rep a c).length ≤ 6 := by
  unfold rep; repeat' split
  all_goals simp
theorem escOne_len (a : Bool) (c : UInt8) : (escOne a c).length ≤ 6 := by
  unfold escOne; split
  · simp
  · exact rep_len a c
theorem esc_len (a : Bool) (l : Bytes) : (esc a l).length ≤ 6 * l.length := by
  induction l with
  | nil => simp [esc]
  | cons c l ih =>
    have := escOne_len a c
    simp only [esc, List.flatMap_cons, List.length_append, List.length_cons] at ih ⊢
    omega
theorem esc_take_len (a : Bool) (l : Bytes) (i : Nat) : (esc a (l.take i)).length ≤ 6 * l.length := by
  have := esc_len a (l.take i)
  have : (l.take i).length ≤ l.length := by simp; omega
  omega
end Go.Proofs.YthlppbpccldikaaDoor
set_option linter.unusedVariables false
namespace Go.Proofs.YthlppbpccldikaaDoor

/-- The value of a hexadecimal digit, or 16. -/
def hexd (c : UInt8) : Nat :=
  if 48 ≤ c.toNat ∧ c.toNat ≤ 57 then c.toNat - 48
  else if 97 ≤ c.toNat ∧ c.toNat ≤ 102 then c.toNat - 87
  else if 65 ≤ c.toNat ∧ c.toNat ≤ 70 then c.toNat - 55
  else 16
theorem hexd_le (c : UInt8) : hexd c ≤ 16 := by
  unfold hexd; repeat' split
  all_goals omega
/-- The number with these digits, read on from v. -/
def valS (base : Nat) : Nat → Bytes → Option Nat
  | v, [] => some v
  | v, c :: l => if hexd c < base then valS base (v * base + hexd c) l else none
/-- The rune that digits stand for. -/
def numRef (base : Nat) (l : Bytes) : Option Nat := if l = [] then none else (valS base 0 l).bind fun v => if isChar v then some v else none
def bLt : Bytes := [108, 116]
def bGt : Bytes := [103, 116]
def bAmp : Bytes := [97, 109, 112]
def bApos : Bytes := [97, 112, 111, 115]
def bQuot : Bytes := [113, 117, 111, 116]
/-- The rune that the text between '&' and ';' stands for. -/
def nameRef (x : Bytes) : Option Nat :=
  if x = bLt then some 60 else if x = bGt then some 62 else if x = bAmp then some 38 else if x = bApos then some 39 else if x = bQuot then some 34
  else match x with
    | 35 :: 120 :: h => numRef 16 h
    | 35 :: d => numRef 10 d
    | _ => none
/-- What lies ahead of the first ';'. -/
def upto (c : UInt8) : Bytes → Option Bytes
  | [] => none
  | a :: l => if a = c then some [] else (upto c l).map (a :: ·)
/-- The reference at the head of a text behind its '&': its rune, and the length of its name. -/
def tailRef (t : Bytes) : Option (Nat × Nat) := (upto 59 t).bind fun x => (nameRef x).map fun r => (r, x.length)
/-- What Reference returns. -/
def refAt (l : Bytes) (at_ : Int) : Int × Int × Int :=
  if 0 ≤ at_ ∧ at_ < l.length ∧ l[at_.toNat]? = some 38 then
    match tailRef (l.drop (at_.toNat + 1)) with
    | some (r, n) => (r, at_ + n + 2, 0)
    | none => (0, 0, 12)
  else (0, 0, 12)
/-- A text with its references replaced; or where the first wrong one stands. The first number: how many bytes belong to a reference that has been read. -/
def unescS : Nat → Bytes → Nat → Except Nat Bytes
  | _, [], _ => .ok []
  | k + 1, _ :: t, n => unescS k t (n + 1)
  | 0, c :: t, n =>
    if c = 38 then
      match tailRef t with
      | none => .error n
      | some (r, m) => (unescS (m + 1) t (n + 1)).map (enc r ++ ·)
    else (unescS 0 t (n + 1)).map ([c] ++ ·)
def unesc (l : Bytes) : Except Nat Bytes := unescS 0 l 0

theorem valS_append (base : Nat) : ∀ (x y : Bytes) (v : Nat), valS base v (x ++ y) = (valS base v x).bind fun u => valS base u y
  | [], _, _ => rfl
  | c :: x, y, v => by
    rw [List.cons_append, valS, valS]
    split
    · exact valS_append base x y _
    · rfl
theorem isChar_cap {v : Nat} : isChar (min v 1114112 : Nat) = isChar v := by
  by_cases h : v ≤ 1114112
  · rw [Nat.min_eq_left h]
  · rw [Nat.min_eq_right (by omega), isChar_no (by omega), isChar_no (by omega)]
theorem isChar_cap2 {v : Nat} : isChar (min v 2000000 : Nat) = isChar v := by
  by_cases h : v ≤ 2000000
  · rw [Nat.min_eq_left h]
  · rw [Nat.min_eq_right (by omega), isChar_no (by omega), isChar_no (by omega)]
theorem cap_step (cap base d v : Nat) (hb : 1 ≤ base) : min (min v cap * base + d) cap = min (v * base + d) cap := by
  by_cases h : v ≤ cap
  · rw [Nat.min_eq_left h]
  · have h1 : cap ≤ v := by omega
    rw [Nat.min_eq_right h1]
    have h2 : cap ≤ cap * base := Nat.le_mul_of_pos_right cap hb
    have h3 : v ≤ v * base := Nat.le_mul_of_pos_right v hb
    omega
theorem isChar_ok {v : Nat} (h : isChar v = true) : okRune v := by
  rw [isChar_iff] at h; unfold okRune; omega
theorem numRef_char {base : Nat} {l : Bytes} {r : Nat} (h : numRef base l = some r) : isChar r = true := by
  unfold numRef at h
  split at h
  · cases h
  · cases hv : valS base 0 l with
    | none => rw [hv] at h; cases h
    | some v =>
      rw [hv] at h
      simp only [Option.bind_some] at h
      split at h
      · cases h; assumption
      · cases h
theorem nameRef_char {x : Bytes} {r : Nat} (h : nameRef x = some r) : isChar r = true := by
  unfold nameRef at h
  by_cases h1 : x = bLt
  · rw [if_pos h1] at h; cases h; decide
  rw [if_neg h1] at h
  by_cases h2 : x = bGt
  · rw [if_pos h2] at h; cases h; decide
  rw [if_neg h2] at h
  by_cases h3 : x = bAmp
  · rw [if_pos h3] at h; cases h; decide
  rw [if_neg h3] at h
  by_cases h4 : x = bApos
  · rw [if_pos h4] at h; cases h; decide
  rw [if_neg h4] at h
  by_cases h5 : x = bQuot
  · rw [if_pos h5] at h; cases h; decide
  rw [if_neg h5] at h
  split at h
  · exact numRef_char h
  · exact numRef_char h
  · cases h
theorem upto_some {c : UInt8} : ∀ {l x : Bytes}, upto c l = some x → ∃ r, l = x ++ c :: r ∧ ∀ b ∈ x, b ≠ c
  | [], x, h => by cases h
  | a :: l, x, h => by
    rw [upto] at h
    split at h
    · rename_i e
      cases h; subst e
      exact ⟨l, rfl, by simp⟩
    · rename_i e
      cases hu : upto c l with
      | none => rw [hu] at h; cases h
      | some y =>
        rw [hu] at h
        cases h
        obtain ⟨r, h1, h2⟩ := upto_some hu
        exact ⟨r, by rw [h1]; rfl, fun b hb => by
          rcases List.mem_cons.1 hb with rfl | hb
          · exact e
          · exact h2 b hb⟩
theorem upto_of {c : UInt8} : ∀ {x r : Bytes}, (∀ b ∈ x, b ≠ c) → upto c (x ++ c :: r) = some x
  | [], r, _ => by simp [upto]
  | a :: x, r, h => by
    rw [List.cons_append, upto, if_neg (h a (by simp)), upto_of (fun b hb => h b (by simp [hb]))]; rfl
theorem upto_none {c : UInt8} : ∀ {l : Bytes}, (∀ b ∈ l, b ≠ c) → upto c l = none
  | [], _ => rfl
  | a :: l, h => by rw [upto, if_neg (h a (by simp)), upto_none (fun b hb => h b (by simp [hb]))]; rfl
theorem tailRef_len {t : Bytes} {r m : Nat} (h : tailRef t = some (r, m)) : m + 1 ≤ t.length := by
  unfold tailRef at h
  cases hu : upto 59 t with
  | none => rw [hu] at h; cases h
  | some x =>
    rw [hu] at h
    simp only [Option.bind_some] at h
    cases hn : nameRef x with
    | none => rw [hn] at h; cases h
    | some q =>
      rw [hn] at h
      simp only [Option.map_some, Option.some.injEq, Prod.mk.injEq] at h
      obtain ⟨r', h1, _⟩ := upto_some hu
      rw [h1, ← h.2]; simp
theorem tailRef_char {t : Bytes} {r m : Nat} (h : tailRef t = some (r, m)) : isChar r = true := by
  unfold tailRef at h
  cases hu : upto 59 t with
  | none => rw [hu] at h; cases h
  | some x =>
    rw [hu] at h
    simp only [Option.bind_some] at h
    cases hn : nameRef x with
    | none => rw [hn] at h; cases h
    | some q =>
      rw [hn] at h
      simp only [Option.map_some, Option.some.injEq, Prod.mk.injEq] at h
      rw [← h.1]; exact nameRef_char hn
theorem unescS_skip : ∀ (k : Nat) (l : Bytes) (n : Nat), k ≤ l.length → unescS k l n = unescS 0 (l.drop k) (n + k)
  | 0, l, n, _ => by simp
  | k + 1, [], n, h => by simp at h
  | k + 1, a :: l, n, h => by
    rw [unescS, unescS_skip k l (n + 1) (by simpa using h), List.drop_succ_cons, show n + 1 + k = n + (k + 1) by omega]
/-- At an ordinary byte. -/
theorem unesc_byte {l : Bytes} {n : Nat} (h : n < l.length) (hc : l[n] ≠ 38) : unescS 0 (l.drop n) n = (unescS 0 (l.drop (n + 1)) (n + 1)).map ([l[n]] ++ ·) := by
  rw [List.drop_eq_getElem_cons h, unescS, if_neg hc]
/-- At a reference. -/
theorem unesc_bad {l : Bytes} {n : Nat} (h : n < l.length) (hc : l[n] = 38) (hr : tailRef (l.drop (n + 1)) = none) : unescS 0 (l.drop n) n = .error n := by
  rw [List.drop_eq_getElem_cons h, unescS, if_pos hc, hr]
theorem unesc_ref {l : Bytes} {n r m : Nat} (h : n < l.length) (hc : l[n] = 38) (hr : tailRef (l.drop (n + 1)) = some (r, m)) : unescS 0 (l.drop n) n = (unescS 0 (l.drop (n + m + 2)) (n + m + 2)).map (enc r ++ ·) := by
  have hl := tailRef_len hr
  rw [List.drop_eq_getElem_cons h, unescS, if_pos hc, hr]
  simp only
  rw [unescS_skip (m + 1) _ _ hl, List.drop_drop, show n + 1 + (m + 1) = n + m + 2 by omega]
theorem refAt_in {l : Bytes} {n : Nat} (h : n < l.length) (hc : l[n] = 38) : refAt l n = match tailRef (l.drop (n + 1)) with | some (r, m) => ((r : Int), (n : Int) + m + 2, 0) | none => (0, 0, 12) := by
  unfold refAt
  rw [if_pos ⟨by omega, by omega, by simp [h, hc]⟩, Int.toNat_natCast]
theorem map_map_ex {a b : Bytes} {x : Except Nat Bytes} : (x.map (b ++ ·)).map (a ++ ·) = x.map ((a ++ b) ++ ·) := by
  cases x with
  | error e => rfl
  | ok y => simp [Except.map]
end Go.Proofs.YthlppbpccldikaaDoor
set_option linter.unusedVariables false
namespace Go.Proofs.YthlppbpccldikaaDoor

/-- A string's part stands at a place. -/
def hasAt (l : Bytes) (n : Nat) (t : Bytes) : Bool := t.isPrefixOf (l.drop n)
theorem hasAt_take {l : Bytes} {n : Nat} {t : Bytes} : hasAt l n t = ((l.drop n).take t.length == t) := by
  unfold hasAt
  rw [Bool.eq_iff_iff, List.isPrefixOf_iff_prefix, List.prefix_iff_eq_take, beq_iff_eq, eq_comm]
theorem hasAt_le {l : Bytes} {n : Nat} {t : Bytes} (h : hasAt l n t = true) : t.length + n ≤ l.length ∨ t = [] := by
  unfold hasAt at h
  rw [List.isPrefixOf_iff_prefix] at h
  have := h.length_le
  rw [List.length_drop] at this
  by_cases h0 : t = []
  · exact .inr h0
  · have := List.length_pos_iff.2 h0
    left; omega
/-- How far away the next one is. -/
def findS (t : Bytes) : Bytes → Option Nat
  | [] => if t = [] then some 0 else none
  | a :: x => if t.isPrefixOf (a :: x) = true then some 0 else (findS t x).map (· + 1)
theorem findS_le {t : Bytes} : ∀ {x : Bytes} {k : Nat}, findS t x = some k → k + t.length ≤ x.length
  | [], k, h => by
    rw [findS] at h
    split at h
    · rename_i e; cases h; subst e; simp
    · cases h
  | a :: x, k, h => by
    rw [findS] at h
    split at h
    · rename_i e
      cases h
      rw [List.isPrefixOf_iff_prefix] at e
      have := e.length_le
      omega
    · cases hf : findS t x with
      | none => rw [hf] at h; cases h
      | some j =>
        rw [hf] at h
        cases h
        have := findS_le hf
        simp only [List.length_cons]
        omega
theorem findS_hit {t x : Bytes} (h : t.isPrefixOf x = true) : findS t x = some 0 := by
  cases x with
  | nil => rw [findS, if_pos (by cases t; rfl; simp at h)]
  | cons a x => rw [findS, if_pos h]
theorem findS_next {l t : Bytes} {n : Nat} (hn : n < l.length) (h : hasAt l n t = false) : findS t (l.drop n) = (findS t (l.drop (n + 1))).map (· + 1) := by
  unfold hasAt at h
  rw [List.drop_eq_getElem_cons hn] at h ⊢
  rw [findS, if_neg (by rw [h]; decide)]
theorem findS_short {t : Bytes} : ∀ {x : Bytes}, x.length < t.length → findS t x = none
  | [], h => by rw [findS, if_neg (by rintro rfl; simp at h)]
  | a :: x, h => by
    simp only [List.length_cons] at h
    rw [findS, if_neg, findS_short (by omega)]
    · rfl
    · intro e
      rw [List.isPrefixOf_iff_prefix] at e
      have := e.length_le
      simp at this; omega

/-- White space. -/
def isSp (c : UInt8) : Bool := decide (c.toNat = 32 ∨ c.toNat = 9 ∨ c.toNat = 10 ∨ c.toNat = 13)
def run (p : UInt8 → Bool) : Bytes → Nat
  | [] => 0
  | c :: x => if p c = true then run p x + 1 else 0
theorem run_le (p : UInt8 → Bool) : ∀ x : Bytes, run p x ≤ x.length
  | [] => Nat.le_refl _
  | c :: x => by
    have := run_le p x
    rw [run]; split <;> simp <;> omega
theorem run_yes {p : UInt8 → Bool} {l : Bytes} {n : Nat} (hn : n < l.length) (h : p l[n] = true) : run p (l.drop n) = run p (l.drop (n + 1)) + 1 := by
  rw [List.drop_eq_getElem_cons hn, run, if_pos h]
theorem run_no {p : UInt8 → Bool} {l : Bytes} {n : Nat} (hn : n < l.length) (h : p l[n] = false) : run p (l.drop n) = 0 := by
  rw [List.drop_eq_getElem_cons hn, run, if_neg (by rw [h]; decide)]
theorem run_end (p : UInt8 → Bool) (l : Bytes) : run p (l.drop l.length) = 0 := by rw [List.drop_length]; rfl
/-- The place behind white space. -/
def spEnd (l : Bytes) (n : Nat) : Nat := n + run isSp (l.drop n)
theorem spEnd_ge (l : Bytes) (n : Nat) : n ≤ spEnd l n := by unfold spEnd; omega
theorem spEnd_le {l : Bytes} {n : Nat} (h : n ≤ l.length) : spEnd l n ≤ l.length := by
  have := run_le isSp (l.drop n)
  rw [List.length_drop] at this
  unfold spEnd; omega

end Go.Proofs.YthlppbpccldikaaDoor
