/-
  Small laws on memory over this translation: a slice of bytes turned into a string.
-/
import Derived.Test.YtooabnmmgmmklaaDoorBuild
set_option linter.unusedVariables false
namespace Go.Proofs.YtooabnmmgmmklaaDoor
open Go.RowKit

/-! How the walk reads a string that is given by its list of bytes. -/
@[go_sem] theorem S_size (l : Bytes) : (S l).size = l.length := by simp [S, ByteArray.size]
@[go_sem] theorem S_toList (l : Bytes) : (S l).toList = l := ByteArray.toList_mk l
@[go_sem] theorem S_data (l : Bytes) : (S l).data.toList = l := by simp [S]
@[go_sem] theorem S_get (l : Bytes) (i : Nat) (h : i < (S l).size) : (S l)[i]'h = l[i]'(by rw [S_size] at h; exact h) := by
  simp only [S, ByteArray.getElem_eq_getElem_data]
  rfl
theorem S_extract (l : Bytes) (i j : Nat) : (S l).extract i j = S ((l.take j).drop i) := by
  have := Lib.extract_eq (S l) i j
  rw [S_data] at this
  rw [this, List.drop_take]
  rfl
@[go_sem] theorem S_extract_cut (l : Bytes) (i j : Nat) : (S l).extract i j = S ((l.drop i).take (j - i)) := by
  rw [S_extract, List.drop_take]
@[go_sem high] theorem S_extract_from (l : Bytes) (i : Nat) : (S l).extract i l.length = S (l.drop i) := by
  rw [S_extract, List.take_length]
@[go_sem high] theorem S_extract_to (l : Bytes) (j : Nat) : (S l).extract 0 j = S (l.take j) := by
  rw [S_extract, List.drop_zero]
@[go_sem] theorem S_append (a b : Bytes) : S a ++ S b = S (a ++ b) := ByteArray.mk_append_mk a b
@[go_sem] theorem mk_append_S (a b : Bytes) : ByteArray.mk a.toArray ++ S b = S (a ++ b) := ByteArray.mk_append_mk a b
@[go_sem] theorem S_append_mk (a b : Bytes) : S a ++ ByteArray.mk b.toArray = S (a ++ b) := ByteArray.mk_append_mk a b
@[go_sem] theorem wrap64_byte (b : UInt8) : wrap64 (b.toNat : Int) = b.toNat := IntWalk.wrap64_in _ (by have := u8_lt b; constructor <;> omega)
theorem S_data' (s : ByteArray) : S s.data.toList = s := by simp [S]
theorem S_inj {a b : Bytes} (h : S a = S b) : a = b := by
  have := congrArg (fun s : ByteArray => s.data.toList) h
  simpa [S] using this

theorem foldl_push (ns : List UInt8) : ∀ acc : ByteArray, (ns.map fun b => (b.toNat : Int)).foldl (fun r (n : Int) => r.push (UInt8.ofNat n.toNat)) acc = ⟨(acc.data.toList ++ ns).toArray⟩ := by
  induction ns with
  | nil => intro acc; simp
  | cons b ns ih =>
    intro acc
    simp only [List.map_cons, List.foldl_cons, Int.toNat_natCast, UInt8.ofNat_toNat]
    rw [ih]
    simp [ByteArray.push]
theorem run_bytes_string (w : World) (a : Addr) (l : Bytes) (cap : Nat) (h : ∀ j x, l[j]? = some x → w.cell? (a.add j) = some (.int .u8 x.toNat)) :
    (convert 38 9 (.slice (some a) l.length cap)).run Tryd.prog w = .ok (.string (S l)) w := by
  rw [run_convert_bytes_string w _ _ 5 _ _ _ Tryd.underlying38 Tryd.underlying5 Tryd.underlying9]
  rw [run_bytesToString w a l.length cap (l.map fun b => (b.toNat : Int))]
  · rw [foldl_push]; rfl
  · have := run_loadCells_list (P := Tryd.prog) (w := w) a (l.map fun b => Value.int .u8 b.toNat) (fun j v hj => by
      rw [List.getElem?_map, Option.map_eq_some_iff] at hj
      obtain ⟨x, hx, rfl⟩ := hj
      exact h j x hx)
    simp only [List.length_map] at this
    rw [this]
    simp
theorem run_bytes_nil (w : World) : (convert 38 9 (.slice none 0 0)).run Tryd.prog w = .ok (.string (S [])) w := by
  rw [run_convert_bytes_string w _ _ 5 _ _ _ Tryd.underlying38 Tryd.underlying5 Tryd.underlying9]
  simp [Conv.bytesToString, S, Sem.run_pure]
  rfl
theorem byte_int {x : Int} (h : 0 ≤ x ∧ x ≤ 255) : Value.int .u8 x = .int .u8 ((UInt8.ofNat x.toNat).toNat) := by
  rw [u8_of (by omega), Int.toNat_of_nonneg h.1]
theorem run_new_bytes (w : World) (xs : List Int) (n : Nat) (hn : xs.length = n) (h : ∀ x ∈ xs, 0 ≤ x ∧ x ≤ 255) :
    (convert 38 9 (.slice (some ⟨w.heap.size, 0, none⟩) n n)).run Tryd.prog (w.alloc (.cells (xs.map (Value.int .u8)).toArray 5)) =
      .ok (.string (S (xs.map fun x => UInt8.ofNat x.toNat))) (w.alloc (.cells (xs.map (Value.int .u8)).toArray 5)) := by
  subst hn
  have := run_bytes_string (w.alloc (.cells (xs.map (Value.int .u8)).toArray 5)) ⟨w.heap.size, 0, none⟩ (xs.map fun x => UInt8.ofNat x.toNat) xs.length (fun j x hj => by
    rw [List.getElem?_map, Option.map_eq_some_iff] at hj
    obtain ⟨y, hy, rfl⟩ := hj
    have hm := List.mem_of_getElem? hy
    rw [show (⟨w.heap.size, 0, none⟩ : Addr).add j = ⟨w.heap.size, j, none⟩ by unfold Addr.add; split <;> simp_all]
    rw [Lib.cell_of_heap (heap_alloc_new w _)]
    simp only [List.getElem?_toArray, List.getElem?_map, hy, Option.map_some]
    rw [byte_int (h y hm)])
  simpa using this
theorem run_new1 (w : World) (a : Int) (h : 0 ≤ a ∧ a ≤ 255) :
    (convert 38 9 (.slice (some ⟨w.heap.size, 0, none⟩) 1 1)).run Tryd.prog (w.alloc (.cells #[.int .u8 a] 5)) =
      .ok (.string (S [UInt8.ofNat a.toNat])) (w.alloc (.cells #[.int .u8 a] 5)) := run_new_bytes w [a] 1 rfl (by simpa using h)
theorem run_new2 (w : World) (a b : Int) (h : 0 ≤ a ∧ a ≤ 255) (h2 : 0 ≤ b ∧ b ≤ 255) :
    (convert 38 9 (.slice (some ⟨w.heap.size, 0, none⟩) 2 2)).run Tryd.prog (w.alloc (.cells #[.int .u8 a, .int .u8 b] 5)) =
      .ok (.string (S [UInt8.ofNat a.toNat, UInt8.ofNat b.toNat])) (w.alloc (.cells #[.int .u8 a, .int .u8 b] 5)) := run_new_bytes w [a, b] 2 rfl (by simp; omega)
theorem run_new3 (w : World) (a b c : Int) (h : 0 ≤ a ∧ a ≤ 255) (h2 : 0 ≤ b ∧ b ≤ 255) (h3 : 0 ≤ c ∧ c ≤ 255) :
    (convert 38 9 (.slice (some ⟨w.heap.size, 0, none⟩) 3 3)).run Tryd.prog (w.alloc (.cells #[.int .u8 a, .int .u8 b, .int .u8 c] 5)) =
      .ok (.string (S [UInt8.ofNat a.toNat, UInt8.ofNat b.toNat, UInt8.ofNat c.toNat])) (w.alloc (.cells #[.int .u8 a, .int .u8 b, .int .u8 c] 5)) := run_new_bytes w [a, b, c] 3 rfl (by simp; omega)
theorem run_new4 (w : World) (a b c d : Int) (h : 0 ≤ a ∧ a ≤ 255) (h2 : 0 ≤ b ∧ b ≤ 255) (h3 : 0 ≤ c ∧ c ≤ 255) (h4 : 0 ≤ d ∧ d ≤ 255) :
    (convert 38 9 (.slice (some ⟨w.heap.size, 0, none⟩) 4 4)).run Tryd.prog (w.alloc (.cells #[.int .u8 a, .int .u8 b, .int .u8 c, .int .u8 d] 5)) =
      .ok (.string (S [UInt8.ofNat a.toNat, UInt8.ofNat b.toNat, UInt8.ofNat c.toNat, UInt8.ofNat d.toNat])) (w.alloc (.cells #[.int .u8 a, .int .u8 b, .int .u8 c, .int .u8 d] 5)) := run_new_bytes w [a, b, c, d] 4 rfl (by simp; omega)

/-! A slice of bytes that the call has built itself. -/
def Own (B : Nat) (v : Value) (l : Bytes) (w : World) : Prop := w.ownsRow B 5 1 v l.length (Lib.byteCells l)
theorem Own.nil (B : Nat) (w : World) : Own B (.slice none 0 0) [] w := ⟨by simp [Lib.byteCells], .inl ⟨rfl, rfl⟩⟩
theorem Own.below {B : Nat} {v : Value} {l : Bytes} {w w' : World} (h : Own B v l w) (hb : Below w.heap.size w w') : Own B v l w' := by
  obtain ⟨h1, h2⟩ := h
  refine ⟨h1, ?_⟩
  rcases h2 with h2 | ⟨g, cap, cur, hv, hg, hh, r⟩
  · exact .inl h2
  · exact .inr ⟨g, cap, cur, hv, hg, (hb.block g (by
      rcases Nat.lt_or_ge g w.heap.size with h' | h'
      · exact h'
      · rw [Array.getElem?_eq_none h'] at hh; cases hh)).trans hh, r⟩
theorem own_append_str {ops : Array Oper} {rest : List Oper} {o : Oper} {a : Act} {w : World} {Q : Exit → Act → World → Prop} (hgd : o.guard = none) (sl x : Operand)
    (ho : o.op = .call { callee := .builtin .append, args := #[sl, x], argTypes := #[38, 9] })
    (B : Nat) (v : Value) (l m : Bytes) (hs : a.eval sl = v) (h : Own B v l w) (hx : a.eval x = .string (S m)) (hlen : l.length + m.length ≤ 140737488355328) (hB : B ≤ w.heap.size)
    (hK : ∀ v' w', Own B v' (l ++ m) w' → Below B w w' → wpList Tryd.prog ops Q rest (a.put o.dst v') w') : wpList Tryd.prog ops Q (o :: rest) a w := by
  obtain ⟨i0, hi, hz0, hz1, hz2⟩ := info_parts infoByte
  have hsz : (S m).size = m.length := S_size m
  refine Lib.wpList_append_own_string _ hgd sl x 38 9 ho B 5 i0 Tryd.underlying38 Tryd.underlying9 hi hz0 hz1 hz2 v _ _ hs h (S m) hx (by rw [hsz]; unfold maxLen; omega) (by rw [hsz]; omega) hB ?_
  intro v' w' hown hg _
  refine hK v' w' ?_ ((Below.refl _ _).grown hg hB (fun k hk => (h.lt k hk).1))
  unfold Own
  rw [Lib.byteCells_append, List.length_append, ← hsz]
  exact hown
theorem own_append_byte {c : UInt8} {ops : Array Oper} {rest : List Oper} {o : Oper} {a : Act} {w : World} {Q : Exit → Act → World → Prop} (hgd : o.guard = none) (sl x : Operand)
    (ho : o.op = .call { callee := .builtin .append, args := #[sl, x], argTypes := #[38, 38] })
    (B : Nat) (v : Value) (l : Bytes) (hs : a.eval sl = v) (h : Own B v l w) (hx : a.eval x = .slice (some ⟨w.heap.size, 0, none⟩) 1 1) (hlen : l.length + 1 ≤ 140737488355328) (hB : B ≤ w.heap.size)
    (hK : ∀ v' w', Own B v' (l ++ [c]) w' → Below B w w' → wpList Tryd.prog ops Q rest (a.put o.dst v') w') : wpList Tryd.prog ops Q (o :: rest) a (w.alloc (.cells #[.int .u8 c.toNat] 5)) := by
  obtain ⟨i0, hi, hz0, hz1, hz2⟩ := info_parts infoByte
  have hal : Own B v l (w.alloc (.cells #[.int .u8 c.toNat] 5)) := h.below ((Below.refl _ _).alloc (Nat.le_refl _) _)
  refine wpList_append_own _ hgd sl x 38 ho B 5 i0 (.int .u8 0) 1 1 Tryd.underlying38 hi hz0 hz1 hz2 rfl (by decide) v _ _ hs hal ⟨w.heap.size, 0, none⟩ 1 1 [.int .u8 c.toNat] hx rfl ?_ ?_ (by unfold maxLen; omega) (by omega) (by simp; omega) ?_
  · intro j u hj
    match j, hj with
    | 0, hj => simp at hj; subst hj; simp [Addr.add]
  · intro u hu; simp at hu; subst hu; rfl
  intro v' w' hown hg _
  refine hK v' w' ?_ (((Below.refl _ _).alloc hB _).grown hg (by simp; omega) (fun k hk => (h.lt k hk).1))
  unfold Own
  rw [Lib.byteCells_append, List.length_append]
  exact hown
/-- Such a slice turned into a string. -/
theorem own_string {B : Nat} {v : Value} {l : Bytes} {w : World} (h : Own B v l w) : (convert 38 9 v).run Tryd.prog w = .ok (.string (S l)) w := by
  rcases h.2 with ⟨hv, hn⟩ | ⟨g, cap, cur, hv, r⟩
  · have : l = [] := List.eq_nil_of_length_eq_zero hn
    subst this
    rw [hv]
    exact run_bytes_nil w
  · rw [hv]
    refine run_bytes_string w ⟨g, 0, none⟩ l cap (fun j x hj => ?_)
    have := h.cells (g := g) (by rw [hv]; rfl) j (.int .u8 x.toNat) (by simp [Lib.byteCells, hj])
    exact this

/-! 'Upd b w w'': w' is w with new blocks, and writes to block b alone. -/
structure Upd (b : Nat) (w w' : World) : Prop where
  os : w'.os = w.os
  tape : w'.tape = w.tape
  output : w'.output = w.output
  size : w.heap.size ≤ w'.heap.size
  block : ∀ k, k < w.heap.size → k ≠ b → w'.heap[k]? = w.heap[k]?
theorem Upd.refl (b : Nat) (w : World) : Upd b w w := ⟨rfl, rfl, rfl, Nat.le_refl _, fun _ _ _ => rfl⟩
theorem Upd.trans {b : Nat} {w w1 w2 : World} (h : Upd b w w1) (k : Upd b w1 w2) : Upd b w w2 :=
  ⟨k.os.trans h.os, k.tape.trans h.tape, k.output.trans h.output, Nat.le_trans h.size k.size, fun i hi hb => (k.block i (Nat.lt_of_lt_of_le hi h.size) hb).trans (h.block i hi hb)⟩
theorem Upd.of_below {b : Nat} {w w' : World} (h : Below w.heap.size w w') : Upd b w w' := ⟨h.os, h.tape, h.output, h.size, fun k hk _ => h.block k hk⟩
theorem Upd.next {b : Nat} {w w1 w2 : World} (h : Upd b w w1) (k : Below w1.heap.size w1 w2) : Upd b w w2 := h.trans (.of_below k)
theorem Upd.set_ (b i : Nat) (w : World) (v : Value) : Upd b w (w.setCell ⟨b, i, none⟩ v) :=
  ⟨rfl, rfl, rfl, by simp [World.setCell], fun k _ hk => Below.heap_setCell _ _ _ _ hk⟩
theorem Upd.drew {b : Nat} {w w' : World} (h : Upd b w w') : Upd b w w'.drew := ⟨h.os, h.tape, h.output, h.size, h.block⟩
theorem Upd.undrew {b : Nat} {w w' : World} (h : Upd b w.drew w') : Upd b w w' := ⟨h.os, h.tape, h.output, h.size, h.block⟩
theorem Upd.alloc {b : Nat} {w w' : World} (h : Upd b w w') (o : Obj) : Upd b w (w'.alloc o) :=
  h.trans (.of_below ((Below.refl _ _).alloc (Nat.le_refl _) o))
theorem Upd.below {b B : Nat} {w w' : World} (h : Upd b w w') (hb : B ≤ b) (hB : B ≤ w.heap.size) : Below B w w' :=
  ⟨h.os, h.tape, h.output, h.size, fun k hk => h.block k (by omega) (by omega)⟩
theorem below_undrew {B : Nat} {w w' : World} (h : Below B w.drew w') : Below B w w' := ⟨h.os, h.tape, h.output, h.size, h.block⟩
theorem heap_lt {w : World} {g : Nat} {o : Obj} (h : w.heap[g]? = some o) : g < w.heap.size := by
  rcases Nat.lt_or_ge g w.heap.size with h' | h'
  · exact h'
  · rw [Array.getElem?_eq_none h'] at h; cases h

end Go.Proofs.YtooabnmmgmmklaaDoor
