/-
  Several texts in one file, in build order:
  - Walks of chapter 1: which numbers are characters, which may stand in names (program and reference).
  - Walks of chapter 1: the tables of the name characters.
  - Small laws on memory over this translation: a slice of bytes turned into a string.
-/
import Derived.Test.YtclhdppppgjgfaaGreatDoorH0
import Derived.WalkSpells
import Derived.WalkLawsBesides
import Derived.Deep.DeepCutAuto
import Derived.Laws.Rows
import Derived.Shelf.Unicode.DecodeAny
set_option linter.unusedVariables false
namespace Go.Proofs.YtclhdppppgjgfaaGreatDoor
open Go.RowKit


set_option maxHeartbeats 400000 in
theorem refIsChar_any (r : Int) (w : World) :
    Calls Tryz.prog 92 #[.int .i64 r] w fun e w' => e = .returned (.bool (isChar r)) ∧ w = w' := by
  go_enter Tryz.func92, Tryz.ntmps92
  go_wp2
  all_goals go_ret
  all_goals exact ⟨ret_bool (by rw [Bool.eq_iff_iff]; simp [isChar] <;> omega), rfl⟩

set_option maxHeartbeats 400000 in
theorem isChar_any (r : Int) (w : World) :
    Calls Tryz.prog 80 #[.int .i32 r] w fun e w' => e = .returned (.bool (isChar r)) ∧ w = w' := by
  go_enter Tryz.func80, Tryz.ntmps80
  go_wp2
  all_goals go_ret
  all_goals exact ⟨ret_bool (by rw [Bool.eq_iff_iff]; simp [isChar] <;> omega), rfl⟩


set_option maxHeartbeats 1000000 in
set_option maxRecDepth 100000 in
theorem refNameStart_any (r : Int) (w : World) :
    Calls Tryz.prog 102 #[.int .i64 r] w fun e w' => e = .returned (.bool (nameStart r)) ∧ w = w' := by
  rw [nameStart_eq]
  generalize h1 : nsLetter r = b1
  generalize h2 : nsLow r = b2
  generalize h3 : nsMiddle r = b3
  generalize h4 : nsHigh r = b4
  have H1 := Lib.hid h1
  have H2 := Lib.hid h2
  have H3 := Lib.hid h3
  have H4 := Lib.hid h4
  clear h1 h2 h3 h4
  go_enter Tryz.func102, Tryz.ntmps102
  go_upto_region 1 with fail
  go_cut [3] from 7 to 25 (fun s wx => s = .bool b1 ∧ w = wx)
  case first =>
    go_wp2
    all_goals first | go_meet | (subst_vars; go_meet)
    all_goals first | exact ⟨val_bool (by rw [← H1.out, Bool.eq_iff_iff]; simp [nsLetter] <;> omega), rfl⟩ | exact ⟨val_bool (by decide), rfl⟩
  case rest =>
    obtain ⟨rfl, rfl⟩ := hcut
    go_upto_region 2 with fail
    go_cut [4] from 25 to 51 (fun s wx => s = .bool b2 ∧ w = wx)
    case first =>
      go_wp2
      all_goals first | go_meet | (subst_vars; go_meet)
      all_goals first | exact ⟨val_bool (by rw [← H2.out, Bool.eq_iff_iff]; simp [nsLow] <;> omega), rfl⟩ | exact ⟨val_bool (by decide), rfl⟩
    case rest =>
      obtain ⟨rfl, rfl⟩ := hcut
      go_upto_region 3 with fail
      go_cut [5] from 51 to 81 (fun s wx => s = .bool b3 ∧ w = wx)
      case first =>
        go_wp2
        all_goals first | go_meet | (subst_vars; go_meet)
        all_goals first | exact ⟨val_bool (by rw [← H3.out, Bool.eq_iff_iff]; simp [nsMiddle] <;> omega), rfl⟩ | exact ⟨val_bool (by decide), rfl⟩
      case rest =>
        obtain ⟨rfl, rfl⟩ := hcut
        go_upto_region 4 with fail
        go_cut [6] from 81 to 103 (fun s wx => s = .bool b4 ∧ w = wx)
        case first =>
          go_wp2
          all_goals first | go_meet | (subst_vars; go_meet)
          all_goals first | exact ⟨val_bool (by rw [← H4.out, Bool.eq_iff_iff]; simp [nsHigh] <;> omega), rfl⟩ | exact ⟨val_bool (by decide), rfl⟩
        case rest =>
          obtain ⟨rfl, rfl⟩ := hcut
          cases b1 <;> cases b2 <;> cases b3
          all_goals go_wp2
          all_goals go_ret
          all_goals exact ⟨ret_bool (by simp), rfl⟩

set_option maxHeartbeats 1000000 in
theorem refNameChar_any (r : Int) (w : World) :
    Calls Tryz.prog 101 #[.int .i64 r] w fun e w' => e = .returned (.bool (nameChar r)) ∧ w = w' := by
  obtain ⟨b, hb⟩ : ∃ b, nameStart r = b := ⟨_, rfl⟩
  have hc : ∀ w, Calls Tryz.prog 102 #[.int .i64 r] w fun e w' => e = .returned (.bool b) ∧ w = w' := fun w => by rw [← hb]; exact refNameStart_any r w
  have hn : nameChar r = (inRanges moreRanges r || b) := by rw [nameChar, hb]
  rw [hn]
  generalize hm : inRanges moreRanges r = m
  have hmi := more_iff r
  rw [hm] at hmi
  have HM := Lib.hid hmi
  have HC := Lib.hid hc
  clear hb hn hm hmi hc
  cases b
  · go_enter Tryz.func101, Tryz.ntmps101
    go_wp2_with (go_at_call 102; refine (HC.out _).mono ?_; rintro e w' ⟨rfl, rfl⟩)
    all_goals go_ret
    all_goals exact ⟨ret_bool (by have hmi := HM.out; clear HM HC; rw [Bool.eq_iff_iff]; simp [hmi] <;> omega), rfl⟩
  · go_enter Tryz.func101, Tryz.ntmps101
    go_wp2_with (go_at_call 102; refine (HC.out _).mono ?_; rintro e w' ⟨rfl, rfl⟩)
    all_goals go_ret
    all_goals exact ⟨ret_bool (by simp), rfl⟩
end Go.Proofs.YtclhdppppgjgfaaGreatDoor
set_option linter.unusedVariables false
namespace Go.Proofs.YtclhdppppgjgfaaGreatDoor
open Go.RowKit

def startCells : Array Value := #[.int .i32 65, .int .i32 90, .int .i32 95, .int .i32 95, .int .i32 97, .int .i32 122, .int .i32 192, .int .i32 214, .int .i32 216, .int .i32 246, .int .i32 248, .int .i32 767, .int .i32 880, .int .i32 893, .int .i32 895, .int .i32 8191, .int .i32 8204, .int .i32 8205, .int .i32 8304, .int .i32 8591, .int .i32 11264, .int .i32 12271, .int .i32 12289, .int .i32 55295, .int .i32 63744, .int .i32 64975, .int .i32 65008, .int .i32 65533, .int .i32 65536, .int .i32 983039]
def moreCells : Array Value := #[.int .i32 45, .int .i32 46, .int .i32 48, .int .i32 57, .int .i32 183, .int .i32 183, .int .i32 768, .int .i32 879, .int .i32 8255, .int .i32 8256]

/-- The tables of the library and of the program as the start lays them. -/
structure Tabs (w : World) : Prop where
  utf : Lib.Utf8Tabs 1 2 w
  start : ∃ t fr, w.heap[(4 : Nat)]? = some (.cells startCells t fr)
  more : ∃ t fr, w.heap[(3 : Nat)]? = some (.cells moreCells t fr)
theorem lt_of_heap {w : World} {g : Nat} {o : Obj} (h : w.heap[g]? = some o) : g < w.heap.size := by
  rcases Nat.lt_or_ge g w.heap.size with h' | h'
  · exact h'
  · rw [Array.getElem?_eq_none h'] at h; cases h
theorem lt_of_cell {w : World} {a : Addr} {v : Value} (h : w.cell? a = some v) : a.block < w.heap.size := by
  rcases Nat.lt_or_ge a.block w.heap.size with h' | h'
  · exact h'
  · simp [World.cell?, Array.getElem?_eq_none h'] at h
theorem Tabs.below {w w' : World} {B : Nat} (h : Tabs w) (hb : Below B w w') (hB : w.heap.size ≤ B) : Tabs w' := by
  obtain ⟨⟨h1, h2⟩, ⟨t3, f3, h3⟩, ⟨t4, f4, h4⟩⟩ := h
  refine ⟨⟨fun c hc => ?_, fun i hi => ?_⟩, ⟨t3, f3, ?_⟩, ⟨t4, f4, ?_⟩⟩
  · have := h1 c hc
    rw [hb.cell (p := ⟨_, c, none⟩) (Nat.lt_of_lt_of_le (lt_of_cell this) hB)]; exact this
  · have h := h2 i hi
    rw [hb.cell (p := ⟨_, 2 * i, none⟩) (Nat.lt_of_lt_of_le (lt_of_cell h.1) hB), hb.cell (p := ⟨_, 2 * i + 1, none⟩) (Nat.lt_of_lt_of_le (lt_of_cell h.2) hB)]; exact h
  · rw [hb.block _ (Nat.lt_of_lt_of_le (lt_of_heap h3) hB)]; exact h3
  · rw [hb.block _ (Nat.lt_of_lt_of_le (lt_of_heap h4) hB)]; exact h4
theorem Tabs.next {w w' : World} (h : Tabs w) (hb : Below w.heap.size w w') : Tabs w' := h.below hb (Nat.le_refl _)

theorem start_at (k : Nat) (hk : k < 15) : ∃ lo hi : Int, startRanges[k]? = some (lo, hi) ∧ ∀ w, (Instr.index 183 (.agg startCells) (.int .i64 k)).run Tryz.prog w = .ok (.agg #[.int .i32 lo, .int .i32 hi]) w := by
  match k, hk with
  | 0, _ => exact ⟨_, _, rfl, fun _ => by kernel_rfl⟩
  | 1, _ => exact ⟨_, _, rfl, fun _ => by kernel_rfl⟩
  | 2, _ => exact ⟨_, _, rfl, fun _ => by kernel_rfl⟩
  | 3, _ => exact ⟨_, _, rfl, fun _ => by kernel_rfl⟩
  | 4, _ => exact ⟨_, _, rfl, fun _ => by kernel_rfl⟩
  | 5, _ => exact ⟨_, _, rfl, fun _ => by kernel_rfl⟩
  | 6, _ => exact ⟨_, _, rfl, fun _ => by kernel_rfl⟩
  | 7, _ => exact ⟨_, _, rfl, fun _ => by kernel_rfl⟩
  | 8, _ => exact ⟨_, _, rfl, fun _ => by kernel_rfl⟩
  | 9, _ => exact ⟨_, _, rfl, fun _ => by kernel_rfl⟩
  | 10, _ => exact ⟨_, _, rfl, fun _ => by kernel_rfl⟩
  | 11, _ => exact ⟨_, _, rfl, fun _ => by kernel_rfl⟩
  | 12, _ => exact ⟨_, _, rfl, fun _ => by kernel_rfl⟩
  | 13, _ => exact ⟨_, _, rfl, fun _ => by kernel_rfl⟩
  | 14, _ => exact ⟨_, _, rfl, fun _ => by kernel_rfl⟩
theorem more_at (k : Nat) (hk : k < 5) : ∃ lo hi : Int, moreRanges[k]? = some (lo, hi) ∧ ∀ w, (Instr.index 182 (.agg moreCells) (.int .i64 k)).run Tryz.prog w = .ok (.agg #[.int .i32 lo, .int .i32 hi]) w := by
  match k, hk with
  | 0, _ => exact ⟨_, _, rfl, fun _ => by kernel_rfl⟩
  | 1, _ => exact ⟨_, _, rfl, fun _ => by kernel_rfl⟩
  | 2, _ => exact ⟨_, _, rfl, fun _ => by kernel_rfl⟩
  | 3, _ => exact ⟨_, _, rfl, fun _ => by kernel_rfl⟩
  | 4, _ => exact ⟨_, _, rfl, fun _ => by kernel_rfl⟩

theorem in_take {l : List (Int × Int)} {k : Nat} {lo hi r : Int} (h : l[k]? = some (lo, hi)) : inRanges (l.take (k + 1)) r = (inRanges (l.take k) r || decide (lo ≤ r ∧ r ≤ hi)) := by
  unfold inRanges
  rw [List.take_add_one, h]
  simp
theorem in_some {l : List (Int × Int)} {k : Nat} {lo hi r : Int} (h : l[k]? = some (lo, hi)) (h1 : lo ≤ r) (h2 : r ≤ hi) : inRanges l r = true := by
  unfold inRanges
  rw [List.any_eq_true]
  exact ⟨(lo, hi), List.mem_of_getElem? h, by simp [h1, h2]⟩

set_option maxHeartbeats 1000000 in
theorem nameStart_any (r : Int) (w : World) (hT : Tabs w) :
    Calls Tryz.prog 127 #[.int .i32 r] w fun e w' => e = .returned (.bool (nameStart r)) ∧ Below w.heap.size w w' := by
  obtain ⟨tt, fr, hg⟩ := hT.start
  have HT := Lib.hid hT
  clear hT
  go_enter Tryz.func127, Tryz.ntmps127
  go_wp2_with (refine wpList_load_row rfl 183 _ rfl 4 rfl tt _ fr _ hg Tryz.underlying183 rfl (by kernel_rfl) ?_)
  go_loopw [6] (fun i wr => ∃ k : Nat, k ≤ 15 ∧ i = .int .i64 k ∧ inRanges (startRanges.take k) r = false ∧ Below w.heap.size w wr) (fun i _ => 15 - (intOf i).toNat)
  case atStart => exact ⟨0, by omega, rfl, by simp [inRanges], Below.refl _ _⟩
  case round =>
    obtain ⟨k, hk, rfl, hin, hb⟩ := hrel
    have HI := Lib.hid hin
    clear hin
    by_cases hlt : k < 15
    · obtain ⟨lo, hi, hsome, hidx⟩ := start_at k hlt
      have HS := Lib.hid hsome
      have HB := Lib.hid hb
      have hsz := hb.size
      clear hsome hb
      go_wp2
      · go_ret
        exact ⟨ret_bool (in_some HS.out (by assumption) (by assumption)).symm, (HB.out.alloc hsz _)⟩
      all_goals
        go_roundw
        case rel => exact ⟨k + 1, by omega, by go_num, by rw [in_take HS.out, HI.out]; simp; omega, (HB.out.alloc hsz _)⟩
        case measure => simp [intOf]; omega
    · obtain rfl : k = 15 := by omega
      go_wp2
      go_ret
      exact ⟨ret_bool (by have := HI.out; simpa [nameStart, startRanges] using this.symm), hb⟩

set_option maxHeartbeats 1000000 in
theorem nameChar_any (r : Int) (w : World) (hT : Tabs w) :
    Calls Tryz.prog 126 #[.int .i32 r] w fun e w' => e = .returned (.bool (nameChar r)) ∧ Below w.heap.size w w' := by
  obtain ⟨tt, fr, hg⟩ := hT.more
  have HT := Lib.hid hT
  clear hT
  go_enter Tryz.func126, Tryz.ntmps126
  go_wp2_with (refine wpList_load_row rfl 182 _ rfl 3 rfl tt _ fr _ hg Tryz.underlying182 rfl (by kernel_rfl) ?_)
  go_loopw [6] (fun i wr => ∃ k : Nat, k ≤ 5 ∧ i = .int .i64 k ∧ inRanges (moreRanges.take k) r = false ∧ Below w.heap.size w wr) (fun i _ => 5 - (intOf i).toNat)
  case atStart => exact ⟨0, by omega, rfl, by simp [inRanges], Below.refl _ _⟩
  case round =>
    obtain ⟨k, hk, rfl, hin, hb⟩ := hrel
    have HI := Lib.hid hin
    have HB := Lib.hid hb
    have hsz := hb.size
    clear hin hb
    by_cases hlt : k < 5
    · obtain ⟨lo, hi, hsome, hidx⟩ := more_at k hlt
      have HS := Lib.hid hsome
      clear hsome
      go_wp2
      · go_ret
        exact ⟨ret_bool (by rw [nameChar, in_some HS.out (by assumption) (by assumption), Bool.true_or]), (HB.out.alloc hsz _)⟩
      all_goals
        go_roundw
        case rel => exact ⟨k + 1, by omega, by go_num, by rw [in_take HS.out, HI.out]; simp; omega, (HB.out.alloc hsz _)⟩
        case measure => simp [intOf]; omega
    · obtain rfl : k = 5 := by omega
      go_wp2_with (go_at_call 127; refine (nameStart_any r _ (HT.out.next HB.out)).mono ?_; rintro e w' ⟨rfl, hb2⟩)
      go_ret
      exact ⟨ret_bool (by have := HI.out; rw [nameChar, show inRanges moreRanges r = false from this, Bool.false_or]), HB.out.trans (hb2.mono hsz)⟩
end Go.Proofs.YtclhdppppgjgfaaGreatDoor
set_option linter.unusedVariables false
namespace Go.Proofs.YtclhdppppgjgfaaGreatDoor
open Go.RowKit

/-! How the walk reads a string that is given by its list of bytes. -/
@[go_sem] theorem S_size (l : Bytes) : (S l).size = l.length := by simp [S, ByteArray.size]
@[go_sem] theorem S_toList (l : Bytes) : (S l).toList = l := ByteArray.toList_mk l
@[go_sem] theorem S_data (l : Bytes) : (S l).data.toList = l := by simp [S]
@[go_sem] theorem S_get (l : Bytes) (i : Nat) (h : i < (S l).size) : (S l)[i]'h = l[i]'(by rw [S_size] at h; exact h) := by
  simp only [S, ByteArray.getElem_eq_getElem_data]
  rfl
theorem S_extract (l : Bytes) (i j : Nat) : (S l).extract i j = S ((l.take j).drop i) := by
  have := Lib.extract_eq (S l) i j
  rw [S_data] at this
  rw [this, List.drop_take]
  rfl
@[go_sem] theorem S_extract_cut (l : Bytes) (i j : Nat) : (S l).extract i j = S ((l.drop i).take (j - i)) := by
  rw [S_extract, List.drop_take]
@[go_sem high] theorem S_extract_from (l : Bytes) (i : Nat) : (S l).extract i l.length = S (l.drop i) := by
  rw [S_extract, List.take_length]
@[go_sem high] theorem S_extract_to (l : Bytes) (j : Nat) : (S l).extract 0 j = S (l.take j) := by
  rw [S_extract, List.drop_zero]
@[go_sem] theorem S_append (a b : Bytes) : S a ++ S b = S (a ++ b) := ByteArray.mk_append_mk a b
@[go_sem] theorem mk_append_S (a b : Bytes) : ByteArray.mk a.toArray ++ S b = S (a ++ b) := ByteArray.mk_append_mk a b
@[go_sem] theorem S_append_mk (a b : Bytes) : S a ++ ByteArray.mk b.toArray = S (a ++ b) := ByteArray.mk_append_mk a b
@[go_sem] theorem wrap64_byte (b : UInt8) : wrap64 (b.toNat : Int) = b.toNat := IntWalk.wrap64_in _ (by have := u8_lt b; constructor <;> omega)
theorem S_data' (s : ByteArray) : S s.data.toList = s := by simp [S]
theorem S_inj {a b : Bytes} (h : S a = S b) : a = b := by
  have := congrArg (fun s : ByteArray => s.data.toList) h
  simpa [S] using this

theorem foldl_push (ns : List UInt8) : ∀ acc : ByteArray, (ns.map fun b => (b.toNat : Int)).foldl (fun r (n : Int) => r.push (UInt8.ofNat n.toNat)) acc = ⟨(acc.data.toList ++ ns).toArray⟩ := by
  induction ns with
  | nil => intro acc; simp
  | cons b ns ih =>
    intro acc
    simp only [List.map_cons, List.foldl_cons, Int.toNat_natCast, UInt8.ofNat_toNat]
    rw [ih]
    simp [ByteArray.push]
theorem run_bytes_string (w : World) (a : Addr) (l : Bytes) (cap : Nat) (h : ∀ j x, l[j]? = some x → w.cell? (a.add j) = some (.int .u8 x.toNat)) :
    (convert 66 9 (.slice (some a) l.length cap)).run Tryz.prog w = .ok (.string (S l)) w := by
  rw [run_convert_bytes_string w _ _ 5 _ _ _ Tryz.underlying66 Tryz.underlying5 Tryz.underlying9]
  rw [run_bytesToString w a l.length cap (l.map fun b => (b.toNat : Int))]
  · rw [foldl_push]; rfl
  · have := run_loadCells_list (P := Tryz.prog) (w := w) a (l.map fun b => Value.int .u8 b.toNat) (fun j v hj => by
      rw [List.getElem?_map, Option.map_eq_some_iff] at hj
      obtain ⟨x, hx, rfl⟩ := hj
      exact h j x hx)
    simp only [List.length_map] at this
    rw [this]
    simp
theorem run_bytes_nil (w : World) : (convert 66 9 (.slice none 0 0)).run Tryz.prog w = .ok (.string (S [])) w := by
  rw [run_convert_bytes_string w _ _ 5 _ _ _ Tryz.underlying66 Tryz.underlying5 Tryz.underlying9]
  simp [Conv.bytesToString, S, Sem.run_pure]
  rfl
theorem byte_int {x : Int} (h : 0 ≤ x ∧ x ≤ 255) : Value.int .u8 x = .int .u8 ((UInt8.ofNat x.toNat).toNat) := by
  rw [u8_of (by omega), Int.toNat_of_nonneg h.1]
theorem run_new_bytes (w : World) (xs : List Int) (n : Nat) (hn : xs.length = n) (h : ∀ x ∈ xs, 0 ≤ x ∧ x ≤ 255) :
    (convert 66 9 (.slice (some ⟨w.heap.size, 0, none⟩) n n)).run Tryz.prog (w.alloc (.cells (xs.map (Value.int .u8)).toArray 5)) =
      .ok (.string (S (xs.map fun x => UInt8.ofNat x.toNat))) (w.alloc (.cells (xs.map (Value.int .u8)).toArray 5)) := by
  subst hn
  have := run_bytes_string (w.alloc (.cells (xs.map (Value.int .u8)).toArray 5)) ⟨w.heap.size, 0, none⟩ (xs.map fun x => UInt8.ofNat x.toNat) xs.length (fun j x hj => by
    rw [List.getElem?_map, Option.map_eq_some_iff] at hj
    obtain ⟨y, hy, rfl⟩ := hj
    have hm := List.mem_of_getElem? hy
    rw [show (⟨w.heap.size, 0, none⟩ : Addr).add j = ⟨w.heap.size, j, none⟩ by unfold Addr.add; split <;> simp_all]
    rw [Lib.cell_of_heap (heap_alloc_new w _)]
    simp only [List.getElem?_toArray, List.getElem?_map, hy, Option.map_some]
    rw [byte_int (h y hm)])
  simpa using this
theorem run_new1 (w : World) (a : Int) (h : 0 ≤ a ∧ a ≤ 255) :
    (convert 66 9 (.slice (some ⟨w.heap.size, 0, none⟩) 1 1)).run Tryz.prog (w.alloc (.cells #[.int .u8 a] 5)) =
      .ok (.string (S [UInt8.ofNat a.toNat])) (w.alloc (.cells #[.int .u8 a] 5)) := run_new_bytes w [a] 1 rfl (by simpa using h)
theorem run_new2 (w : World) (a b : Int) (h : 0 ≤ a ∧ a ≤ 255) (h2 : 0 ≤ b ∧ b ≤ 255) :
    (convert 66 9 (.slice (some ⟨w.heap.size, 0, none⟩) 2 2)).run Tryz.prog (w.alloc (.cells #[.int .u8 a, .int .u8 b] 5)) =
      .ok (.string (S [UInt8.ofNat a.toNat, UInt8.ofNat b.toNat])) (w.alloc (.cells #[.int .u8 a, .int .u8 b] 5)) := run_new_bytes w [a, b] 2 rfl (by simp; omega)
theorem run_new3 (w : World) (a b c : Int) (h : 0 ≤ a ∧ a ≤ 255) (h2 : 0 ≤ b ∧ b ≤ 255) (h3 : 0 ≤ c ∧ c ≤ 255) :
    (convert 66 9 (.slice (some ⟨w.heap.size, 0, none⟩) 3 3)).run Tryz.prog (w.alloc (.cells #[.int .u8 a, .int .u8 b, .int .u8 c] 5)) =
      .ok (.string (S [UInt8.ofNat a.toNat, UInt8.ofNat b.toNat, UInt8.ofNat c.toNat])) (w.alloc (.cells #[.int .u8 a, .int .u8 b, .int .u8 c] 5)) := run_new_bytes w [a, b, c] 3 rfl (by simp; omega)
theorem run_new4 (w : World) (a b c d : Int) (h : 0 ≤ a ∧ a ≤ 255) (h2 : 0 ≤ b ∧ b ≤ 255) (h3 : 0 ≤ c ∧ c ≤ 255) (h4 : 0 ≤ d ∧ d ≤ 255) :
    (convert 66 9 (.slice (some ⟨w.heap.size, 0, none⟩) 4 4)).run Tryz.prog (w.alloc (.cells #[.int .u8 a, .int .u8 b, .int .u8 c, .int .u8 d] 5)) =
      .ok (.string (S [UInt8.ofNat a.toNat, UInt8.ofNat b.toNat, UInt8.ofNat c.toNat, UInt8.ofNat d.toNat])) (w.alloc (.cells #[.int .u8 a, .int .u8 b, .int .u8 c, .int .u8 d] 5)) := run_new_bytes w [a, b, c, d] 4 rfl (by simp; omega)

/-! A slice of bytes that the call has built itself. -/
def Own (B : Nat) (v : Value) (l : Bytes) (w : World) : Prop := w.ownsRow B 5 1 v l.length (Lib.byteCells l)
theorem Own.nil (B : Nat) (w : World) : Own B (.slice none 0 0) [] w := ⟨by simp [Lib.byteCells], .inl ⟨rfl, rfl⟩⟩
theorem Own.below {B : Nat} {v : Value} {l : Bytes} {w w' : World} (h : Own B v l w) (hb : Below w.heap.size w w') : Own B v l w' := by
  obtain ⟨h1, h2⟩ := h
  refine ⟨h1, ?_⟩
  rcases h2 with h2 | ⟨g, cap, cur, hv, hg, hh, r⟩
  · exact .inl h2
  · exact .inr ⟨g, cap, cur, hv, hg, (hb.block g (by
      rcases Nat.lt_or_ge g w.heap.size with h' | h'
      · exact h'
      · rw [Array.getElem?_eq_none h'] at hh; cases hh)).trans hh, r⟩
theorem own_append_byte {c : UInt8} {ops : Array Oper} {rest : List Oper} {o : Oper} {a : Act} {w : World} {Q : Exit → Act → World → Prop} (hgd : o.guard = none) (sl x : Operand)
    (ho : o.op = .call { callee := .builtin .append, args := #[sl, x], argTypes := #[66, 66] })
    (B : Nat) (v : Value) (l : Bytes) (hs : a.eval sl = v) (h : Own B v l w) (hx : a.eval x = .slice (some ⟨w.heap.size, 0, none⟩) 1 1) (hlen : l.length + 1 ≤ 140737488355328) (hB : B ≤ w.heap.size)
    (hK : ∀ v' w', Own B v' (l ++ [c]) w' → Below B w w' → wpList Tryz.prog ops Q rest (a.put o.dst v') w') : wpList Tryz.prog ops Q (o :: rest) a (w.alloc (.cells #[.int .u8 c.toNat] 5)) := by
  obtain ⟨i0, hi, hz0, hz1, hz2⟩ := info_parts infoByte
  have hal : Own B v l (w.alloc (.cells #[.int .u8 c.toNat] 5)) := h.below ((Below.refl _ _).alloc (Nat.le_refl _) _)
  refine wpList_append_own _ hgd sl x 66 ho B 5 i0 (.int .u8 0) 1 1 Tryz.underlying66 hi hz0 hz1 hz2 rfl (by decide) v _ _ hs hal ⟨w.heap.size, 0, none⟩ 1 1 [.int .u8 c.toNat] hx rfl ?_ ?_ (by unfold maxLen; omega) (by omega) (by simp; omega) ?_
  · intro j u hj
    match j, hj with
    | 0, hj => simp at hj; subst hj; simp [Addr.add]
  · intro u hu; simp at hu; subst hu; rfl
  intro v' w' hown hg _
  refine hK v' w' ?_ (((Below.refl _ _).alloc hB _).grown hg (by simp; omega) (fun k hk => (h.lt k hk).1))
  unfold Own
  rw [Lib.byteCells_append, List.length_append]
  exact hown
/-- Such a slice turned into a string. -/
theorem own_string {B : Nat} {v : Value} {l : Bytes} {w : World} (h : Own B v l w) : (convert 66 9 v).run Tryz.prog w = .ok (.string (S l)) w := by
  rcases h.2 with ⟨hv, hn⟩ | ⟨g, cap, cur, hv, r⟩
  · have : l = [] := List.eq_nil_of_length_eq_zero hn
    subst this
    rw [hv]
    exact run_bytes_nil w
  · rw [hv]
    refine run_bytes_string w ⟨g, 0, none⟩ l cap (fun j x hj => ?_)
    have := h.cells (g := g) (by rw [hv]; rfl) j (.int .u8 x.toNat) (by simp [Lib.byteCells, hj])
    exact this

/-! 'Upd b w w'': w' is w with new blocks, and writes to block b alone. -/
structure Upd (b : Nat) (w w' : World) : Prop where
  os : w'.os = w.os
  tape : w'.tape = w.tape
  output : w'.output = w.output
  size : w.heap.size ≤ w'.heap.size
  block : ∀ k, k < w.heap.size → k ≠ b → w'.heap[k]? = w.heap[k]?
theorem Upd.refl (b : Nat) (w : World) : Upd b w w := ⟨rfl, rfl, rfl, Nat.le_refl _, fun _ _ _ => rfl⟩
theorem Upd.trans {b : Nat} {w w1 w2 : World} (h : Upd b w w1) (k : Upd b w1 w2) : Upd b w w2 :=
  ⟨k.os.trans h.os, k.tape.trans h.tape, k.output.trans h.output, Nat.le_trans h.size k.size, fun i hi hb => (k.block i (Nat.lt_of_lt_of_le hi h.size) hb).trans (h.block i hi hb)⟩
theorem Upd.of_below {b : Nat} {w w' : World} (h : Below w.heap.size w w') : Upd b w w' := ⟨h.os, h.tape, h.output, h.size, fun k hk _ => h.block k hk⟩
theorem Upd.next {b : Nat} {w w1 w2 : World} (h : Upd b w w1) (k : Below w1.heap.size w1 w2) : Upd b w w2 := h.trans (.of_below k)
theorem Upd.set_ (b i : Nat) (w : World) (v : Value) : Upd b w (w.setCell ⟨b, i, none⟩ v) :=
  ⟨rfl, rfl, rfl, by simp [World.setCell], fun k _ hk => Below.heap_setCell _ _ _ _ hk⟩
theorem Upd.drew {b : Nat} {w w' : World} (h : Upd b w w') : Upd b w w'.drew := ⟨h.os, h.tape, h.output, h.size, h.block⟩
theorem Upd.alloc {b : Nat} {w w' : World} (h : Upd b w w') (o : Obj) : Upd b w (w'.alloc o) :=
  h.trans (.of_below ((Below.refl _ _).alloc (Nat.le_refl _) o))
theorem Upd.below {b B : Nat} {w w' : World} (h : Upd b w w') (hb : B ≤ b) (hB : B ≤ w.heap.size) : Below B w w' :=
  ⟨h.os, h.tape, h.output, h.size, fun k hk => h.block k (by omega) (by omega)⟩
theorem below_undrew {B : Nat} {w w' : World} (h : Below B w.drew w') : Below B w w' := ⟨h.os, h.tape, h.output, h.size, h.block⟩
theorem heap_lt {w : World} {g : Nat} {o : Obj} (h : w.heap[g]? = some o) : g < w.heap.size := by
  rcases Nat.lt_or_ge g w.heap.size with h' | h'
  · exact h'
  · rw [Array.getElem?_eq_none h'] at h; cases h

end Go.Proofs.YtclhdppppgjgfaaGreatDoor
