/-
  Walks of chapter 1: the tables of the name characters.
-/
import Derived.Test.YthbfahbjfioghaaGreatDoorSpec01
import Derived.Test.YthbfahbjfioghaaGreatDoorBuild
import Derived.WalkSpells
import Derived.WalkLawsBesides
import Derived.Laws.Rows
import Derived.Shelf.Unicode.DecodeAny
set_option linter.unusedVariables false
namespace Go.Proofs.YthbfahbjfioghaaGreatDoor
open Go.RowKit

def startCells : Array Value := #[.int .i32 65, .int .i32 90, .int .i32 95, .int .i32 95, .int .i32 97, .int .i32 122, .int .i32 192, .int .i32 214, .int .i32 216, .int .i32 246, .int .i32 248, .int .i32 767, .int .i32 880, .int .i32 893, .int .i32 895, .int .i32 8191, .int .i32 8204, .int .i32 8205, .int .i32 8304, .int .i32 8591, .int .i32 11264, .int .i32 12271, .int .i32 12289, .int .i32 55295, .int .i32 63744, .int .i32 64975, .int .i32 65008, .int .i32 65533, .int .i32 65536, .int .i32 983039]
def moreCells : Array Value := #[.int .i32 45, .int .i32 46, .int .i32 48, .int .i32 57, .int .i32 183, .int .i32 183, .int .i32 768, .int .i32 879, .int .i32 8255, .int .i32 8256]

/-- The tables of the library and of the program as the start lays them. -/
structure Tabs (w : World) : Prop where
  utf : Lib.Utf8Tabs 3 4 w
  start : ∃ t fr, w.heap[(2 : Nat)]? = some (.cells startCells t fr)
  more : ∃ t fr, w.heap[(1 : Nat)]? = some (.cells moreCells t fr)
theorem lt_of_heap {w : World} {g : Nat} {o : Obj} (h : w.heap[g]? = some o) : g < w.heap.size := by
  rcases Nat.lt_or_ge g w.heap.size with h' | h'
  · exact h'
  · rw [Array.getElem?_eq_none h'] at h; cases h
theorem lt_of_cell {w : World} {a : Addr} {v : Value} (h : w.cell? a = some v) : a.block < w.heap.size := by
  rcases Nat.lt_or_ge a.block w.heap.size with h' | h'
  · exact h'
  · simp [World.cell?, Array.getElem?_eq_none h'] at h
theorem Tabs.below {w w' : World} {B : Nat} (h : Tabs w) (hb : Below B w w') (hB : w.heap.size ≤ B) : Tabs w' := by
  obtain ⟨⟨h1, h2⟩, ⟨t3, f3, h3⟩, ⟨t4, f4, h4⟩⟩ := h
  refine ⟨⟨fun c hc => ?_, fun i hi => ?_⟩, ⟨t3, f3, ?_⟩, ⟨t4, f4, ?_⟩⟩
  · have := h1 c hc
    rw [hb.cell (p := ⟨_, c, none⟩) (Nat.lt_of_lt_of_le (lt_of_cell this) hB)]; exact this
  · have h := h2 i hi
    rw [hb.cell (p := ⟨_, 2 * i, none⟩) (Nat.lt_of_lt_of_le (lt_of_cell h.1) hB), hb.cell (p := ⟨_, 2 * i + 1, none⟩) (Nat.lt_of_lt_of_le (lt_of_cell h.2) hB)]; exact h
  · rw [hb.block _ (Nat.lt_of_lt_of_le (lt_of_heap h3) hB)]; exact h3
  · rw [hb.block _ (Nat.lt_of_lt_of_le (lt_of_heap h4) hB)]; exact h4
theorem Tabs.next {w w' : World} (h : Tabs w) (hb : Below w.heap.size w w') : Tabs w' := h.below hb (Nat.le_refl _)

theorem start_at (k : Nat) (hk : k < 15) : ∃ lo hi : Int, startRanges[k]? = some (lo, hi) ∧ ∀ w, (Instr.index 146 (.agg startCells) (.int .i64 k)).run Tryz.prog w = .ok (.agg #[.int .i32 lo, .int .i32 hi]) w := by
  match k, hk with
  | 0, _ => exact ⟨_, _, rfl, fun _ => by kernel_rfl⟩
  | 1, _ => exact ⟨_, _, rfl, fun _ => by kernel_rfl⟩
  | 2, _ => exact ⟨_, _, rfl, fun _ => by kernel_rfl⟩
  | 3, _ => exact ⟨_, _, rfl, fun _ => by kernel_rfl⟩
  | 4, _ => exact ⟨_, _, rfl, fun _ => by kernel_rfl⟩
  | 5, _ => exact ⟨_, _, rfl, fun _ => by kernel_rfl⟩
  | 6, _ => exact ⟨_, _, rfl, fun _ => by kernel_rfl⟩
  | 7, _ => exact ⟨_, _, rfl, fun _ => by kernel_rfl⟩
  | 8, _ => exact ⟨_, _, rfl, fun _ => by kernel_rfl⟩
  | 9, _ => exact ⟨_, _, rfl, fun _ => by kernel_rfl⟩
  | 10, _ => exact ⟨_, _, rfl, fun _ => by kernel_rfl⟩
  | 11, _ => exact ⟨_, _, rfl, fun _ => by kernel_rfl⟩
  | 12, _ => exact ⟨_, _, rfl, fun _ => by kernel_rfl⟩
  | 13, _ => exact ⟨_, _, rfl, fun _ => by kernel_rfl⟩
  | 14, _ => exact ⟨_, _, rfl, fun _ => by kernel_rfl⟩
theorem more_at (k : Nat) (hk : k < 5) : ∃ lo hi : Int, moreRanges[k]? = some (lo, hi) ∧ ∀ w, (Instr.index 145 (.agg moreCells) (.int .i64 k)).run Tryz.prog w = .ok (.agg #[.int .i32 lo, .int .i32 hi]) w := by
  match k, hk with
  | 0, _ => exact ⟨_, _, rfl, fun _ => by kernel_rfl⟩
  | 1, _ => exact ⟨_, _, rfl, fun _ => by kernel_rfl⟩
  | 2, _ => exact ⟨_, _, rfl, fun _ => by kernel_rfl⟩
  | 3, _ => exact ⟨_, _, rfl, fun _ => by kernel_rfl⟩
  | 4, _ => exact ⟨_, _, rfl, fun _ => by kernel_rfl⟩

theorem in_take {l : List (Int × Int)} {k : Nat} {lo hi r : Int} (h : l[k]? = some (lo, hi)) : inRanges (l.take (k + 1)) r = (inRanges (l.take k) r || decide (lo ≤ r ∧ r ≤ hi)) := by
  unfold inRanges
  rw [List.take_add_one, h]
  simp
theorem in_some {l : List (Int × Int)} {k : Nat} {lo hi r : Int} (h : l[k]? = some (lo, hi)) (h1 : lo ≤ r) (h2 : r ≤ hi) : inRanges l r = true := by
  unfold inRanges
  rw [List.any_eq_true]
  exact ⟨(lo, hi), List.mem_of_getElem? h, by simp [h1, h2]⟩

set_option maxHeartbeats 1000000 in
theorem nameStart_any (r : Int) (w : World) (hT : Tabs w) :
    Calls Tryz.prog 97 #[.int .i32 r] w fun e w' => e = .returned (.bool (nameStart r)) ∧ Below w.heap.size w w' := by
  obtain ⟨tt, fr, hg⟩ := hT.start
  have HT := Lib.hid hT
  clear hT
  go_enter Tryz.func97, Tryz.ntmps97
  go_wp2_with (refine wpList_load_row rfl 146 _ rfl 2 rfl tt _ fr _ hg Tryz.underlying146 rfl (by kernel_rfl) ?_)
  go_loopw [6] (fun i wr => ∃ k : Nat, k ≤ 15 ∧ i = .int .i64 k ∧ inRanges (startRanges.take k) r = false ∧ Below w.heap.size w wr) (fun i _ => 15 - (intOf i).toNat)
  case atStart => exact ⟨0, by omega, rfl, by simp [inRanges], Below.refl _ _⟩
  case round =>
    obtain ⟨k, hk, rfl, hin, hb⟩ := hrel
    have HI := Lib.hid hin
    clear hin
    by_cases hlt : k < 15
    · obtain ⟨lo, hi, hsome, hidx⟩ := start_at k hlt
      have HS := Lib.hid hsome
      have HB := Lib.hid hb
      have hsz := hb.size
      clear hsome hb
      go_wp2
      · go_ret
        exact ⟨ret_bool (in_some HS.out (by assumption) (by assumption)).symm, (HB.out.alloc hsz _)⟩
      all_goals
        go_roundw
        case rel => exact ⟨k + 1, by omega, by go_num, by rw [in_take HS.out, HI.out]; simp; omega, (HB.out.alloc hsz _)⟩
        case measure => simp [intOf]; omega
    · obtain rfl : k = 15 := by omega
      go_wp2
      go_ret
      exact ⟨ret_bool (by have := HI.out; simpa [nameStart, startRanges] using this.symm), hb⟩

set_option maxHeartbeats 1000000 in
theorem nameChar_any (r : Int) (w : World) (hT : Tabs w) :
    Calls Tryz.prog 96 #[.int .i32 r] w fun e w' => e = .returned (.bool (nameChar r)) ∧ Below w.heap.size w w' := by
  obtain ⟨tt, fr, hg⟩ := hT.more
  have HT := Lib.hid hT
  clear hT
  go_enter Tryz.func96, Tryz.ntmps96
  go_wp2_with (refine wpList_load_row rfl 145 _ rfl 1 rfl tt _ fr _ hg Tryz.underlying145 rfl (by kernel_rfl) ?_)
  go_loopw [6] (fun i wr => ∃ k : Nat, k ≤ 5 ∧ i = .int .i64 k ∧ inRanges (moreRanges.take k) r = false ∧ Below w.heap.size w wr) (fun i _ => 5 - (intOf i).toNat)
  case atStart => exact ⟨0, by omega, rfl, by simp [inRanges], Below.refl _ _⟩
  case round =>
    obtain ⟨k, hk, rfl, hin, hb⟩ := hrel
    have HI := Lib.hid hin
    have HB := Lib.hid hb
    have hsz := hb.size
    clear hin hb
    by_cases hlt : k < 5
    · obtain ⟨lo, hi, hsome, hidx⟩ := more_at k hlt
      have HS := Lib.hid hsome
      clear hsome
      go_wp2
      · go_ret
        exact ⟨ret_bool (by rw [nameChar, in_some HS.out (by assumption) (by assumption), Bool.true_or]), (HB.out.alloc hsz _)⟩
      all_goals
        go_roundw
        case rel => exact ⟨k + 1, by omega, by go_num, by rw [in_take HS.out, HI.out]; simp; omega, (HB.out.alloc hsz _)⟩
        case measure => simp [intOf]; omega
    · obtain rfl : k = 5 := by omega
      go_wp2_with (go_at_call 97; refine (nameStart_any r _ (HT.out.next HB.out)).mono ?_; rintro e w' ⟨rfl, hb2⟩)
      go_ret
      exact ⟨ret_bool (by have := HI.out; rw [nameChar, show inRanges moreRanges r = false from this, Bool.false_or]), HB.out.trans (hb2.mono hsz)⟩
end Go.Proofs.YthbfahbjfioghaaGreatDoor
