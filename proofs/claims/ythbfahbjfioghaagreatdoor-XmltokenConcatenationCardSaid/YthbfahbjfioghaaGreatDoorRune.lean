/-
  A strings.Builder of the call's own: WriteRune.
-/
import Derived.Test.YthbfahbjfioghaaGreatDoorMem
import Derived.Lib.RuneBytes
set_option linter.unusedVariables false
namespace Go.Proofs.YthbfahbjfioghaaGreatDoor
open Go.RowKit

theorem runeCells_enc {r : Nat} (h : okRune r) : Lib.runeCells r = Lib.byteCells (enc r) := by
  have hx := h
  unfold okRune at hx
  unfold Lib.runeCells enc
  rw [if_neg (by simpa using h)]
  by_cases h1 : r < 128
  · rw [if_pos h1, Lib.encodeRuneZ_one (by omega) (by omega)]
    simp only [Lib.byteCells, List.map_cons, List.map_nil]
    rw [u8_of (by omega)]
  · rw [if_neg h1]
    by_cases h2 : r < 2048
    · rw [if_pos h2, Lib.encodeRuneZ_two (by omega) (by omega)]
      simp only [Lib.byteCells, List.map_cons, List.map_nil]
      rw [u8_of (by omega), u8_of (by omega)]
      simp
    · rw [if_neg h2]
      by_cases h3 : r < 65536
      · rw [if_pos h3, Lib.encodeRuneZ_three (by omega)]
        simp only [Lib.byteCells, List.map_cons, List.map_nil]
        rw [u8_of (by omega), u8_of (by omega), u8_of (by omega)]
        simp
      · rw [if_neg h3, Lib.encodeRuneZ_four (by omega) (by omega)]
        simp only [Lib.byteCells, List.map_cons, List.map_nil]
        rw [u8_of (by omega), u8_of (by omega), u8_of (by omega), u8_of (by omega)]
        simp

set_option maxHeartbeats 2000000 in
set_option maxRecDepth 100000 in
theorem writeRune_cells (B b : Nat) (bs : List Value) (r : Int) (hr0 : -2147483648 ≤ r) (hr1 : r ≤ 2147483647) (w : World) (h : Lib.IsBuilderF 84 5 B b bs w) (hlen : bs.length + 4 ≤ 140737488355328) (hBw : B ≤ w.heap.size) :
    Calls Tryz.prog 105 #[.pointer (some ⟨b, 0, none⟩), .int .i32 r] w fun e w' => (∃ k, e = .returned (.tuple #[k, .nilIface])) ∧ (Lib.BuilderAtF 84 5 B b (.pointer (some ⟨b, 0, none⟩)) (bs ++ Lib.runeCells r) w' ∧ Below B w w' ∧ Kept b w w') := by
  go_enter Tryz.func105, Tryz.ntmps105
  go_wp2_with (go_at_call 94; refine (copyCheck_any B b bs _ h).mono ?_)
  rintro e w1 ⟨rfl, h1, hb1, hk1⟩
  obtain ⟨hB, v, hbk, hown, hne⟩ := h1
  have hsz := hb1.size
  obtain ⟨ao, n1, c1, rfl⟩ : ∃ ao n1 c1, v = .slice ao n1 c1 := by
    rcases hown.2 with ⟨hv, _⟩ | ⟨g, cap, cur, fz, hv, _⟩
    · exact ⟨_, _, _, hv⟩
    · exact ⟨_, _, _, hv⟩
  have c0 : w1.cell? ⟨b, 0, none⟩ = some (.pointer (some ⟨b, 0, none⟩)) := by rw [Lib.cell_of_heap hbk]; rfl
  have c1' : w1.cell? ⟨b, 1, none⟩ = some (.slice ao n1 c1) := by rw [Lib.cell_of_heap hbk]; rfl
  go_wp2_with (go_at_call 124; refine (Tryz.utf8_AppendRune_row B _ _ _ r hr0 hr1 _ hown (by omega) (by omega)).mono ?_)
  rintro e w2 ⟨v', rfl, hown', o, hgrow⟩
  have hlt : b < w1.heap.size := by
    rcases Nat.lt_or_ge b w1.heap.size with h' | h'
    · exact h'
    · simp [Array.getElem?_eq_none h'] at hbk
  have hb2 : w2.heap[b]? = some (.cells #[.pointer (some ⟨b, 0, none⟩), .slice ao n1 c1] 84 (0, 0)) := by
    rw [hgrow.block b (by simp; omega) (fun e => hne e.symm), Lib.alloc_old w1 _ b hlt]
    exact hbk
  have d0 : w2.cell? ⟨b, 0, none⟩ = some (.pointer (some ⟨b, 0, none⟩)) := by rw [Lib.cell_of_heap hb2]; rfl
  have d1 : w2.cell? ⟨b, 1, none⟩ = some (.slice ao n1 c1) := by rw [Lib.cell_of_heap hb2]; rfl
  have f1 : w2.frozen? ⟨b, 1, none⟩ = false := Lib.frozen_of_heap hb2 1
  obtain ⟨ao', n2, c2, rfl⟩ : ∃ ao n' cap, v' = .slice ao n' cap := by
    rcases hown'.2 with ⟨hv, _⟩ | ⟨g, cap, cur, fz, hv, _⟩
    · exact ⟨_, _, _, hv⟩
    · exact ⟨_, _, _, hv⟩
  go_wp2
  go_ret2
  refine ⟨⟨_, rfl⟩, ?_, ?_, ((hk1.alloc o).grown hgrow (Lib.ownsRowF_kind (hown.alloc o))).setCell ⟨b, 1, none⟩ rfl _⟩
  · exact Lib.BuilderAtF.put (T := 84) (e := 5) hB hb2 (bs' := bs ++ Lib.runeCells r) (by simpa using hown') (by decide)
  · exact ((hb1.alloc (by omega) o).grown hgrow (by simp; omega) (fun k hk => (hown.lt k hk).1)).setCell (p := ⟨b, 1, none⟩) hB _
theorem writeRune_any (B b : Nat) (l : Bytes) (r : Nat) (hr : okRune r) (w : World) (h : Bld B b l w) (hlen : l.length + 4 ≤ 140737488355328) (hBw : B ≤ w.heap.size) :
    Calls Tryz.prog 105 #[.pointer (some ⟨b, 0, none⟩), .int .i32 r] w fun e w' => (∃ k, e = .returned (.tuple #[k, .nilIface])) ∧ Bld B b (l ++ enc r) w' ∧ Below B w w' ∧ Kept b w w' := by
  have hx := hr
  unfold okRune at hx
  refine (writeRune_cells B b (Lib.byteCells l) r (by omega) (by omega) w h (by rw [Lib.byteCells_length]; exact hlen) hBw).mono ?_
  rintro e w' ⟨hk, h1, h2, h3⟩
  refine ⟨hk, .inr ?_, h2, h3⟩
  rw [Lib.byteCells_append, ← runeCells_enc hr]; exact h1
end Go.Proofs.YthbfahbjfioghaaGreatDoor
