/-
  The tables that chapters 10 to 13 read, as the start lays them.
-/
import Derived.Test.YtadkgjbidhfefaaGreatDoorGen
import Derived.Lib.AppendIntMem
import Derived.Shelf.Unicode.DecodeAny
set_option linter.unusedVariables false
namespace Go.Proofs.YtadkgjbidhfefaaGreatDoor
open Go.RowKit

def lettCells : Array Value := #[.int .u8 98, .int .u8 8, .int .u8 102, .int .u8 12, .int .u8 110, .int .u8 10, .int .u8 114, .int .u8 13, .int .u8 116, .int .u8 9]
structure TabJ (w : World) : Prop where
  utf : Lib.Utf8Tabs 0 1 w
  lett : ∃ t fr, w.heap[(3 : Nat)]? = some (.cells lettCells t fr)
  pow : Lib.TabIs Tryz.prog w "internal/strconv.uint64pow10" .u64 Lib.pow10Tab
theorem lt_of_cellJ {w : World} {a : Addr} {v : Value} (h : w.cell? a = some v) : a.block < w.heap.size := by
  rcases Nat.lt_or_ge a.block w.heap.size with h' | h'
  · exact h'
  · simp [World.cell?, Array.getElem?_eq_none h'] at h
theorem TabJ.next {w w' : World} (h : TabJ w) (hb : Below w.heap.size w w') : TabJ w' := by
  obtain ⟨⟨h1, h2⟩, ⟨t3, f3, h3⟩, h4⟩ := h
  refine ⟨⟨fun c hc => ?_, fun i hi => ?_⟩, ⟨t3, f3, ?_⟩, Lib.tabBelow_of_tabIs h4 w' hb⟩
  · have := h1 c hc
    rw [hb.cell (p := ⟨_, c, none⟩) (lt_of_cellJ this)]; exact this
  · have h := h2 i hi
    rw [hb.cell (p := ⟨_, 2 * i, none⟩) (lt_of_cellJ h.1), hb.cell (p := ⟨_, 2 * i + 1, none⟩) (lt_of_cellJ h.2)]; exact h
  · rw [hb.block _ (heap_lt h3)]; exact h3
end Go.Proofs.YtadkgjbidhfefaaGreatDoor
