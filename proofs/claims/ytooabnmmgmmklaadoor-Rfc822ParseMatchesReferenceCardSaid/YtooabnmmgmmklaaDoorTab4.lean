/-
  The tables that chapter 4 reads, as the start lays them.
-/
import Derived.Test.YtooabnmmgmmklaaDoorGen
import Derived.Test.YtooabnmmgmmklaaDoorFmt4
import Derived.Shelf.Unicode.DecodeAny
import Derived.Lib.AppendIntMem
import Derived.Laws.Rows
set_option linter.unusedVariables false
namespace Go.Proofs.YtooabnmmgmmklaaDoor
open Go.RowKit

def dayCells : Array Value := #[.string ⟨#[115, 117, 110]⟩, .string ⟨#[109, 111, 110]⟩, .string ⟨#[116, 117, 101]⟩, .string ⟨#[119, 101, 100]⟩, .string ⟨#[116, 104, 117]⟩, .string ⟨#[102, 114, 105]⟩, .string ⟨#[115, 97, 116]⟩]
def monCells : Array Value := #[.string ⟨#[106, 97, 110]⟩, .string ⟨#[102, 101, 98]⟩, .string ⟨#[109, 97, 114]⟩, .string ⟨#[97, 112, 114]⟩, .string ⟨#[109, 97, 121]⟩, .string ⟨#[106, 117, 110]⟩, .string ⟨#[106, 117, 108]⟩, .string ⟨#[97, 117, 103]⟩, .string ⟨#[115, 101, 112]⟩, .string ⟨#[111, 99, 116]⟩, .string ⟨#[110, 111, 118]⟩, .string ⟨#[100, 101, 99]⟩]
structure Tab4 (w : World) : Prop where
  utf : Lib.Utf8Tabs 4 5 w
  days : ∃ t fr, w.heap[(0 : Nat)]? = some (.cells dayCells t fr)
  mons : ∃ t fr, w.heap[(1 : Nat)]? = some (.cells monCells t fr)
  pow : Lib.TabIs Tryd.prog w "internal/strconv.uint64pow10" .u64 Lib.pow10Tab
  max : ∃ m, w.cell? ⟨3, 0, none⟩ = some (.int .i64 m)
theorem lt_of_cell4 {w : World} {a : Addr} {v : Value} (h : w.cell? a = some v) : a.block < w.heap.size := by
  rcases Nat.lt_or_ge a.block w.heap.size with h' | h'
  · exact h'
  · simp [World.cell?, Array.getElem?_eq_none h'] at h
theorem Tab4.next {w w' : World} (h : Tab4 w) (hb : Below w.heap.size w w') : Tab4 w' := by
  obtain ⟨⟨h1, h2⟩, ⟨t3, f3, h3⟩, ⟨t4, f4, h4⟩, h6, m, h5⟩ := h
  refine ⟨⟨fun c hc => ?_, fun i hi => ?_⟩, ⟨t3, f3, ?_⟩, ⟨t4, f4, ?_⟩, Lib.tabBelow_of_tabIs h6 w' hb, m, ?_⟩
  · have := h1 c hc
    rw [hb.cell (p := ⟨_, c, none⟩) (lt_of_cell4 this)]; exact this
  · have h := h2 i hi
    rw [hb.cell (p := ⟨_, 2 * i, none⟩) (lt_of_cell4 h.1), hb.cell (p := ⟨_, 2 * i + 1, none⟩) (lt_of_cell4 h.2)]; exact h
  · rw [hb.block _ (heap_lt h3)]; exact h3
  · rw [hb.block _ (heap_lt h4)]; exact h4
  · rw [hb.cell (p := ⟨_, 0, none⟩) (lt_of_cell4 h5)]; exact h5
theorem day_at (k : Nat) (hk : k < 7) : ∃ x, dayTab[k]? = some x ∧ x ∈ dayTab ∧ ∀ w, (Instr.index 34 (.agg dayCells) (.int .i64 k)).run Tryd.prog w = .ok (.string (S x)) w := by
  match k, hk with
  | 0, _ => exact ⟨_, rfl, by decide, fun _ => by kernel_rfl⟩
  | 1, _ => exact ⟨_, rfl, by decide, fun _ => by kernel_rfl⟩
  | 2, _ => exact ⟨_, rfl, by decide, fun _ => by kernel_rfl⟩
  | 3, _ => exact ⟨_, rfl, by decide, fun _ => by kernel_rfl⟩
  | 4, _ => exact ⟨_, rfl, by decide, fun _ => by kernel_rfl⟩
  | 5, _ => exact ⟨_, rfl, by decide, fun _ => by kernel_rfl⟩
  | 6, _ => exact ⟨_, rfl, by decide, fun _ => by kernel_rfl⟩
theorem mon_at (k : Nat) (hk : k < 12) : ∃ x, monTab[k]? = some x ∧ x ∈ monTab ∧ ∀ w, (Instr.index 49 (.agg monCells) (.int .i64 k)).run Tryd.prog w = .ok (.string (S x)) w := by
  match k, hk with
  | 0, _ => exact ⟨_, rfl, by decide, fun _ => by kernel_rfl⟩
  | 1, _ => exact ⟨_, rfl, by decide, fun _ => by kernel_rfl⟩
  | 2, _ => exact ⟨_, rfl, by decide, fun _ => by kernel_rfl⟩
  | 3, _ => exact ⟨_, rfl, by decide, fun _ => by kernel_rfl⟩
  | 4, _ => exact ⟨_, rfl, by decide, fun _ => by kernel_rfl⟩
  | 5, _ => exact ⟨_, rfl, by decide, fun _ => by kernel_rfl⟩
  | 6, _ => exact ⟨_, rfl, by decide, fun _ => by kernel_rfl⟩
  | 7, _ => exact ⟨_, rfl, by decide, fun _ => by kernel_rfl⟩
  | 8, _ => exact ⟨_, rfl, by decide, fun _ => by kernel_rfl⟩
  | 9, _ => exact ⟨_, rfl, by decide, fun _ => by kernel_rfl⟩
  | 10, _ => exact ⟨_, rfl, by decide, fun _ => by kernel_rfl⟩
  | 11, _ => exact ⟨_, rfl, by decide, fun _ => by kernel_rfl⟩
end Go.Proofs.YtooabnmmgmmklaaDoor
