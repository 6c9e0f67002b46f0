/-
  From the row's list of package variables to the library's tables.
-/
import Derived.Test.YtooabnmmgmmklaaDoorRows
import Derived.Test.YtooabnmmgmmklaaDoorGen
import Derived.Lib.LaidU8
import Derived.LaidLaws
set_option linter.unusedVariables false
namespace Go.Proofs.YtooabnmmgmmklaaDoor
open Go.RowKit Go.ChangeShapes Go.WideShapes

/-- An array of pairs of integers that reads as these rows holds their numbers, cell for cell. -/
theorem cells_of_rows {H : Type} {enc : TypeId × Value → H} {P : Program} {w : World} {base : Nat} {sp : Nat → Bool} {held : Bool} {fuel : Nat} {t e : TypeId} {n : Nat} {k : IntKind} {cs : List Value} {rows : List (Int × Int)} {p : List MemPlace}
    (ht : P.underlying t = some (.array n e)) (hel : ∀ {fuel : Nat} {cs : List Value} {r : Int × Int} {q : List MemPlace}, DataW.trod enc P w base sp held fuel e cs = some (Lib.tabData k [r.1, r.2], q) → cs = [.int k r.1, .int k r.2]) (hce : P.cellsOf e = 2) (hct : P.cellsOf t = n * 2)
    (h : DataW.trod enc P w base sp held fuel t cs = some (.agg (rows.map fun r => Lib.tabData k [r.1, r.2]), p)) (hn : rows.length = n) : cs = rows.flatMap fun r => [.int k r.1, .int k r.2] := by
  have hl : cs.length = n * 2 := by
    cases fuel with
    | zero => simp [DataW.trod] at h
    | succ fuel =>
      simp only [DataW.trod, ht] at h
      split at h
      · rename_i hl; rw [hl, hct]
      · cases h
  have hrow : ∀ j (hj : j < n), (cs.drop (j * 2)).take 2 = [.int k (rows[j]'(by omega)).1, .int k (rows[j]'(by omega)).2] := by
    intro j hj
    obtain ⟨fuel', d, q, hd, ht'⟩ := Lib.array_elem ht h j hj
    rw [List.getElem?_map, List.getElem?_eq_getElem (by omega)] at hd
    simp only [Option.map_some, Option.some.injEq] at hd
    subst hd
    rw [hce] at ht'
    exact hel ht'
  clear h ht hct
  subst hn
  induction rows generalizing cs with
  | nil => simpa using hl
  | cons r rows ih =>
    have h0 := hrow 0 (by simp)
    simp only [Nat.zero_mul, List.drop_zero, List.getElem_cons_zero] at h0
    have h1 := ih (cs := cs.drop 2) (by simp only [List.length_drop, List.length_cons] at hl ⊢; omega) (fun j hj => by
      have := hrow (j + 1) (by simpa using hj)
      rw [List.drop_drop, show 2 + j * 2 = (j + 1) * 2 by omega, this]
      simp)
    rw [List.flatMap_cons, ← h1, ← h0, List.take_append_drop]
theorem cells_of_pairs {H : Type} {enc : TypeId × Value → H} {P : Program} {w : World} {base : Nat} {sp : Nat → Bool} {held : Bool} {fuel : Nat} {t e i : TypeId} {n : Nat} {k : IntKind} {cs : List Value} {rows : List (Int × Int)} {p : List MemPlace}
    (ht : P.underlying t = some (.array n e)) (he : P.underlying e = some (.array 2 i)) (hi : P.underlying i = some (.int k)) (hci : P.cellsOf i = 1) (hce : P.cellsOf e = 2) (hct : P.cellsOf t = n * 2)
    (h : DataW.trod enc P w base sp held fuel t cs = some (.agg (rows.map fun r => Lib.tabData k [r.1, r.2]), p)) (hn : rows.length = n) : cs = rows.flatMap fun r => [.int k r.1, .int k r.2] :=
  cells_of_rows ht (fun {_ _ r _} h => Lib.cells_of_tab (zs := [r.1, r.2]) he hi hci hce h) hce hct h hn
theorem heap_of_var {P : Program} {w : World} {name : String} {g : Nat} {cs : Array Value} (hg : P.globalNamed name = some g) (h : w.var? P name = some cs) : ∃ t fr, w.heap[g]? = some (.cells cs t fr) := by
  unfold World.var? at h
  rw [hg] at h
  simp only [Option.bind_some] at h
  split at h
  · rename_i cs' t fr hh
    cases h
    exact ⟨t, fr, hh⟩
  · cases h

/-- What the second table's rows are. -/
def acceptRows : List (Int × Int) := (List.range 16).map fun i => ((Lib.accLo i : Int), (Lib.accHi i : Int))
theorem gFirst : Tryd.prog.globalNamed "unicode/utf8.first" = some 4 := by kernel_rfl
theorem gAccept : Tryd.prog.globalNamed "unicode/utf8.acceptRanges" = some 5 := by kernel_rfl
theorem tFirst : (Tryd.prog.globals[(4 : Nat)]?).map (·.type) = some 117 := by kernel_rfl
theorem tAccept : (Tryd.prog.globals[(5 : Nat)]?).map (·.type) = some 120 := by kernel_rfl
theorem cellsByte : Tryd.prog.cellsOf 5 = 1 := by kernel_rfl
theorem cellsFirst : Tryd.prog.cellsOf 117 = 256 := by kernel_rfl
theorem cellsAccept : Tryd.prog.cellsOf 120 = 16 * 2 := by kernel_rfl
theorem cellsRange : Tryd.prog.cellsOf 119 = 2 := by kernel_rfl
theorem utf8_own {w : World} (h3 : Lib.VarReads Tryd.prog w "unicode/utf8.first" Lib.firstData) (h4 : Lib.VarReads Tryd.prog w "unicode/utf8.acceptRanges" Lib.acceptData) : Lib.Utf8Tabs 4 5 w := by
  refine ⟨?_, ?_⟩
  · obtain ⟨g, t, cs, fuel, p, hg, hty, hvar, hd⟩ := h3
    obtain rfl := Option.some.inj (gFirst.symm.trans hg)
    obtain rfl := Option.some.inj (tFirst.symm.trans hty)
    have hcs := Lib.cells_of_tab Tryd.underlying117 Tryd.underlying5 cellsByte cellsFirst hd
    obtain ⟨t, fr, hh⟩ := heap_of_var hg hvar
    intro c hc
    rw [Lib.cell_of_heap hh, ← Array.getElem?_toList, hcs]
    simp [Lib.firstTab, hc]
  · obtain ⟨g, t, cs, fuel, p, hg, hty, hvar, hd⟩ := h4
    obtain rfl := Option.some.inj (gAccept.symm.trans hg)
    obtain rfl := Option.some.inj (tAccept.symm.trans hty)
    have hcs := cells_of_rows (rows := acceptRows) (k := .u8) Tryd.underlying120 (fun {_ _ r _} h => Lib.ints_of_struct (zs := [r.1, r.2]) (k := .u8) Tryd.underlying119 (fun j f hj => by
      match j, hj with
      | 0, hj => simp at hj; subst hj; exact ⟨Tryd.underlying5, rfl, cellsByte⟩
      | 1, hj => simp at hj; subst hj; exact ⟨Tryd.underlying5, rfl, cellsByte⟩
      | j + 2, hj => simp at hj) (by rw [cellsRange]; rfl) h) cellsRange cellsAccept hd rfl
    obtain ⟨t, fr, hh⟩ := heap_of_var hg hvar
    have hall : ∀ i, i < 16 → (acceptRows.flatMap fun r => [Value.int .u8 r.1, Value.int .u8 r.2])[2 * i]? = some (.int .u8 (Lib.accLo i)) ∧ (acceptRows.flatMap fun r => [Value.int .u8 r.1, Value.int .u8 r.2])[2 * i + 1]? = some (.int .u8 (Lib.accHi i)) := by
      intro i hi
      match i, hi with
      | 0, _ => exact ⟨rfl, rfl⟩
      | 1, _ => exact ⟨rfl, rfl⟩
      | 2, _ => exact ⟨rfl, rfl⟩
      | 3, _ => exact ⟨rfl, rfl⟩
      | 4, _ => exact ⟨rfl, rfl⟩
      | 5, _ => exact ⟨rfl, rfl⟩
      | 6, _ => exact ⟨rfl, rfl⟩
      | 7, _ => exact ⟨rfl, rfl⟩
      | 8, _ => exact ⟨rfl, rfl⟩
      | 9, _ => exact ⟨rfl, rfl⟩
      | 10, _ => exact ⟨rfl, rfl⟩
      | 11, _ => exact ⟨rfl, rfl⟩
      | 12, _ => exact ⟨rfl, rfl⟩
      | 13, _ => exact ⟨rfl, rfl⟩
      | 14, _ => exact ⟨rfl, rfl⟩
      | 15, _ => exact ⟨rfl, rfl⟩
      | i + 16, hi => exact absurd hi (by omega)
    intro i hi
    rw [Lib.cell_of_heap hh, Lib.cell_of_heap hh, ← Array.getElem?_toList, ← Array.getElem?_toList, hcs]
    exact hall i hi
theorem first_eq : Rows.laid_unicode_utf8_first = Lib.firstData := by kernel_rfl
theorem accept_eq : (Rows.laid_unicode_utf8_acceptRanges : DataW Unit) = Lib.acceptData := by kernel_rfl
end Go.Proofs.YtooabnmmgmmklaaDoor
