/-
  From the row's list of package variables to the tables that the walks read.
-/
import Derived.Test.YthilaolkkamedaaDoorText2
import Derived.Test.YthilaolkkamedaaDoorRows
import Derived.Lib.LaidU8
import Derived.LaidLaws
set_option linter.unusedVariables false
namespace Go.Proofs.YthilaolkkamedaaDoor
open Go.RowKit Go.ChangeShapes Go.WideShapes

/-- An array of pairs of integers that reads as these rows holds their numbers, cell for cell. -/
theorem cells_of_pairs {H : Type} {enc : TypeId × Value → H} {P : Program} {w : World} {base : Nat} {sp : Nat → Bool} {held : Bool} {fuel : Nat} {t e i : TypeId} {n : Nat} {k : IntKind} {cs : List Value} {rows : List (Int × Int)} {p : List MemPlace}
    (ht : P.underlying t = some (.array n e)) (he : P.underlying e = some (.array 2 i)) (hi : P.underlying i = some (.int k)) (hci : P.cellsOf i = 1) (hce : P.cellsOf e = 2) (hct : P.cellsOf t = n * 2)
    (h : DataW.trod enc P w base sp held fuel t cs = some (.agg (rows.map fun r => Lib.tabData k [r.1, r.2]), p)) (hn : rows.length = n) : cs = rows.flatMap fun r => [.int k r.1, .int k r.2] := by
  have hl : cs.length = n * 2 := by
    cases fuel with
    | zero => simp [DataW.trod] at h
    | succ fuel =>
      simp only [DataW.trod, ht] at h
      split at h
      · rename_i hl; rw [hl, hct]
      · cases h
  have hrow : ∀ j (hj : j < n), (cs.drop (j * 2)).take 2 = [.int k (rows[j]'(by omega)).1, .int k (rows[j]'(by omega)).2] := by
    intro j hj
    obtain ⟨fuel', d, q, hd, ht'⟩ := Lib.array_elem ht h j hj
    rw [List.getElem?_map, List.getElem?_eq_getElem (by omega)] at hd
    simp only [Option.map_some, Option.some.injEq] at hd
    subst hd
    rw [hce] at ht'
    exact Lib.cells_of_tab he hi hci hce ht'
  clear h ht hct
  subst hn
  induction rows generalizing cs with
  | nil => simpa using hl
  | cons r rows ih =>
    have h0 := hrow 0 (by simp)
    simp only [Nat.zero_mul, List.drop_zero, List.getElem_cons_zero] at h0
    have h1 := ih (cs := cs.drop 2) (by simp only [List.length_drop, List.length_cons] at hl ⊢; omega) (fun j hj => by
      have := hrow (j + 1) (by simpa using hj)
      rw [List.drop_drop, show 2 + j * 2 = (j + 1) * 2 by omega, this]
      simp)
    rw [List.flatMap_cons, ← h1, ← h0, List.take_append_drop]
theorem heap_of_var {P : Program} {w : World} {name : String} {g : Nat} {cs : Array Value} (hg : P.globalNamed name = some g) (h : w.var? P name = some cs) : ∃ t fr, w.heap[g]? = some (.cells cs t fr) := by
  unfold World.var? at h
  rw [hg] at h
  simp only [Option.bind_some] at h
  split at h
  · rename_i cs' t fr hh
    cases h
    exact ⟨t, fr, hh⟩
  · cases h

theorem tabsExtra : U8Extra Tryd.prog Tryd.lays260_ren :=
  ⟨by kernel_rfl, by kernel_rfl, by kernel_rfl, by kernel_rfl, by kernel_rfl, by kernel_rfl, by kernel_rfl⟩
theorem first_eq : Rows.laid_unicode_utf8_first = Lib.firstData := by kernel_rfl
theorem accept_eq : (Rows.laid_unicode_utf8_acceptRanges : DataW Unit) = Lib.acceptData := by kernel_rfl
theorem start_eq : (Rows.laid_feedvault_text_startRanges : DataW Unit) = .agg (startRanges.map fun r => Lib.tabData .i32 [r.1, r.2]) := by kernel_rfl
theorem more_eq : (Rows.laid_feedvault_text_moreRanges : DataW Unit) = .agg (moreRanges.map fun r => Lib.tabData .i32 [r.1, r.2]) := by kernel_rfl
theorem gStart : Tryd.prog.globalNamed "feedvault/text.startRanges" = some 1 := by kernel_rfl
theorem gMore : Tryd.prog.globalNamed "feedvault/text.moreRanges" = some 0 := by kernel_rfl
theorem tStart : (Tryd.prog.globals[(1 : Nat)]?).map (·.type) = some 89 := by kernel_rfl
theorem tMore : (Tryd.prog.globals[(0 : Nat)]?).map (·.type) = some 88 := by kernel_rfl
theorem cellsStart : Tryd.prog.cellsOf 89 = 30 := by kernel_rfl
theorem cellsMore : Tryd.prog.cellsOf 88 = 10 := by kernel_rfl
theorem cellsPair : Tryd.prog.cellsOf 87 = 2 := by kernel_rfl
theorem cellsRune : Tryd.prog.cellsOf 21 = 1 := by kernel_rfl

/-- The four variables as the rows list them. -/
def laid4 : List (String × DataW Unit) := [("unicode/utf8.acceptRanges", Rows.laid_unicode_utf8_acceptRanges), ("feedvault/text.startRanges", Rows.laid_feedvault_text_startRanges), ("feedvault/text.moreRanges", Rows.laid_feedvault_text_moreRanges), ("unicode/utf8.first", Rows.laid_unicode_utf8_first)]
theorem laid4_plain : laid4.filter (fun x => x.2.handleName?.isSome) = [] := by kernel_rfl
theorem tabs_of_laid {W : World} (h : laidMetH Tryd.prog laid4 W) : Tabs W := by
  unfold laidMetH at h
  rw [laid4_plain] at h
  have r1 := Lib.laidMet.reads h (n := "unicode/utf8.first") (d := Rows.laid_unicode_utf8_first) (by simp [laid4])
  have r2 := Lib.laidMet.reads h (n := "unicode/utf8.acceptRanges") (d := Rows.laid_unicode_utf8_acceptRanges) (by simp [laid4])
  have r3 := Lib.laidMet.reads h (n := "feedvault/text.startRanges") (d := Rows.laid_feedvault_text_startRanges) (by simp [laid4])
  have r4 := Lib.laidMet.reads h (n := "feedvault/text.moreRanges") (d := Rows.laid_feedvault_text_moreRanges) (by simp [laid4])
  rw [first_eq] at r1
  rw [accept_eq] at r2
  rw [start_eq] at r3
  rw [more_eq] at r4
  refine ⟨utf8Tabs_of_reads Tryd.lays260 tabsExtra r1 r2, ?_, ?_⟩
  · obtain ⟨g, t, cs, fuel, p, hg, hty, hvar, hd⟩ := r3
    obtain rfl := Option.some.inj (gStart.symm.trans hg)
    obtain rfl := Option.some.inj (tStart.symm.trans hty)
    have hcs := cells_of_pairs Tryd.underlying89 Tryd.underlying87 Tryd.underlying21 cellsRune cellsPair cellsStart hd rfl
    obtain ⟨t, fr, hh⟩ := heap_of_var hg hvar
    refine ⟨t, fr, ?_⟩
    rw [hh]
    congr 2
    apply Array.ext'
    rw [hcs]
    rfl
  · obtain ⟨g, t, cs, fuel, p, hg, hty, hvar, hd⟩ := r4
    obtain rfl := Option.some.inj (gMore.symm.trans hg)
    obtain rfl := Option.some.inj (tMore.symm.trans hty)
    have hcs := cells_of_pairs Tryd.underlying88 Tryd.underlying87 Tryd.underlying21 cellsRune cellsPair cellsMore hd rfl
    obtain ⟨t, fr, hh⟩ := heap_of_var hg hvar
    refine ⟨t, fr, ?_⟩
    rw [hh]
    congr 2
    apply Array.ext'
    rw [hcs]
    rfl
end Go.Proofs.YthilaolkkamedaaDoor
