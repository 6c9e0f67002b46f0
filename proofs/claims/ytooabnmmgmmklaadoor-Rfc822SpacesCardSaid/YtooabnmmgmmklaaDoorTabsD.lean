/-
  From the row's list of package variables to the tables that chapter 4 reads; a start that fits.
-/
import Derived.Test.YtooabnmmgmmklaaDoorTabs0
import Derived.Test.YtooabnmmgmmklaaDoorTab4
import Derived.Lay
import Derived.ProofKit
set_option linter.unusedVariables false
namespace Go.Proofs.YtooabnmmgmmklaaDoor
open Go.RowKit Go.ChangeShapes Go.WideShapes

/-- An array of strings that reads as these holds them, cell for cell. -/
theorem cells_of_strs {H : Type} {enc : TypeId × Value → H} {P : Program} {w : World} {base : Nat} {sp : Nat → Bool} {held : Bool} {fuel : Nat} {t e : TypeId} {n : Nat} {cs : List Value} {rows : List (List UInt8)} {p : List MemPlace}
    (ht : P.underlying t = some (.array n e)) (he : P.underlying e = some .string) (hce : P.cellsOf e = 1) (hct : P.cellsOf t = n)
    (h : DataW.trod enc P w base sp held fuel t cs = some (.agg (rows.map fun r => .lit (.string r)), p)) (hn : rows.length = n) : cs = rows.map fun r => Value.string (S r) := by
  have hl : cs.length = n := by
    cases fuel with
    | zero => simp [DataW.trod] at h
    | succ fuel =>
      simp only [DataW.trod, ht] at h
      split at h
      · rename_i hl; rw [hl, hct]
      · cases h
  refine List.ext_getElem? fun j => ?_
  by_cases hj : j < n
  · obtain ⟨fuel', d, q, hd, ht'⟩ := Lib.array_elem ht h j hj
    rw [List.getElem?_map, List.getElem?_eq_getElem (by omega)] at hd
    simp only [Option.map_some, Option.some.injEq] at hd
    subst hd
    rw [hce, Nat.mul_one] at ht'
    obtain ⟨s, hs, hx, _⟩ := DataW.trod_string he ht'
    have hs2 : cs[j]? = some (.string s) := by
      have := congrArg (·[0]?) hs
      simpa [List.getElem?_take, List.getElem?_drop] using this
    have hx2 : rows[j]'(by omega) = s.data.toList := by simpa using congrArg Prod.fst hx
    rw [hs2, List.getElem?_map, List.getElem?_eq_getElem (by omega), Option.map_some, hx2, S_data']
  · rw [List.getElem?_eq_none (by omega), List.getElem?_eq_none (by rw [List.length_map]; omega)]
theorem maxLen4_of {W : World} (h : W.ShapedOpen Tryd.prog) : ∃ m, W.cell? ⟨3, 0, none⟩ = some (.int .i64 m) :=
  Go.Proofs.cell_of_shapedOpen_int (zero := #[.int .i64 0]) (t := 3) h (of_decide_eq_true (by kernel_rfl)) (by kernel_rfl) rfl (by kernel_rfl) (by kernel_rfl) Tryd.underlying3
theorem pow_eq4 : (Rows.laid_internal_strconv_uint64pow10 : DataW Unit) = Lib.tabData .u64 Lib.pow10Tab := by kernel_rfl
theorem days_eq4 : (Rows.laid_feedvault_rfc822_dayNames : DataW Unit) = .agg (dayTab.map fun r => .lit (.string r)) := by kernel_rfl
theorem mons_eq4 : (Rows.laid_feedvault_rfc822_monthNames : DataW Unit) = .agg (monTab.map fun r => .lit (.string r)) := by kernel_rfl
theorem gPow4 : Tryd.prog.globalNamed "internal/strconv.uint64pow10" = some 8 := by kernel_rfl
theorem gDays4 : Tryd.prog.globalNamed "feedvault/rfc822.dayNames" = some 0 := by kernel_rfl
theorem gMons4 : Tryd.prog.globalNamed "feedvault/rfc822.monthNames" = some 1 := by kernel_rfl
theorem tPow4 : (Tryd.prog.globals[(8 : Nat)]?).map (·.type) = some 148 := by kernel_rfl
theorem tDays4 : (Tryd.prog.globals[(0 : Nat)]?).map (·.type) = some 34 := by kernel_rfl
theorem tMons4 : (Tryd.prog.globals[(1 : Nat)]?).map (·.type) = some 49 := by kernel_rfl
theorem cPow4 : Tryd.prog.cellsOf 148 = 20 := by kernel_rfl
theorem cU64 : Tryd.prog.cellsOf 126 = 1 := by kernel_rfl
theorem cDays4 : Tryd.prog.cellsOf 34 = 7 := by kernel_rfl
theorem cMons4 : Tryd.prog.cellsOf 49 = 12 := by kernel_rfl
theorem cStr4 : Tryd.prog.cellsOf 9 = 1 := by kernel_rfl
theorem tab4_of_reads {W : World} (r1 : Lib.VarReads Tryd.prog W "unicode/utf8.first" Lib.firstData) (r2 : Lib.VarReads Tryd.prog W "unicode/utf8.acceptRanges" Lib.acceptData) (r3 : Lib.VarReads Tryd.prog W "internal/strconv.uint64pow10" (Lib.tabData .u64 Lib.pow10Tab))
    (r4 : Lib.VarReads Tryd.prog W "feedvault/rfc822.dayNames" (.agg (dayTab.map fun r => .lit (.string r)))) (r5 : Lib.VarReads Tryd.prog W "feedvault/rfc822.monthNames" (.agg (monTab.map fun r => .lit (.string r)))) (hS : W.ShapedOpen Tryd.prog) : Tab4 W := by
  refine ⟨utf8_own r1 r2, ?_, ?_, ?_, maxLen4_of hS⟩
  · obtain ⟨g, t, cs, fuel, p, hg, hty, hvar, hd⟩ := r4
    obtain rfl := Option.some.inj (gDays4.symm.trans hg)
    obtain rfl := Option.some.inj (tDays4.symm.trans hty)
    have hcs := cells_of_strs Tryd.underlying34 Tryd.underlying9 cStr4 cDays4 hd rfl
    obtain ⟨t, fr, hh⟩ := heap_of_var hg hvar
    refine ⟨t, fr, ?_⟩
    rw [hh]
    congr 2
    apply Array.ext'
    rw [hcs]
    rfl
  · obtain ⟨g, t, cs, fuel, p, hg, hty, hvar, hd⟩ := r5
    obtain rfl := Option.some.inj (gMons4.symm.trans hg)
    obtain rfl := Option.some.inj (tMons4.symm.trans hty)
    have hcs := cells_of_strs Tryd.underlying49 Tryd.underlying9 cStr4 cMons4 hd rfl
    obtain ⟨t, fr, hh⟩ := heap_of_var hg hvar
    refine ⟨t, fr, ?_⟩
    rw [hh]
    congr 2
    apply Array.ext'
    rw [hcs]
    rfl
  · obtain ⟨g, t, cs, fuel, p, hg, hty, hvar, hd⟩ := r3
    obtain rfl := Option.some.inj (gPow4.symm.trans hg)
    obtain rfl := Option.some.inj (tPow4.symm.trans hty)
    have hcs := Lib.cells_of_tab Tryd.underlying148 Tryd.underlying126 cU64 cPow4 hd
    unfold Lib.TabIs
    rw [hvar]
    congr 1
    apply Array.ext'
    rw [hcs]
/-- The nine variables as the rows list them; the last row lists one more. -/
def laidD : List (String × DataW Unit) := Rows.rfc822FormatMatchesReferenceRow.laid
def laidE : List (String × DataW Unit) := Rows.rfc822RoundTripRow.laid
theorem laidD_plain : laidD.filter (fun x => x.2.handleName?.isSome) = [] := by kernel_rfl
theorem laidE_plain : laidE.filter (fun x => x.2.handleName?.isSome) = [] := by kernel_rfl
theorem tab4_of_list {W : World} {l : List (String × DataW Unit)} (hp : l.filter (fun x => x.2.handleName?.isSome) = []) (h : laidMetH Tryd.prog l W) (hS : W.ShapedOpen Tryd.prog)
    (m1 : ("unicode/utf8.first", Rows.laid_unicode_utf8_first) ∈ l) (m2 : ("unicode/utf8.acceptRanges", Rows.laid_unicode_utf8_acceptRanges) ∈ l) (m3 : ("internal/strconv.uint64pow10", Rows.laid_internal_strconv_uint64pow10) ∈ l) (m4 : ("feedvault/rfc822.dayNames", Rows.laid_feedvault_rfc822_dayNames) ∈ l) (m5 : ("feedvault/rfc822.monthNames", Rows.laid_feedvault_rfc822_monthNames) ∈ l) : Tab4 W := by
  unfold laidMetH at h
  rw [hp] at h
  have r1 := Lib.laidMet.reads h m1
  have r2 := Lib.laidMet.reads h m2
  have r3 := Lib.laidMet.reads h m3
  have r4 := Lib.laidMet.reads h m4
  have r5 := Lib.laidMet.reads h m5
  rw [first_eq] at r1
  rw [accept_eq] at r2
  rw [pow_eq4] at r3
  rw [days_eq4] at r4
  rw [mons_eq4] at r5
  exact tab4_of_reads r1 r2 r3 r4 r5 hS
theorem tab4_of_laidD {W : World} (h : laidMetH Tryd.prog laidD W) (hS : W.ShapedOpen Tryd.prog) : Tab4 W :=
  tab4_of_list laidD_plain h hS (by simp [laidD, Rows.rfc822FormatMatchesReferenceRow]) (by simp [laidD, Rows.rfc822FormatMatchesReferenceRow]) (by simp [laidD, Rows.rfc822FormatMatchesReferenceRow]) (by simp [laidD, Rows.rfc822FormatMatchesReferenceRow]) (by simp [laidD, Rows.rfc822FormatMatchesReferenceRow])
theorem tab4_of_laidE {W : World} (h : laidMetH Tryd.prog laidE W) (hS : W.ShapedOpen Tryd.prog) : Tab4 W :=
  tab4_of_list laidE_plain h hS (by simp [laidE, Rows.rfc822RoundTripRow]) (by simp [laidE, Rows.rfc822RoundTripRow]) (by simp [laidE, Rows.rfc822RoundTripRow]) (by simp [laidE, Rows.rfc822RoundTripRow]) (by simp [laidE, Rows.rfc822RoundTripRow])

/-! Starts that fit. -/
theorem laidD_met (os : Os) (args : Array Value) : laidMetH Tryd.prog laidD ((World.laidAll Tryd.prog os laidD).forCall (fun _ _ => 0) ⟨#[], args, []⟩).memory := by
  unfold laidMetH
  rw [laidD_plain]
  exact laidMet_laidAll _ (by kernel_rfl) (by kernel_rfl)
theorem laidE_met (os : Os) (args : Array Value) : laidMetH Tryd.prog laidE ((World.laidAll Tryd.prog os laidE).forCall (fun _ _ => 0) ⟨#[], args, []⟩).memory := by
  unfold laidMetH
  rw [laidE_plain]
  exact laidMet_laidAll _ (by kernel_rfl) (by kernel_rfl)
theorem own : ownKnob Tryd.prog.godebug = none := by kernel_rfl
end Go.Proofs.YtooabnmmgmmklaaDoor
