/-
  From the row's list of package variables to the tables that chapters 10 to 13 read.
-/
import Derived.Test.YtadkgjbidhfefaaDoorTabs0
import Derived.Test.YtadkgjbidhfefaaDoorTabJ
set_option linter.unusedVariables false
namespace Go.Proofs.YtadkgjbidhfefaaDoor
open Go.RowKit Go.ChangeShapes Go.WideShapes

def lettRows : List (Int × Int) := [(98, 8), (102, 12), (110, 10), (114, 13), (116, 9)]
theorem lett_eq : (Rows.laid_feedvault_jsonstring_letters : DataW Unit) = .agg (lettRows.map fun r => Lib.tabData .u8 [r.1, r.2]) := by kernel_rfl
theorem pow_eq : (Rows.laid_internal_strconv_uint64pow10 : DataW Unit) = Lib.tabData .u64 Lib.pow10Tab := by kernel_rfl
theorem gLett : Tryd.prog.globalNamed "feedvault/jsonstring.letters" = some 3 := by kernel_rfl
theorem gPow : Tryd.prog.globalNamed "internal/strconv.uint64pow10" = some 2 := by kernel_rfl
theorem tLett : (Tryd.prog.globals[(3 : Nat)]?).map (·.type) = some 162 := by kernel_rfl
theorem tPow : (Tryd.prog.globals[(2 : Nat)]?).map (·.type) = some 157 := by kernel_rfl
theorem cellsLett : Tryd.prog.cellsOf 162 = 5 * 2 := by kernel_rfl
theorem cellsPairU : Tryd.prog.cellsOf 161 = 2 := by kernel_rfl
theorem cellsPow : Tryd.prog.cellsOf 157 = 20 := by kernel_rfl
theorem cellsU64 : Tryd.prog.cellsOf 145 = 1 := by kernel_rfl
/-- The six variables as the rows list them. -/
def laidJ : List (String × DataW Unit) := [("math/bits.deBruijn32tab", Rows.laid_math_bits_deBruijn32tab), ("math/bits.deBruijn64tab", Rows.laid_math_bits_deBruijn64tab), ("internal/strconv.uint64pow10", Rows.laid_internal_strconv_uint64pow10), ("unicode/utf8.acceptRanges", Rows.laid_unicode_utf8_acceptRanges), ("feedvault/jsonstring.letters", Rows.laid_feedvault_jsonstring_letters), ("unicode/utf8.first", Rows.laid_unicode_utf8_first)]
theorem laidJ_plain : laidJ.filter (fun x => x.2.handleName?.isSome) = [] := by kernel_rfl
theorem tabJ_of_laid {W : World} (h : laidMetH Tryd.prog laidJ W) : TabJ W := by
  unfold laidMetH at h
  rw [laidJ_plain] at h
  have r1 := Lib.laidMet.reads h (n := "unicode/utf8.first") (d := Rows.laid_unicode_utf8_first) (by simp [laidJ])
  have r2 := Lib.laidMet.reads h (n := "unicode/utf8.acceptRanges") (d := Rows.laid_unicode_utf8_acceptRanges) (by simp [laidJ])
  have r3 := Lib.laidMet.reads h (n := "internal/strconv.uint64pow10") (d := Rows.laid_internal_strconv_uint64pow10) (by simp [laidJ])
  have r4 := Lib.laidMet.reads h (n := "feedvault/jsonstring.letters") (d := Rows.laid_feedvault_jsonstring_letters) (by simp [laidJ])
  rw [first_eq] at r1
  rw [accept_eq] at r2
  rw [pow_eq] at r3
  rw [lett_eq] at r4
  refine ⟨utf8_own r1 r2, ?_, ?_⟩
  · obtain ⟨g, t, cs, fuel, p, hg, hty, hvar, hd⟩ := r4
    obtain rfl := Option.some.inj (gLett.symm.trans hg)
    obtain rfl := Option.some.inj (tLett.symm.trans hty)
    have hcs := cells_of_pairs Tryd.underlying162 Tryd.underlying161 Tryd.underlying5 cellsByte cellsPairU cellsLett hd rfl
    obtain ⟨t, fr, hh⟩ := heap_of_var hg hvar
    refine ⟨t, fr, ?_⟩
    rw [hh]
    congr 2
    apply Array.ext'
    rw [hcs]
    rfl
  · obtain ⟨g, t, cs, fuel, p, hg, hty, hvar, hd⟩ := r3
    obtain rfl := Option.some.inj (gPow.symm.trans hg)
    obtain rfl := Option.some.inj (tPow.symm.trans hty)
    have hcs := Lib.cells_of_tab Tryd.underlying157 Tryd.underlying145 cellsU64 cellsPow hd
    unfold Lib.TabIs
    rw [hvar]
    congr 1
    apply Array.ext'
    rw [hcs]
end Go.Proofs.YtadkgjbidhfefaaDoor
