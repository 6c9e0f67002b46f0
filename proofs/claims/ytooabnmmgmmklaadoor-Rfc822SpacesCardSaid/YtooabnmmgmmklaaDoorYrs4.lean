/-
  Plain law of chapter 4: years with two digits, a missing second. No program.
-/
import Derived.Test.YtooabnmmgmmklaaDoorRnd4
set_option linter.unusedVariables false
namespace Go.Proofs.YtooabnmmgmmklaaDoor

def zoneN : List Bytes := [[85, 84], [122], [69, 115, 116], [80, 68, 84], [43, 48, 48, 48, 48], [45, 48, 53, 48, 48]]
def zoneH : List Int := [0, 0, -5, -7, 0, -5]
def fullY (y : Nat) : Nat := if 50 ≤ y then 1900 + y else 2000 + y
def docY (y d : Nat) (z : Bytes) : Bytes := d2 d ++ ([32, 70, 101, 98, 32] ++ (d2 y ++ ([32, 49, 50, 58, 51, 52, 32] ++ z)))
theorem zone_ok : ∀ k : Fin 6, zoneOf (zoneN.getD k.1 []) = some (60 * zoneH.getD k.1 0) ∧ ((zoneN.getD k.1 []).all fun c => !spc c) = true ∧ zoneN.getD k.1 [] ≠ [] ∧ -7 ≤ zoneH.getD k.1 0 ∧ zoneH.getD k.1 0 ≤ 0 := by decide
theorem feb_date {y d : Nat} (h1 : 1 ≤ d) (h2 : d ≤ 28) (hy : y < 100) : isDate (fullY y) 2 d = true := by
  rw [isDate_iff]
  have hf : 1950 ≤ fullY y ∧ fullY y ≤ 2049 := by unfold fullY; split <;> omega
  have := dimY_pos (y := fullY y) (m := 2) (by omega) (by omega) (by decide) (by decide)
  omega
theorem parse4_years {y d k : Nat} (h1 : 1 ≤ d) (h2 : d ≤ 28) (hy : y < 100) (hk : k < 6) : parse4 (docY y d (zoneN.getD k [])) = (dayNo (fullY y) 2 d * 86400 + 12 * 3600 + 34 * 60 + 0 - 3600 * zoneH.getD k 0, 0) := by
  obtain ⟨z1, z2, z3, z4, z5⟩ := zone_ok ⟨k, hk⟩
  simp only at z1 z2 z3 z4 z5
  have hz : isWord (zoneN.getD k []) := ⟨z3, fun c hc => by rw [List.all_eq_true] at z2; simpa using z2 c hc⟩
  generalize zoneN.getD k [] = z at *
  generalize zoneH.getD k 0 = zh at *
  have hd := feb_date h1 h2 hy
  have hf : 1950 ≤ fullY y ∧ fullY y ≤ 2049 := by unfold fullY; split <;> omega
  have hr : -62135596800 + 100000 ≤ dayNo (fullY y) 2 d * 86400 ∧ dayNo (fullY y) 2 d * 86400 + 200000 ≤ 253402300799 := by
    have h3 := bef_mono (y := 1950) (z := fullY y) (by decide) (by omega) (by omega)
    have h4 := bef_mono (y := fullY y) (z := 2050) (by omega) (by omega) (by decide)
    have e1 : bef 1950 = 711857 := by decide
    have e2 : bef 2050 = 748382 := by decide
    have h5 := mon_nonneg (fullY y) (2 - 1 : Int).toNat
    have h6 : mon (fullY y) (2 - 1 : Int).toNat ≤ 31 := by
      have e : (2 - 1 : Int).toNat = 1 := rfl
      rw [e]
      show 0 + dimY _ _ ≤ 31
      exact Int.le_trans (Int.add_le_add (Int.le_refl 0) (dimY_le _ _).2) (by decide)
    unfold dayNo
    omega
  have hj : docY y d z = joinW [d2 d, [70, 101, 98], d2 y, [49, 50, 58, 51, 52], z] := by simp [docY, joinW]
  rw [hj, parse4_join (fun x hx => by
    simp only [List.mem_cons, List.not_mem_nil, or_false] at hx
    rcases hx with rfl | rfl | rfl | rfl | rfl
    · exact d2_word d
    · exact ⟨by decide, by decide⟩
    · exact d2_word y
    · exact ⟨by decide, by decide⟩
    · exact hz) (by simp)]
  unfold parseW
  rw [show ([d2 d, [70, 101, 98], d2 y, [49, 50, 58, 51, 52], z].headD []) = d2 d from rfl, isDay_d2]
  simp only [Bool.false_eq_true, if_false]
  have e1 : yearOf (d2 y) = some (fullY y) := by
    unfold yearOf
    have : num 2 4 (d2 y) = some y := by
      have h3 := (num_d2 hy).1
      unfold num at h3 ⊢
      split at h3
      · rename_i hh
        rw [if_pos ⟨hh.1, by omega, hh.2.2⟩]; exact h3
      · cases h3
    rw [this]
    have hl : (d2 y).length = 2 := rfl
    simp only
    rw [hl, if_neg (by decide), if_neg (by decide)]
    unfold fullY
    by_cases h5 : 50 ≤ y
    · rw [if_neg (by omega), if_pos h5]; congr 1; omega
    · rw [if_pos (by omega), if_neg h5]; congr 1; omega
  have e2 : clockOf [49, 50, 58, 51, 52] = some (12, 34, 0) := by decide
  have e3 : monthOf [70, 101, 98] = 2 := by decide
  unfold words5
  rw [(num_d2 (by omega)).2, e1, e2, z1, e3]
  simp only
  rw [if_neg (by decide)]
  have e4 : secOf (fullY y) ((2 : Nat) : Int) d ((12 : Nat) : Int) ((34 : Nat) : Int) ((0 : Nat) : Int) = some (dayNo (fullY y) 2 d * 86400 + 12 * 3600 + 34 * 60 + 0) := by
    unfold secOf
    rw [if_pos ⟨hd, by decide, by decide, by decide, by decide, by decide, by decide⟩]
    rfl
  rw [e4]
  simp only
  rw [if_neg (by omega)]
  congr 1
  omega
end Go.Proofs.YtooabnmmgmmklaaDoor
