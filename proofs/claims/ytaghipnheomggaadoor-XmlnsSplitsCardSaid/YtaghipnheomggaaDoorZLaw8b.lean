/-
  Walk of chapter 8's statement Splits.
-/
import Derived.Test.YtaghipnheomggaaDoorG1
set_option linter.unusedVariables false
namespace Go.Proofs.YtaghipnheomggaaDoor
open Go.RowKit

set_option maxHeartbeats 1000000 in
theorem law8splits_any (l : Bytes) (w : World) (hT : Tabs w) (hl : l.length ≤ 9223372036854775807) :
    Calls Tryd.prog 3 #[.string (S l)] w fun e w' => e = .returned (.bool true) ∧ Below w.heap.size w w' := by
  have hal := fun W => fun (hW : Below w.heap.size w W) => alive8_any W (hT.next hW)
  have HAL := Lib.hid hal
  by_cases h5 : 5000 < l.length
  · have h5' : (5000 : Int) < l.length := by omega
    clear hal hT
    go_enter Tryd.func3, Tryd.ntmps3
    go_wp2_with (go_at_call 9; refine (HAL.out _ (Below.refl _ _)).mono ?_; rintro e w1 ⟨rfl, hb1⟩)
    go_ret
    exact ⟨rfl, hb1⟩
  · have h5' : ¬ (5000 : Int) < l.length := by omega
    have h1 := split_any l w hT (by omega)
    have h2 := fun W => refSplit_any l W (by omega)
    generalize splR l = R at *
    obtain ⟨p, q, c⟩ := R
    have H1 := Lib.hid h1
    have H2 := Lib.hid h2
    clear hal hT h1 h2
    go_enter Tryd.func3, Tryd.ntmps3
    go_wp2_with (first
      | (go_at_call 10; refine H1.out.mono ?_; rintro e w1 ⟨rfl, hb1⟩)
      | (go_at_call 11; refine (H2.out _).mono ?_; rintro e w2 ⟨rfl, hb2⟩; have hb2' := hb1.trans (hb2.mono hb1.size))
      | (go_at_call 9; refine (HAL.out _ hb2').mono ?_; rintro e w3 ⟨rfl, hb3⟩))
    go_ret
    exact ⟨by simp, hb2'.trans (hb3.mono hb2'.size)⟩
end Go.Proofs.YtaghipnheomggaaDoor
