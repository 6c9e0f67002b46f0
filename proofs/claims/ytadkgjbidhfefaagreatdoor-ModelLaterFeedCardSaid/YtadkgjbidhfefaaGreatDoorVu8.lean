/-
  The library's word on valid UTF-8, in terms of the decoder.
-/
import Derived.Test.YtadkgjbidhfefaaGreatDoorText4
import Derived.Lib.ValidU
set_option linter.unusedVariables false
namespace Go.Proofs.YtadkgjbidhfefaaGreatDoor
open Go.RowKit

/-! The library's word on valid UTF-8, in terms of the decoder. -/
theorem decodeL_dec {l : Bytes} (h : l ≠ []) : Lib.decodeL l = if (dec l).2 = 0 then (65533, 1) else dec l := utf8_dec l h
theorem decodeL_bad {l : Bytes} (h : l ≠ []) (hd : (Lib.decodeL l).1 = 65533 ∧ (Lib.decodeL l).2 = 1) : (dec l).2 = 0 := by
  by_cases h0 : (dec l).2 = 0
  · exact h0
  · rw [decodeL_dec h, if_neg h0] at hd
    have := dec_one l hd.2
    omega
theorem decodeL_ok {l : Bytes} (h : l ≠ []) (hd : ¬ ((Lib.decodeL l).1 = 65533 ∧ (Lib.decodeL l).2 = 1)) : (dec l).2 ≠ 0 ∧ Lib.decodeL l = dec l := by
  by_cases h0 : (dec l).2 = 0
  · rw [decodeL_dec h, if_pos h0] at hd
    exact absurd ⟨rfl, rfl⟩ hd
  · exact ⟨h0, by rw [decodeL_dec h, if_neg h0]⟩
end Go.Proofs.YtadkgjbidhfefaaGreatDoor
