/-
  Walks of chapter 1: decoding, encoding, checking (program and reference).
-/
import Derived.Test.YtjpphdmpfhdnkaaText1
import Derived.Test.YtjpphdmpfhdnkaaMem
set_option linter.unusedVariables false
namespace Go.Proofs.Ytjpphdmpfhdnkaa
open Go.RowKit

theorem below_drew {B : Nat} {w w' : World} (h : Below B w.drew w') : Below B w w' := ⟨h.os, h.tape, h.output, h.size, h.block⟩
theorem ret_str {a b : Bytes} (h : a = b) : Ending.returned (.string (S a)) = .returned (.string (S b)) := by rw [h]
theorem encI_no {r : Int} (h : r < 0 ∨ 1114111 < r ∨ (55296 ≤ r ∧ r ≤ 57343)) : encI r = [] := by
  unfold encI
  by_cases h0 : r < 0
  · rw [if_pos h0]
  · rw [if_neg h0]
    unfold enc okRune
    rw [if_pos (by omega)]
theorem encI_1 {r : Int} (h : 0 ≤ r) (h1 : r < 128) : encI r = [UInt8.ofNat r.toNat] := by
  unfold encI enc okRune
  rw [if_neg (by omega), if_neg (by omega), if_pos (by omega)]
theorem encI_2 {r : Int} (h : 128 ≤ r) (h1 : r < 2048) : encI r = [UInt8.ofNat (192 + r / 64).toNat, UInt8.ofNat (128 + r % 64).toNat] := by
  unfold encI enc okRune
  rw [if_neg (by omega), if_neg (by omega), if_neg (by omega), if_pos (by omega), show (192 + r / 64).toNat = 192 + r.toNat / 64 by omega, show (128 + r % 64).toNat = 128 + r.toNat % 64 by omega]
theorem encI_3 {r : Int} (h : 2048 ≤ r) (h1 : r < 65536) (h2 : r < 55296 ∨ 57343 < r) : encI r = [UInt8.ofNat (224 + r / 4096).toNat, UInt8.ofNat (128 + r / 64 % 64).toNat, UInt8.ofNat (128 + r % 64).toNat] := by
  unfold encI enc okRune
  rw [if_neg (by omega), if_neg (by omega), if_neg (by omega), if_neg (by omega), if_pos (by omega), show (224 + r / 4096).toNat = 224 + r.toNat / 4096 by omega, show (128 + r / 64 % 64).toNat = 128 + r.toNat / 64 % 64 by omega, show (128 + r % 64).toNat = 128 + r.toNat % 64 by omega]
theorem encI_4 {r : Int} (h : 65536 ≤ r) (h1 : r ≤ 1114111) : encI r = [UInt8.ofNat (240 + r / 262144).toNat, UInt8.ofNat (128 + r / 4096 % 64).toNat, UInt8.ofNat (128 + r / 64 % 64).toNat, UInt8.ofNat (128 + r % 64).toNat] := by
  unfold encI enc okRune
  rw [if_neg (by omega), if_neg (by omega), if_neg (by omega), if_neg (by omega), if_neg (by omega), show (240 + r / 262144).toNat = 240 + r.toNat / 262144 by omega, show (128 + r / 4096 % 64).toNat = 128 + r.toNat / 4096 % 64 by omega, show (128 + r / 64 % 64).toNat = 128 + r.toNat / 64 % 64 by omega, show (128 + r % 64).toNat = 128 + r.toNat % 64 by omega]

set_option maxHeartbeats 1000000 in
theorem refEncode_any (r : Int) (w : World) :
    Calls Try.prog 21 #[.int .i64 r] w fun e w' => e = .returned (.string (S (encI r))) ∧ Below w.heap.size w w' := by
  by_cases h0 : r < 0 ∨ 1114111 < r ∨ (55296 ≤ r ∧ r ≤ 57343)
  · rw [encI_no h0]
    rcases h0 with h0 | h0 | h0
    all_goals
      go_enter Try.func21, Try.ntmps21
      go_wp2
      go_ret
      exact ⟨rfl, Below.refl _ _⟩
  · have hs : r < 55296 ∨ 57343 < r := by omega
    by_cases h1 : r < 128
    · rw [encI_1 (by omega) h1]
      have hr : 0 ≤ r := by omega
      have e := fun w => run_new1 w r (by omega)
      clear h0 hs
      go_enter Try.func21, Try.ntmps21
      go_wp2
      go_ret
      exact ⟨rfl, (Below.refl _ _).alloc (Nat.le_refl _) _⟩
    · by_cases h2 : r < 2048
      · rw [encI_2 (by omega) h2]
        have hr : 128 ≤ r := by omega
        have e := fun w => run_new2 w (192 + r / 64) (128 + r % 64) (by omega) (by omega)
        clear h0 hs h1
        go_enter Try.func21, Try.ntmps21
        go_wp2
        go_ret
        exact ⟨rfl, (Below.refl _ _).alloc (Nat.le_refl _) _⟩
      · by_cases h3 : r < 65536
        · rw [encI_3 (by omega) h3 hs]
          have hr : 2048 ≤ r := by omega
          have e := fun w => run_new3 w (224 + r / 4096) (128 + r / 64 % 64) (128 + r % 64) (by omega) (by omega) (by omega)
          clear h0 h1 h2
          rcases hs with hs | hs
          all_goals
            go_enter Try.func21, Try.ntmps21
            go_wp2
            go_ret
            exact ⟨rfl, (Below.refl _ _).alloc (Nat.le_refl _) _⟩
        · have hr : 65536 ≤ r := by omega
          have hr2 : r ≤ 1114111 := by omega
          rw [encI_4 hr hr2]
          have e := fun w => run_new4 w (240 + r / 262144) (128 + r / 4096 % 64) (128 + r / 64 % 64) (128 + r % 64) (by omega) (by omega) (by omega) (by omega)
          clear h0 h1 h2 h3 hs
          go_enter Try.func21, Try.ntmps21
          go_wp2
          go_ret
          exact ⟨rfl, (Below.refl _ _).alloc (Nat.le_refl _) _⟩

end Go.Proofs.Ytjpphdmpfhdnkaa
