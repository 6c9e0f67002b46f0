/-
  Chapter 04, plain: a few digits are what strconv.Atoi reads. No program.
-/
import Derived.Test.YtooabnmmgmmklaaDoorRef4
import Derived.Lib.AtoiAllCases
set_option linter.unusedVariables false
namespace Go.Proofs.YtooabnmmgmmklaaDoor

theorem valD_le : ∀ (l : Bytes) (v : Nat), v ≤ valD v l
  | [], v => by rw [valD_nil]; exact Nat.le_refl v
  | c :: l, v => by rw [valD_cons]; have := valD_le l (v * 10 + (c.toNat - 48)); omega
theorem pu10_valD : ∀ (l : Bytes) (a : Nat), l.all isDig = true → valD a l < 18446744073709551616 → Lib.parseUint10 a l = .ok (valD a l)
  | [], a, _, _ => rfl
  | c :: l, a, h, hb => by
    rw [List.all_cons, Bool.and_eq_true] at h
    have hc : 48 ≤ c.toNat ∧ c.toNat ≤ 57 := by have := h.1; unfold isDig at this; rwa [decide_eq_true_eq] at this
    rw [valD_cons] at hb ⊢
    have := valD_le l (a * 10 + (c.toNat - 48))
    rw [Lib.parseUint10, if_pos hc, if_neg (by omega), if_neg (by omega)]
    exact pu10_valD l _ h.2 hb
/-- Digits are what Atoi reads. -/
theorem atoi_digits {s : Bytes} (h0 : s ≠ []) (ha : s.all isDig = true) (hl : s.length ≤ 18) : Lib.atoiAll s = .ok (valD 0 s : Int) ∧ valD 0 s < 1000000000000000000 := by
  have hb := valD_bound s 0 ha
  have h18 : 10 ^ s.length ≤ 10 ^ 18 := Nat.pow_le_pow_right (by decide) hl
  have e18 : (10 : Nat) ^ 18 = 1000000000000000000 := by decide
  have hv : valD 0 s < 1000000000000000000 := by omega
  refine ⟨?_, hv⟩
  cases s with
  | nil => exact absurd rfl h0
  | cons c r =>
    have hc : 48 ≤ c.toNat ∧ c.toNat ≤ 57 := by
      rw [List.all_cons, Bool.and_eq_true] at ha
      have := ha.1; unfold isDig at this; rwa [decide_eq_true_eq] at this
    rw [Lib.atoiAll_plain c r (by omega) (by omega)]
    unfold Lib.parseMag
    rw [if_neg (by simp), pu10_valD _ 0 ha (by omega)]
    unfold Lib.signless
    simp only
    rw [if_neg (by omega)]
end Go.Proofs.YtooabnmmgmmklaaDoor
