/-
  Plain laws of chapter 5: decimal digits, and what a decimal reference reads as. No program.
-/
import Derived.Test.YtjpphdmpfhdnkaaRefUn
import Derived.Test.YtjpphdmpfhdnkaaRefP
import Derived.Test.YtjpphdmpfhdnkaaPlain5
import Derived.Lib.Repeat
set_option linter.unusedVariables false
namespace Go.Proofs.Ytjpphdmpfhdnkaa

/-- The decimal digits of a number. -/
def digs (n : Nat) : Bytes := if h : n < 10 then [UInt8.ofNat (48 + n)] else digs (n / 10) ++ [UInt8.ofNat (48 + n % 10)]
termination_by n
decreasing_by omega
theorem digs_low {n : Nat} (h : n < 10) : digs n = [UInt8.ofNat (48 + n)] := by rw [digs, dif_pos h]
theorem digs_high {n : Nat} (h : ¬ n < 10) : digs n = digs (n / 10) ++ [UInt8.ofNat (48 + n % 10)] := by rw [digs, dif_neg h]
theorem digs_ne (n : Nat) : digs n ≠ [] := by
  by_cases h : n < 10
  · rw [digs_low h]; simp
  · rw [digs_high h]; simp
theorem digs_len (n : Nat) : (digs n).length ≤ n + 1 := by
  induction n using Nat.strongRecOn with
  | _ n ih =>
    by_cases h : n < 10
    · rw [digs_low h]; simp
    · rw [digs_high h]
      have := ih (n / 10) (by omega)
      simp only [List.length_append, List.length_cons, List.length_nil]
      omega
theorem digs_range (n : Nat) : ∀ b ∈ digs n, 48 ≤ b.toNat ∧ b.toNat ≤ 57 := by
  induction n using Nat.strongRecOn with
  | _ n ih =>
    intro b hb
    by_cases h : n < 10
    · rw [digs_low h, List.mem_singleton] at hb
      rw [hb, u8_of (by omega)]; omega
    · rw [digs_high h, List.mem_append, List.mem_singleton] at hb
      rcases hb with hb | hb
      · exact ih (n / 10) (by omega) b hb
      · rw [hb, u8_of (by omega)]; omega
theorem hexd_dig {k : Nat} (h : k < 10) : hexd (UInt8.ofNat (48 + k)) = k := by
  unfold hexd
  rw [u8_of (by omega), if_pos (by omega)]; omega
theorem valS_digs (n : Nat) : valS 10 0 (digs n) = some n := by
  induction n using Nat.strongRecOn with
  | _ n ih =>
    by_cases h : n < 10
    · rw [digs_low h, valS, hexd_dig h, if_pos h, valS]; simp
    · rw [digs_high h, valS_append, ih (n / 10) (by omega), Option.bind_some, valS, hexd_dig (by omega), if_pos (by omega), valS]
      congr 1; omega
theorem valS_zeros (x : Bytes) : ∀ z, valS 10 0 (Lib.repeatL [48] z ++ x) = valS 10 0 x
  | 0 => by simp [Lib.repeatL]
  | z + 1 => by
    have e : hexd 48 = 0 := by decide
    rw [Lib.repeatL, List.append_assoc, List.singleton_append, valS, e, if_pos (by omega)]
    exact valS_zeros x z
theorem zeros_mem {b : UInt8} : ∀ {z : Nat}, b ∈ Lib.repeatL [48] z → b = 48
  | 0, h => by simp [Lib.repeatL] at h
  | z + 1, h => by
    rw [Lib.repeatL, List.mem_append, List.mem_singleton] at h
    rcases h with h | h
    · exact h
    · exact zeros_mem h
/-- The digits with zeros ahead. -/
def zdigs (z k : Nat) : Bytes := Lib.repeatL [48] z ++ digs k
theorem zdigs_range (z k : Nat) : ∀ b ∈ zdigs z k, 48 ≤ b.toNat ∧ b.toNat ≤ 57 := by
  intro b hb
  rcases List.mem_append.1 hb with h | h
  · rw [zeros_mem h]; decide
  · exact digs_range k b h
theorem zdigs_ne (z k : Nat) : zdigs z k ≠ [] := by
  unfold zdigs; exact List.append_ne_nil_of_right_ne_nil _ (digs_ne k)
theorem zdigs_len (z k : Nat) : (zdigs z k).length ≤ z + k + 1 := by
  have := digs_len k
  have h2 := Lib.repeatL_length [48] z
  unfold zdigs
  rw [List.length_append, h2]
  simp only [List.length_cons, List.length_nil]
  omega
theorem numRef_zdigs (z k : Nat) : numRef 10 (zdigs z k) = if isChar k then some k else none := by
  unfold numRef
  rw [if_neg (zdigs_ne z k)]
  unfold zdigs
  rw [valS_zeros, valS_digs]
  rfl
theorem nameRef_zdigs (z k : Nat) : nameRef (35 :: zdigs z k) = if isChar k then some k else none := by
  rw [nameRef_hash, ← numRef_zdigs z k]
  split
  · rename_i h e
    have := zdigs_range z k 120 (by rw [e]; simp)
    exact absurd this (by decide)
  · rfl
/-- The reference. -/
def zref (z k : Nat) : Bytes := [38, 35] ++ zdigs z k ++ [59]
theorem zref_form (z k : Nat) (t : Bytes) : zref z k ++ t = 38 :: ((35 :: zdigs z k) ++ 59 :: t) := by simp [zref]
theorem zref_len (z k : Nat) : (zref z k).length = (zdigs z k).length + 3 := by simp [zref]
theorem tailRef_zref (z k : Nat) (t : Bytes) : tailRef ((35 :: zdigs z k) ++ 59 :: t) = if isChar k then some (k, (zdigs z k).length + 1) else none := by
  unfold tailRef
  rw [upto_of (by
    intro b hb
    rcases List.mem_cons.1 hb with rfl | hb
    · decide
    · have := zdigs_range z k b hb
      rintro rfl
      exact absurd this (by decide))]
  rw [Option.bind_some, nameRef_zdigs]
  cases isChar k <;> simp
theorem refAt_zref_yes (z k : Nat) (h : isChar k = true) : refAt (zref z k) 0 = ((k : Int), ((zref z k).length : Int), 0) := by
  have e := zref_form z k []
  rw [List.append_nil] at e
  have hr := refAt_in (l := zref z k) (n := 0) (by rw [zref_len]; omega) (by simp [zref])
  rw [zref_len]
  rw [e] at hr ⊢
  simp only [Nat.zero_add, List.drop_succ_cons, List.drop_zero] at hr
  rw [tailRef_zref, if_pos h] at hr
  have h0 : (((0 : Nat) : Int)) = 0 := rfl
  rw [h0] at hr
  rw [hr]
  simp only [Prod.mk.injEq, true_and, and_true]
  omega
theorem refAt_zref_no (z k : Nat) (h : isChar k = false) : refAt (zref z k) 0 = (0, 0, 12) := by
  have e := zref_form z k []
  rw [List.append_nil] at e
  have hr := refAt_in (l := zref z k) (n := 0) (by rw [zref_len]; omega) (by simp [zref])
  rw [e] at hr ⊢
  simp only [Nat.zero_add, List.drop_succ_cons, List.drop_zero] at hr
  rw [tailRef_zref, if_neg (by simp [h])] at hr
  exact hr
theorem unT_zref_yes (z k : Nat) (h : isChar k = true) : unT (zref z k ++ [120]) = (enc k ++ [120], ((zref z k).length : Int) + 1, 0) := by
  have hu : unescS 0 (zref z k ++ [120]) 0 = .ok (enc k ++ [120]) := by
    rw [zref_form, unescS_ref (r := k) (by
      intro b hb
      rcases List.mem_cons.1 hb with rfl | hb
      · decide
      · have := zdigs_range z k b hb
        rintro rfl
        exact absurd this (by decide)) (by rw [nameRef_zdigs, if_pos h])]
    rw [unescS, if_neg (by decide), unescS]
    rfl
  rw [unT_ok hu]
  simp
theorem unT_zref_no (z k : Nat) (h : isChar k = false) : unT (zref z k ++ [120]) = ([], 0, 12) := by
  have hu : unescS 0 (zref z k ++ [120]) 0 = .error 0 := by
    rw [zref_form, unescS, if_pos rfl, tailRef_zref, if_neg (by simp [h])]
  rw [unT_error hu]; rfl
end Go.Proofs.Ytjpphdmpfhdnkaa
