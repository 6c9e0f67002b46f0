/-
  Walk of chapter 12, the reference: Decimal.
-/
import Derived.Test.YtadkgjbidhfefaaGreatDoorQuo12
import Derived.Lib.ItoaNum
set_option linter.unusedVariables false
namespace Go.Proofs.YtadkgjbidhfefaaGreatDoor
open Go.RowKit

theorem one_string (W : World) (g : Nat) (a : UInt8) (h0 : W.cell? ⟨g, 0, none⟩ = some (.int .u8 a.toNat)) : (convert 80 9 (.slice (some ⟨g, 0, none⟩) 1 1)).run Tryz.prog W = .ok (.string (S [a])) W := by
  refine run_bytes_string W ⟨g, 0, none⟩ [a] 1 (fun j x hx => ?_)
  rw [add_zero_block]
  match j, hx with
  | 0, hx => simp at hx; subst hx; exact h0
  | j + 1, hx => simp at hx
theorem decD_big {u : Nat} (h : ¬ u < 10) : Lib.decDigits u = Lib.decDigits (u / 10) ++ [UInt8.ofNat (48 + u % 10)] := by rw [Lib.decDigits, dif_neg h]
theorem decD_small {u : Nat} (h : u < 10) : Lib.decDigits u = [UInt8.ofNat (48 + u % 10)] := by rw [Lib.decDigits, dif_pos h, Nat.mod_eq_of_lt h]
theorem dig_nat (d : Nat) (h : d < 10) : ((UInt8.ofNat (48 + d)).toNat : Int) = 48 + (d : Int) := by
  have : (UInt8.ofNat (48 + d)).toNat = 48 + d := u8_of (by omega)
  omega

set_option maxHeartbeats 4000000 in
set_option maxRecDepth 100000 in
theorem decimal_any (n : Int) (h0 : -9223372036854775808 ≤ n) (h1 : n ≤ 9223372036854775807) (w : World) :
    Calls Tryz.prog 46 #[.int .i64 n] w fun e w' => e = .returned (.string (S (Lib.itoa n))) ∧ Below w.heap.size w w' := by
  have hil := itoa_len n h0 h1
  by_cases hn : n < 0
  · obtain ⟨v, hv⟩ : ∃ v : Nat, n = -(v : Int) := ⟨n.natAbs, by omega⟩
    have hit : Lib.itoa n = 45 :: Lib.decDigits v := by unfold Lib.itoa; rw [if_pos hn, hv]; congr 2; omega
    obtain ⟨T, hT⟩ : ∃ T, Lib.decDigits v = T := ⟨_, rfl⟩
    rw [hit, hT] at hil ⊢
    have htl : T.length ≤ 19 := by simpa using hil
    have hvb : v ≤ 9223372036854775808 := by omega
    have hg : ∀ W : World, (Op.stringOp .add ⟨#[45]⟩ (S T)).run Tryz.prog W = .ok (.string (S (45 :: T))) W := run_catJ [45] T _ rfl (by simp only [List.length_cons, List.length_nil]; omega)
    have HT := Lib.hid hT
    have hn' : ((-(v : Int)) < 0) := by omega
    subst hv
    clear hit hil hT h0 h1
    go_enter Tryz.func46, Tryz.ntmps46
    go_wp2_with fail
    go_loopw [3, 4] (fun s3 m4 wr => ∃ (u : Nat) (Y : Bytes), u ≤ v ∧ m4 = .int .i64 (-(u : Int)) ∧ s3 = .string (S Y) ∧ Lib.decDigits u ++ Y = T ∧ Below w.heap.size w wr) (fun _ m4 _ => (intOf m4).natAbs)
    case atStart => exact ⟨v, [], Nat.le_refl _, rfl, rfl, by rw [List.append_nil]; exact HT.out, Below.refl _ _⟩
    case round =>
      obtain ⟨u, Y, hu, rfl, rfl, hres, hb⟩ := hrel
      have HB := Lib.hid hb
      have hsz := hb.size
      have hdd : u % 10 < 10 := Nat.mod_lt _ (by decide)
      have hmod : (-(u : Int)).tmod 10 = -((u % 10 : Nat) : Int) := by rw [Int.neg_tmod, Int.tmod_eq_emod_of_nonneg (by omega)]; omega
      have hdiv : (-(u : Int)).tdiv 10 = -((u / 10 : Nat) : Int) := by rw [Int.neg_tdiv, Int.tdiv_eq_ediv_of_nonneg (by omega)]; omega
      have hdg := dig_nat (u % 10) hdd
      have hYl : Y.length ≤ 19 := by have := congrArg List.length hres; simp only [List.length_append] at this; omega
      have hs10 : u < 10 → [UInt8.ofNat (48 + u % 10)] ++ Y = T := fun h => by rw [← decD_small h]; exact hres
      have hb10 : ¬ u < 10 → Lib.decDigits (u / 10) ++ (UInt8.ofNat (48 + u % 10) :: Y) = T := fun h => by rw [← hres, decD_big h]; simp
      clear hres hb HT
      generalize hd : u % 10 = d at *
      generalize hce : UInt8.ofNat (48 + d) = c at *
      have HCE := Lib.hid hce
      clear hce
      have hw : IntKind.u8.wrap (48 + (d : Int)) = (c.toNat : Int) := by rw [IntKind.wrap_u8, hdg]; omega
      have hcat : ∀ W : World, (Op.stringOp .add (S [c]) (S Y)).run Tryz.prog W = .ok (.string (S (c :: Y))) W := run_catJ [c] Y _ rfl (by simp only [List.length_cons, List.length_nil]; omega)
      have hconv := fun W g => one_string W g c
      have HS10 := Lib.hid hs10
      have HB10 := Lib.hid hb10
      have HHD := Lib.hid hd
      clear hs10 hb10 hdg hd
      by_cases hlt : u < 10
      · have q1 : (-10 : Int) < -(u : Int) := by omega
        have q2 : (-(u : Int)) < 10 := by omega
        by_cases hd0 : d = 0
        · subst hd0
          have e48 : c = 48 := HCE.out.symm
          subst e48
          go_wp2_with fail
          go_ret
          exact ⟨ret_SJ (by rw [← HS10.out hlt]; rfl), HB.out.alloc hsz _⟩
        · have q3 : (-(d : Int)) < 0 := by omega
          go_wp2_with fail
          go_ret
          exact ⟨ret_SJ (by rw [← HS10.out hlt]; rfl), HB.out.alloc hsz _⟩
      · have q1 : ¬ (-10 : Int) < -(u : Int) := by omega
        by_cases hd0 : d = 0
        · subst hd0
          have e48 : c = 48 := HCE.out.symm
          subst e48
          go_wp2_with fail
          go_roundw
          case rel => exact ⟨u / 10, 48 :: Y, by omega, by rfl, rfl, HB10.out hlt, HB.out.alloc hsz _⟩
          case measure => simp [intOf]; omega
        · have q3 : (-(d : Int)) < 0 := by omega
          go_wp2_with fail
          go_roundw
          case rel => exact ⟨u / 10, c :: Y, by omega, by rfl, rfl, HB10.out hlt, HB.out.alloc hsz _⟩
          case measure => simp [intOf]; omega
  · obtain ⟨v, hv⟩ : ∃ v : Nat, n = (v : Int) := ⟨n.toNat, by omega⟩
    have hit : Lib.itoa n = Lib.decDigits v := by unfold Lib.itoa; rw [if_neg hn, hv]; congr 1
    obtain ⟨T, hT⟩ : ∃ T, Lib.decDigits v = T := ⟨_, rfl⟩
    rw [hit, hT] at hil ⊢
    have HT := Lib.hid hT
    subst hv
    have hn' : ¬ ((v : Int) < 0) := by omega
    have HVM := Lib.hid (show v ≤ 9223372036854775807 by omega)
    clear hit hT h0 h1 hn
    go_enter Tryz.func46, Tryz.ntmps46
    go_wp2_with fail
    go_loopw [3, 4] (fun s3 m4 wr => ∃ (u : Nat) (Y : Bytes), u ≤ v ∧ m4 = .int .i64 (u : Int) ∧ s3 = .string (S Y) ∧ Lib.decDigits u ++ Y = T ∧ Below w.heap.size w wr) (fun _ m4 _ => (intOf m4).natAbs)
    case atStart => exact ⟨v, [], Nat.le_refl _, rfl, rfl, by rw [List.append_nil]; exact HT.out, Below.refl _ _⟩
    case round =>
      obtain ⟨u, Y, hu, rfl, rfl, hres, hb⟩ := hrel
      have HB := Lib.hid hb
      have hsz := hb.size
      have hdd : u % 10 < 10 := Nat.mod_lt _ (by decide)
      have hmod : ((u : Int)).tmod 10 = ((u % 10 : Nat) : Int) := by rw [Int.tmod_eq_emod_of_nonneg (by omega)]; omega
      have hdiv : ((u : Int)).tdiv 10 = ((u / 10 : Nat) : Int) := by rw [Int.tdiv_eq_ediv_of_nonneg (by omega)]; omega
      have hdg := dig_nat (u % 10) hdd
      have hYl : Y.length ≤ 20 := by have := congrArg List.length hres; simp only [List.length_append] at this; omega
      have hs10 : u < 10 → [UInt8.ofNat (48 + u % 10)] ++ Y = T := fun h => by rw [← decD_small h]; exact hres
      have hb10 : ¬ u < 10 → Lib.decDigits (u / 10) ++ (UInt8.ofNat (48 + u % 10) :: Y) = T := fun h => by rw [← hres, decD_big h]; simp
      clear hres hb HT
      generalize hd : u % 10 = d at *
      generalize UInt8.ofNat (48 + d) = c at *
      have hw : IntKind.u8.wrap (48 + (d : Int)) = (c.toNat : Int) := by rw [IntKind.wrap_u8, hdg]; omega
      have hcat : ∀ W : World, (Op.stringOp .add (S [c]) (S Y)).run Tryz.prog W = .ok (.string (S (c :: Y))) W := run_catJ [c] Y _ rfl (by simp only [List.length_cons, List.length_nil]; omega)
      have hconv := fun W g => one_string W g c
      have HS10 := Lib.hid hs10
      have HB10 := Lib.hid hb10
      have q3 : ¬ ((d : Int) < 0) := by omega
      have q4 : (-10 : Int) < (u : Int) := by omega
      clear hs10 hb10 hdg hd
      by_cases hlt : u < 10
      · have q2 : ((u : Int)) < 10 := by omega
        go_wp2_with fail
        go_ret
        exact ⟨ret_SJ (by rw [← HS10.out hlt]; rfl), HB.out.alloc hsz _⟩
      · have q2 : ¬ ((u : Int)) < 10 := by omega
        have HW6 := Lib.hid (show wrap64 ((u : Int) / 10) = (u : Int) / 10 by have := HVM.out; unfold wrap64; omega)
        go_wp2_with fail
        go_roundw
        case rel => exact ⟨u / 10, c :: Y, by omega, val_int (by rw [HW6.out]; omega), rfl, HB10.out hlt, HB.out.alloc hsz _⟩
        case measure =>
          have e : ((u : Int) / 10) = ((u / 10 : Nat) : Int) := by omega
          rw [HW6.out, e]
          simp only [intOf, Int.natAbs_natCast]
          omega
end Go.Proofs.YtadkgjbidhfefaaGreatDoor
