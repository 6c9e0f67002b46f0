/-
  Walk of chapter 3, what chapter 4 uses of it: the reference's Pad.
-/
import Derived.Test.YtooabnmmgmmklaaDoorDate4
import Derived.Test.YtooabnmmgmmklaaDoorMem
set_option linter.unusedVariables false
namespace Go.Proofs.YtooabnmmgmmklaaDoor
open Go.RowKit

theorem oneS4 (W : World) (g : Nat) (a : UInt8) (h0 : W.cell? ⟨g, 0, none⟩ = some (.int .u8 a.toNat)) : (convert 38 9 (.slice (some ⟨g, 0, none⟩) 1 1)).run Tryd.prog W = .ok (.string (S [a])) W := by
  refine run_bytes_string W ⟨g, 0, none⟩ [a] 1 (fun j x hx => ?_)
  have e : (⟨g, 0, none⟩ : Addr).add j = ⟨g, j, none⟩ := by unfold Addr.add; split <;> simp_all
  rw [e]
  match j, hx with
  | 0, hx => simp at hx; subst hx; exact h0
/-- The last digits of a number. -/
def dgs : Nat → Nat → Bytes
  | 0, _ => []
  | k + 1, n => dgs k (n / 10) ++ [dg n]
theorem dgs_2 (n : Nat) : dgs 2 n = d2 n := rfl
theorem dgs_4 (n : Nat) : dgs 4 n = d4 n := by
  unfold d4
  simp only [dgs, List.nil_append, List.cons_append, Nat.div_div_eq_div_mul]
theorem catS4 {P : Program} (x y z : Bytes) (hz : z = x ++ y) (h : x.length + y.length ≤ 4611686018427387904) : ∀ W : World, (Op.stringOp .add (S x) (S y)).run P W = .ok (.string (S z)) W := fun W => by
  rw [run_string_add_sum W (S x) (S y) (by simp only [S, ByteArray.size, List.size_toArray]; omega), hz, S_append]
theorem retS4 {x y : Bytes} (h : x = y) : Ending.returned (.string (S x)) = .returned (.string (S y)) := by rw [h]
set_option maxHeartbeats 4000000 in
set_option maxRecDepth 100000 in
theorem refPad_any (n wd : Nat) (h : n < 10 ^ wd) (hw : 1 ≤ wd) (hw4 : wd ≤ 4) (w : World) :
    Calls Tryd.prog 52 #[.int .i64 n, .int .i64 wd] w fun e w' => e = .returned (.string (S (dgs wd n))) ∧ Below w.heap.size w w' := by
  obtain ⟨D, hD⟩ : ∃ D, dgs wd n = D := ⟨_, rfl⟩
  rw [hD]
  have hn4 : n < 10000 := Nat.lt_of_lt_of_le h (Nat.pow_le_pow_right (by decide) hw4)
  have HD := Lib.hid hD
  have H10 := Lib.hid h
  clear hD h
  go_enter Tryd.func52, Tryd.ntmps52
  go_wp2_with fail
  go_loopw [0, 5] (fun s0 s5 wr => ∃ (u k : Nat) (Y : Bytes), k ≤ wd ∧ u < 10 ^ (wd - k) ∧ u ≤ n ∧ Y.length = k ∧ s0 = .int .i64 (u : Int) ∧ s5 = .string (S Y) ∧ dgs (wd - k) u ++ Y = D ∧ Below w.heap.size w wr) (fun _ s5 _ => match s5 with | .string b => wd - b.size | _ => 0)
  case atStart => exact ⟨n, 0, [], by omega, H10.out, Nat.le_refl _, rfl, rfl, rfl, by rw [List.append_nil]; exact HD.out, Below.refl _ _⟩
  case round =>
    obtain ⟨u, k, Y, hk, hu, hun, hYk, rfl, rfl, hres, hb⟩ := hrel
    have hsY : (S Y).size = k := by rw [← hYk]; simp [S, ByteArray.size]
    have HB := Lib.hid hb
    have hsz := hb.size
    have hun4 : (u : Int) < 10000 := by omega
    by_cases hkw : k < wd
    · obtain ⟨j, hj⟩ : ∃ j, wd - k = j + 1 := ⟨wd - k - 1, by omega⟩
      have e1 : dgs (wd - (k + 1)) (u / 10) ++ (dg u :: Y) = D := by
        rw [← hres, hj, dgs, show wd - (k + 1) = j by omega]; simp
      have e2 : u / 10 < 10 ^ (wd - (k + 1)) := by
        rw [hj, Nat.pow_succ] at hu
        rw [show wd - (k + 1) = j by omega]
        exact Nat.div_lt_of_lt_mul (by rw [Nat.mul_comm]; exact hu)
      have E1 := Lib.hid e1
      have E2 := Lib.hid e2
      have hkw' : (k : Int) < wd := by omega
      have hdg := dg_nat u
      have hdd : u % 10 < 10 := Nat.mod_lt _ (by decide)
      have hcat : ∀ W : World, (Op.stringOp .add (S [dg u]) (S Y)).run Tryd.prog W = .ok (.string (S (dg u :: Y))) W := catS4 [dg u] Y _ rfl (by simp only [List.length_cons, List.length_nil]; omega)
      have hconv := fun W g => oneS4 W g (dg u)
      by_cases hu0 : u = 0
      · subst hu0
        have ed : dg 0 = 48 := by decide
        rw [ed] at hcat hconv E1
        clear hres hu e1 e2 hb hj hdg hdd
        go_wp2_with fail
        go_roundw
        case rel => exact ⟨0, k + 1, 48 :: Y, by omega, E2.out, by omega, by simp [hYk], rfl, rfl, E1.out, HB.out.alloc hsz _⟩
        case measure => simp only [S_size, List.length_cons, hYk]; omega
      · have hup : (0 : Int) < (u : Int) := by omega
        have hmod : ((u : Int)).tmod 10 = ((u % 10 : Nat) : Int) := by rw [Int.tmod_eq_emod_of_nonneg (by omega)]; omega
        have hdiv : ((u : Int)).tdiv 10 = ((u / 10 : Nat) : Int) := by rw [Int.tdiv_eq_ediv_of_nonneg (by omega)]; omega
        have hqu : u / 10 ≤ u := Nat.div_le_self _ _
        generalize hde : dg u = c at *
        generalize hd : u % 10 = d at *
        generalize hq : u / 10 = q at *
        have hwr : IntKind.u8.wrap (48 + (d : Int)) = (c.toNat : Int) := by rw [IntKind.wrap_u8, hdg]; omega
        clear hres hu e1 e2 hb hj hdg hde hd hq
        go_wp2_with fail
        go_roundw
        case rel => exact ⟨q, k + 1, c :: Y, by omega, E2.out, by omega, by simp [hYk], rfl, rfl, E1.out, HB.out.alloc hsz _⟩
        case measure => simp only [S_size, List.length_cons, hYk]; omega
    · have e0 : u = 0 := by rw [show wd - k = 0 by omega] at hu; simpa using hu
      subst e0
      have ey : Y = D := by rw [show wd - k = 0 by omega, dgs] at hres; exact hres
      have hkw' : ¬ (k : Int) < wd := by omega
      have EY := Lib.hid ey
      clear ey hres
      go_wp2_with fail
      go_ret
      exact ⟨retS4 EY.out, HB.out⟩
end Go.Proofs.YtooabnmmgmmklaaDoor
