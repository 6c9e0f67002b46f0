/-
  Walks of chapter 4's statements: the round trip; white space.
-/
import Derived.Test.YtooabnmmgmmklaaDoorLaw4c
import Derived.Test.YtooabnmmgmmklaaDoorShelfR
set_option linter.unusedVariables false
namespace Go.Proofs.YtooabnmmgmmklaaDoor
open Go.RowKit

theorem toLower4 (X : Bytes) (hl : X.length ≤ 1000) (ha : ∀ c ∈ X, c.toNat < 128) (w : World) :
    Calls Tryd.prog 17 #[.string (S X)] w fun e w' => e = .returned (.string (S (lowS X))) ∧ Below w.heap.size w w' := by
  have h := Tryd.strings_ToLower_ascii (S X) w (by rw [S_size]; omega) (fun j b hb => ha b (by rw [S_data] at hb; exact List.mem_of_getElem? hb))
  rw [S_data, lowA] at h
  exact h
theorem toUpper4 (X : Bytes) (hl : X.length ≤ 1000) (ha : ∀ c ∈ X, c.toNat < 128) (w : World) :
    Calls Tryd.prog 18 #[.string (S X)] w fun e w' => e = .returned (.string (S (upS X))) ∧ Below w.heap.size w w' := by
  have h := Tryd.strings_ToUpper_ascii (S X) w (by rw [S_size]; omega) (fun j b hb => ha b (by rw [S_data] at hb; exact List.mem_of_getElem? hb))
  rw [S_data, upA] at h
  exact h
set_option maxHeartbeats 4000000 in
set_option maxRecDepth 100000 in
theorem law4round_any (t : Int) (w : World) (hT : Tab4 w) (h0 : -9223372036854775808 ≤ t) (h1 : t ≤ 9223372036854775807) :
    Calls Tryd.prog 8 #[.int .i64 t] w fun e w' => e = .returned (.bool true) ∧ Below w.heap.size w w' := by
  by_cases hr : t < -62135596800 ∨ 253402300799 < t
  · have F1 := Lib.hid fun W => format8_out hr h0 h1 W
    have A := Lib.hid (alive4_any w hT)
    have hr' : t < -62135596800 ∨ (¬ t < -62135596800 ∧ 253402300799 < t) := by omega
    clear hr hT
    rcases hr' with r1 | ⟨r1, r2⟩
    all_goals
      go_enter Tryd.func8, Tryd.ntmps8
      go_wp2_with (first
        | (go_at_call 9; refine (F1.out _).mono ?_; rintro e w1 ⟨rfl, rfl⟩)
        | (go_at_call 11; refine A.out.mono ?_; rintro e w3 ⟨rfl, b3⟩))
      go_ret
      exact ⟨rfl, b3⟩
  · obtain ⟨y, m, d, s, h⟩ := time_at (t := t) (by omega) (by omega)
    have F1 := format8_any h w hT
    obtain ⟨k, hk, hkw⟩ := wday_nat (N := dayNo y m d)
    rw [hkw, Int.toNat_natCast] at F1
    have hp := h.parts
    have hlen := f82_len (w := k) (y := y) (m := m) (d := d) (s := s) hk hp.2.2.1 hp.2.2.2.1
    have hasc := f82_ascii (w := k) (y := y) (m := m) (d := d) (s := s) hk hp.2.2.1 hp.2.2.2.1
    have p1 := parse4_plain h hk
    have p2 := parse4_lower h hk
    have p3 := parse4_upper h hk
    generalize f82 k y m d s = X at *
    have L1 := fun W => toLower4 X (by omega) hasc W
    have U1 := fun W => toUpper4 X (by omega) hasc W
    have hll : (lowS X).length = X.length := lowS_len X
    have hul : (upS X).length = X.length := by simp [upS]
    have P1 := fun (W : World) (hb : Below w.heap.size w W) => parse4_any X W (hT.next hb) (by omega)
    have P2 := fun (W : World) (hb : Below w.heap.size w W) => parse4_any (lowS X) W (hT.next hb) (by omega)
    have P3 := fun (W : World) (hb : Below w.heap.size w W) => parse4_any (upS X) W (hT.next hb) (by omega)
    rw [p1] at P1
    rw [p2] at P2
    rw [p3] at P3
    generalize lowS X = XL at *
    generalize upS X = XU at *
    have hb29 : ((X.length : Int) != 29) = false := by rw [hlen]; rfl
    have F1 := Lib.hid F1
    have P1 := Lib.hid P1
    have P2 := Lib.hid P2
    have P3 := Lib.hid P3
    have L1 := Lib.hid L1
    have U1 := Lib.hid U1
    have A := Lib.hid fun W (hb : Below w.heap.size w W) => alive4_any W (hT.next hb)
    clear hr hT h hp hkw p1 p2 p3 hasc hlen hll hul
    go_enter Tryd.func8, Tryd.ntmps8
    go_wp2_with (first
      | (go_at_call 9; refine F1.out.mono ?_; rintro e w1 ⟨rfl, b1⟩)
      | (go_at_call 12; (with_reducible refine (P1.out _ b1).mono ?_); rintro e w2 ⟨rfl, b2⟩; have c2 := b1.trans (b2.mono b1.size))
      | (go_at_call 17; refine (L1.out _).mono ?_; rintro e w3 ⟨rfl, b3⟩; have c3 := c2.trans (b3.mono c2.size))
      | (go_at_call 12; (with_reducible refine (P2.out _ c3).mono ?_); rintro e w4 ⟨rfl, b4⟩; have c4 := c3.trans (b4.mono c3.size))
      | (go_at_call 18; refine (U1.out _).mono ?_; rintro e w5 ⟨rfl, b5⟩; have c5 := c4.trans (b5.mono c4.size))
      | (go_at_call 12; (with_reducible refine (P3.out _ c5).mono ?_); rintro e w6 ⟨rfl, b6⟩; have c6 := c5.trans (b6.mono c5.size))
      | (go_at_call 11; refine (A.out _ c6).mono ?_; rintro e w7 ⟨rfl, b7⟩))
    go_ret
    exact ⟨ret_T (by simp), c6.trans (b7.mono c6.size)⟩
end Go.Proofs.YtooabnmmgmmklaaDoor
