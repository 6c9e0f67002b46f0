/-
  Walks of chapter 4's statements: the days of the week.
-/
import Derived.Test.YtooabnmmgmmklaaDoorLaw4a
import Derived.Test.YtooabnmmgmmklaaDoorAsc4
set_option linter.unusedVariables false
namespace Go.Proofs.YtooabnmmgmmklaaDoor
open Go.RowKit

def dayTC : Array Value := #[.string ⟨#[83, 117, 110]⟩, .string ⟨#[77, 111, 110]⟩, .string ⟨#[84, 117, 101]⟩, .string ⟨#[87, 101, 100]⟩, .string ⟨#[84, 104, 117]⟩, .string ⟨#[70, 114, 105]⟩, .string ⟨#[83, 97, 116]⟩]
theorem dayT_at0 (k : Nat) (hk : k < 7) : ∃ x, dayN k = x ∧ ∀ W : World, (Instr.index 34 (.agg dayTC) (.int .u8 (k : Int))).run Tryd.prog W = .ok (.string (S x)) W := by
  match k, hk with
  | 0, _ => exact ⟨[83, 117, 110], rfl, fun _ => by kernel_rfl⟩
  | 1, _ => exact ⟨[77, 111, 110], rfl, fun _ => by kernel_rfl⟩
  | 2, _ => exact ⟨[84, 117, 101], rfl, fun _ => by kernel_rfl⟩
  | 3, _ => exact ⟨[87, 101, 100], rfl, fun _ => by kernel_rfl⟩
  | 4, _ => exact ⟨[84, 104, 117], rfl, fun _ => by kernel_rfl⟩
  | 5, _ => exact ⟨[70, 114, 105], rfl, fun _ => by kernel_rfl⟩
  | 6, _ => exact ⟨[83, 97, 116], rfl, fun _ => by kernel_rfl⟩
theorem dayT_at (k : Nat) (hk : k < 7) (W : World) : (Instr.index 34 (.agg #[.string ⟨#[83, 117, 110]⟩, .string ⟨#[77, 111, 110]⟩, .string ⟨#[84, 117, 101]⟩, .string ⟨#[87, 101, 100]⟩, .string ⟨#[84, 104, 117]⟩, .string ⟨#[70, 114, 105]⟩, .string ⟨#[83, 97, 116]⟩]) (.int .u8 (k : Int))).run Tryd.prog W = .ok (.string (S (dayN k))) W := by
  obtain ⟨x, h1, h2⟩ := dayT_at0 k hk
  rw [h1]
  exact h2 W
theorem u8_mod (n k : Nat) (hk : 0 < k) (hn : n < 256) : ((n : Int)).tmod (k : Int) = ((n % k : Nat) : Int) := by
  rw [Int.tmod_eq_emod_of_nonneg (by omega)]; rfl
set_option maxHeartbeats 4000000 in
set_option maxRecDepth 100000 in
theorem law4weekday_any (t : Int) (n : Nat) (hn : n < 256) (w : World) (hT : Tab4 w) (h0 : -9223372036854775808 ≤ t) (h1 : t ≤ 9223372036854775807) :
    Calls Tryd.prog 5 #[.int .i64 t, .int .u8 n] w fun e w' => e = .returned (.bool true) ∧ Below w.heap.size w w' := by
  by_cases hr : t < -62135596800 ∨ 253402300799 < t
  · have F1 := Lib.hid fun W => format8_out hr h0 h1 W
    have A := Lib.hid (alive4_any w hT)
    clear hr hT
    go_enter Tryd.func5, Tryd.ntmps5
    go_wp2_with (first
      | (go_at_call 9; refine (F1.out _).mono ?_; rintro e w1 ⟨rfl, rfl⟩)
      | (go_at_call 11; refine A.out.mono ?_; rintro e w3 ⟨rfl, b3⟩))
    go_ret
    exact ⟨rfl, b3⟩
  · obtain ⟨y, m, d, s, h⟩ := time_at (t := t) (by omega) (by omega)
    have F1 := format8_any h w hT
    obtain ⟨k, hk, hkw⟩ := wday_nat (N := dayNo y m d)
    rw [hkw, Int.toNat_natCast] at F1
    have hp := h.parts
    have hlen := f82_len (w := k) (y := y) (m := m) (d := d) (s := s) hk hp.2.2.1 hp.2.2.2.1
    have hm7 := u8_mod n 7 (by decide) hn
    have hm7' : ((n : Int)).tmod 7 = ((n % 7 : Nat) : Int) := hm7
    have hk7 : n % 7 < 7 := Nat.mod_lt _ (by decide)
    obtain ⟨p1, p2, p3⟩ := parse4_weekday h hk hk7
    have hix := dayT_at (n % 7) hk7
    have hnl : (dayN (n % 7)).length = 3 := (dayN_word hk7).2.2.2.2
    generalize f82 k y m d s = X at *
    generalize n % 7 = kk at *
    have P1 := fun (W : World) (hb : Below w.heap.size w W) => parse4_any (dayN kk ++ X.drop 3) W (hT.next hb) (by rw [List.length_append, List.length_drop]; omega)
    have P2 := fun (W : World) (hb : Below w.heap.size w W) => parse4_any (X.drop 5) W (hT.next hb) (by rw [List.length_drop]; omega)
    have P3 := fun (W : World) (hb : Below w.heap.size w W) => parse4_any (dayN kk ++ 32 :: X.drop 5) W (hT.next hb) (by rw [List.length_append, List.length_cons, List.length_drop]; omega)
    rw [p1] at P1
    rw [p2] at P2
    rw [p3] at P3
    generalize dayN kk = NM at *
    have hx3 : (X.drop 3).length ≤ 29 := by rw [List.length_drop]; omega
    have hx5 : (X.drop 5).length ≤ 29 := by rw [List.length_drop]; omega
    obtain ⟨Y1, hY1⟩ : ∃ Y, NM ++ X.drop 3 = Y := ⟨_, rfl⟩
    obtain ⟨Y2, hY2⟩ : ∃ Y, NM ++ [32] = Y := ⟨_, rfl⟩
    obtain ⟨Y3, hY3⟩ : ∃ Y, NM ++ 32 :: X.drop 5 = Y := ⟨_, rfl⟩
    have l2 : Y2.length ≤ 10 := by rw [← hY2, List.length_append]; simp only [List.length_cons, List.length_nil]; omega
    have e3 : Y3 = Y2 ++ X.drop 5 := by rw [← hY3, ← hY2]; simp
    have q1 : ∀ W : World, (Op.stringOp .add (S NM) (S (X.drop 3))).run Tryd.prog W = .ok (.string (S Y1)) W := catS4 _ _ _ hY1.symm (by omega)
    have q2 : ∀ W : World, (Op.stringOp .add (S NM) ⟨#[32]⟩).run Tryd.prog W = .ok (.string (S Y2)) W := catS4 _ [32] _ hY2.symm (by simp only [List.length_cons, List.length_nil]; omega)
    have q3 : ∀ W : World, (Op.stringOp .add (S Y2) (S (X.drop 5))).run Tryd.prog W = .ok (.string (S Y3)) W := catS4 _ _ _ e3 (by omega)
    rw [hY1] at P1
    rw [hY3] at P3
    have hb29 : ((X.length : Int) != 29) = false := by rw [hlen]; rfl
    have hb3 : (3 : Int) ≤ X.length := by omega
    have hb5 : (5 : Int) ≤ X.length := by omega
    have F1 := Lib.hid F1
    have P1 := Lib.hid P1
    have P2 := Lib.hid P2
    have P3 := Lib.hid P3
    have A := Lib.hid fun W (hb : Below w.heap.size w W) => alive4_any W (hT.next hb)
    clear hr hT h hp hkw hm7 p1 p2 p3 hY1 hY2 hY3 e3 l2 hx3 hx5 hnl hk7 hlen
    go_enter Tryd.func5, Tryd.ntmps5
    go_wp2_with (first
      | (go_at_call 9; refine F1.out.mono ?_; rintro e w1 ⟨rfl, b1⟩)
      | (go_at_call 12; (with_reducible refine (P1.out _ b1).mono ?_); rintro e w2 ⟨rfl, b2⟩; have c2 := b1.trans (b2.mono b1.size))
      | (go_at_call 12; (with_reducible refine (P2.out _ c2).mono ?_); rintro e w3 ⟨rfl, b3⟩; have c3 := c2.trans (b3.mono c2.size))
      | (go_at_call 12; (with_reducible refine (P3.out _ c3).mono ?_); rintro e w4 ⟨rfl, b4⟩; have c4 := c3.trans (b4.mono c3.size))
      | (go_at_call 11; refine (A.out _ c4).mono ?_; rintro e w5 ⟨rfl, b5⟩))
    go_ret
    exact ⟨ret_T (by simp), c4.trans (b5.mono c4.size)⟩
end Go.Proofs.YtooabnmmgmmklaaDoor
