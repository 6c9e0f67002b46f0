/-
  Walk of chapter 11's statement Depth. Made by gen_law11d.py.
-/
import Derived.Test.YthlppbpccldikaaDoorH17
import Derived.Test.YthlppbpccldikaaDoorZDp11
import Derived.Test.YthlppbpccldikaaDoorZFul11
import Derived.Test.YthlppbpccldikaaDoorH5
import Derived.Deep.RegionHeld3
set_option linter.unusedVariables false
namespace Go.Proofs.YthlppbpccldikaaDoor
open Go.RowKit
theorem rep_flat (x : Bytes) : ∀ k, (List.replicate k x).flatten = Lib.repeatL x k
  | 0 => rfl
  | k + 1 => by rw [rep_cons, Lib.repeatL, rep_flat x k]
set_option maxHeartbeats 8000000 in
set_option maxRecDepth 100000 in
theorem law11depth_any (n0 : Nat) (bb : Bool) (w : World) (hT : Tabs w) (hE : NumE w) (hn0 : n0 ≤ 255) :
    Calls Tryd.prog 5 #[.int .u8 n0, .bool bb] w fun e w' => e = .returned (.bool true) ∧ Below w.heap.size w w' := by
  have hal := fun W => fun (hW : Below w.heap.size w W) => alive11_any W (hT.next hW) (hE.next hW)
  have HAL := Lib.hid hal
  obtain ⟨j, hjj⟩ : ∃ j, n0 % 120 = j := ⟨_, rfl⟩
  have hj : (n0 : Int) % 120 = j := by omega
  have hj2 : j < 120 := by omega
  clear hjj hal
  cases bb with
  | false =>
    have c1 : ∀ W, Calls Tryd.prog 18 #[.string ⟨#[91]⟩, .int .i64 (j : Int)] W fun e w' => e = .returned (.string (S (Lib.repeatL [91] j))) ∧ Below W.heap.size W w' := fun W => Tryd.strings_Repeat ⟨#[91]⟩ j W (by omega) (by show 1 * j ≤ _; omega)
    have c2 : ∀ W, Calls Tryd.prog 18 #[.string ⟨#[93]⟩, .int .i64 (j : Int)] W fun e w' => e = .returned (.string (S (Lib.repeatL [93] j))) ∧ Below W.heap.size W w' := fun W => Tryd.strings_Repeat ⟨#[93]⟩ j W (by omega) (by show 1 * j ≤ _; omega)
    have n1 := Lib.repeatL_length ([91] : Bytes) j
    have n2 := Lib.repeatL_length ([93] : Bytes) j
    have hp := parse_nestA (m := j)
    have hlen0 := nestA_len j
    have ht := nestA_rep j
    rw [rep_flat, rep_flat] at ht
    simp only [List.length_cons, List.length_nil] at n1 n2
    generalize Lib.repeatL [91] j = D at *
    generalize Lib.repeatL [93] j = E at *
    obtain ⟨L1, e1⟩ : ∃ x, x = D ++ [91] := ⟨_, rfl⟩
    obtain ⟨L2, e2⟩ : ∃ x, x = L1 ++ [93] := ⟨_, rfl⟩
    obtain ⟨T, e3⟩ : ∃ x, x = nestA j := ⟨_, rfl⟩
    have e4 : T = L2 ++ E := by rw [e3, ← ht, e2, e1] <;> simp
    rw [← e3] at hp hlen0
    have l1 : L1.length = D.length + 1 := by rw [e1]; simp
    have l2 : L2.length = D.length + 2 := by rw [e2]; simp [l1]
    have g1 : ∀ W : World, (Op.stringOp .add (S D) ⟨#[91]⟩).run Tryd.prog W = .ok (.string (S L1)) W := run_catJ D [91] L1 e1 (by simp only [List.length_cons, List.length_nil]; omega)
    have g2 : ∀ W : World, (Op.stringOp .add (S L1) ⟨#[93]⟩).run Tryd.prog W = .ok (.string (S L2)) W := run_catJ L1 [93] L2 e2 (by simp only [List.length_cons, List.length_nil]; omega)
    have g3 : ∀ W : World, (Op.stringOp .add (S L2) (S E)).run Tryd.prog W = .ok (.string (S T)) W := run_catJ L2 E T e4 (by omega)
    have g0 : ∀ W : World, (Instr.slice 9 (.string ⟨#[91]⟩) none (some (.int .i64 1)) none).run Tryd.prog W = .ok (.string ⟨#[91]⟩) W := fun W => by kernel_rfl
    have hps := fun W (hW : Below w.heap.size w W) => parse11_both T W (hT.next hW) (hE.next hW) (by omega)
    unfold BothJ at hps
    have hwj : IntKind.i64.wrap (j : Int) = j := IntWalk.i64_in _ (by omega)
    have C1 := Lib.hid c1
    have C2 := Lib.hid c2
    by_cases hk : j < 100
    · rw [if_pos hk] at hp
      rw [hp] at hps
      dsimp only [valR, atRJ, erRJ] at hps
      have hfu := parseJ_ful hp
      have hdep := valA_dep j 0
      have hdp := fun W v (hv : ValV W (· < W.heap.size) (valA j 0) v) => depth11_any _ (valA j 0) v W (Nat.le_refl _) (by omega) hv
      rw [hdep] at hdp
      generalize valA j 0 = n at *
      clear e3
      have HDP := Lib.hid hdp
      have HPS := Lib.hid hps
      have hk' : ¬ (100 : Int) < (j : Int) + 1 := by omega
      clear hps hdp c1 c2 hT hE hdep hp hfu ht e1 e2 e4
      go_enter Tryd.func5, Tryd.ntmps5
      go_wp2_with fail
      go_region_held3 (fun _ => True) (exact trivial)
        (first
          | ((go_at_call 18; (with_reducible refine (C1.out _).mono ?_); rintro e w1 ⟨rfl, hb1⟩; have R1 : Hid (Below w.heap.size w w1) := Lib.hid ((Below.refl _ _).drew.trans hb1); clear hb1))
          | ((go_at_call 18; (with_reducible refine (C2.out _).mono ?_); rintro e w2 ⟨rfl, hb2⟩; have BB2 := Lib.hid (R1.out.trans (hb2.mono R1.out.size)); clear hb2)))
      go_wp2_with fail
      refine (HPS.out _ BB2.out).mono ?_
      rintro e w3 ⟨⟨A1, q1, K1, d1, rfl, hv1⟩, hb3⟩
      have N3 := Lib.hid (Jbx.new hv1)
      have BB3 := Lib.hid (BB2.out.trans ((hb3.alloc hb3.size (valBox n A1 q1 K1 d1)).mono BB2.out.size))
      clear hv1 hb3
      go_wp2_with fail
      obtain ⟨b3, hw3⟩ : ∃ b3, w3.heap.size = b3 := ⟨_, rfl⟩
      rw [hw3] at N3 ⊢
      clear hw3
      generalize w3.alloc (valBox n A1 q1 K1 d1) = W3 at *
      refine (HAL.out W3 BB3.out).mono ?_
      rintro e w4 ⟨rfl, hb4⟩
      have N4 := Lib.hid (N3.out.keep hb4)
      have BB4 := Lib.hid (BB3.out.trans (hb4.mono BB3.out.size))
      obtain ⟨x0, x1, x2, x3, x4, x5, x6⟩ := N4.out.cells
      clear hb4 N3
      go_wp2_with fail
      refine (HDP.out w4 _ N4.out.tree).mono ?_
      rintro e w5 ⟨rfl, hb5⟩
      go_wp2_with fail
      go_ret
      exact ⟨by simp, BB4.out.trans (hb5.mono BB4.out.size)⟩
    · rw [if_neg hk] at hp
      rw [hp] at hps
      dsimp only [valR, atRJ, erRJ] at hps
      have HPS := Lib.hid hps
      have hk' : (100 : Int) < (j : Int) + 1 := by omega
      clear hps c1 c2 hT hE hp ht e1 e2 e3 e4
      go_enter Tryd.func5, Tryd.ntmps5
      go_wp2_with fail
      go_region_held3 (fun _ => True) (exact trivial)
        (first
          | ((go_at_call 18; (with_reducible refine (C1.out _).mono ?_); rintro e w1 ⟨rfl, hb1⟩; have R1 : Hid (Below w.heap.size w w1) := Lib.hid ((Below.refl _ _).drew.trans hb1); clear hb1))
          | ((go_at_call 18; (with_reducible refine (C2.out _).mono ?_); rintro e w2 ⟨rfl, hb2⟩; have BB2 := Lib.hid (R1.out.trans (hb2.mono R1.out.size)); clear hb2)))
      go_wp2_with fail
      refine (HPS.out _ BB2.out).mono ?_
      rintro e w3 ⟨⟨A1, q1, K1, d1, rfl, hv1⟩, hb3⟩
      have BB3 := Lib.hid (BB2.out.trans ((hb3.alloc hb3.size (valBox zJV A1 q1 K1 d1)).mono BB2.out.size))
      clear hv1 hb3
      go_wp2_with (go_at_call 7; refine (HAL.out _ BB3.out).mono ?_; rintro e w4 ⟨rfl, hb4⟩)
      go_ret
      exact ⟨by simp, BB3.out.trans (hb4.mono BB3.out.size)⟩
  | true =>
    have c1 : ∀ W, Calls Tryd.prog 18 #[.string ⟨#[123, 34, 97, 34, 58]⟩, .int .i64 (j : Int)] W fun e w' => e = .returned (.string (S (Lib.repeatL [123, 34, 97, 34, 58] j))) ∧ Below W.heap.size W w' := fun W => Tryd.strings_Repeat ⟨#[123, 34, 97, 34, 58]⟩ j W (by omega) (by show 5 * j ≤ _; omega)
    have c2 : ∀ W, Calls Tryd.prog 18 #[.string ⟨#[125]⟩, .int .i64 (j : Int)] W fun e w' => e = .returned (.string (S (Lib.repeatL [125] j))) ∧ Below W.heap.size W w' := fun W => Tryd.strings_Repeat ⟨#[125]⟩ j W (by omega) (by show 1 * j ≤ _; omega)
    have n1 := Lib.repeatL_length ([123, 34, 97, 34, 58] : Bytes) j
    have n2 := Lib.repeatL_length ([125] : Bytes) j
    have hp := parse_nestO (m := j)
    have hlen0 := nestO_len j
    have ht := nestO_rep j
    rw [rep_flat, rep_flat] at ht
    simp only [List.length_cons, List.length_nil] at n1 n2
    generalize Lib.repeatL [123, 34, 97, 34, 58] j = D at *
    generalize Lib.repeatL [125] j = E at *
    obtain ⟨L1, e1⟩ : ∃ x, x = D ++ [123] := ⟨_, rfl⟩
    obtain ⟨L2, e2⟩ : ∃ x, x = L1 ++ [125] := ⟨_, rfl⟩
    obtain ⟨T, e3⟩ : ∃ x, x = nestO j := ⟨_, rfl⟩
    have e4 : T = L2 ++ E := by rw [e3, ← ht, e2, e1] <;> simp
    rw [← e3] at hp hlen0
    have l1 : L1.length = D.length + 1 := by rw [e1]; simp
    have l2 : L2.length = D.length + 2 := by rw [e2]; simp [l1]
    have g1 : ∀ W : World, (Op.stringOp .add (S D) ⟨#[123]⟩).run Tryd.prog W = .ok (.string (S L1)) W := run_catJ D [123] L1 e1 (by simp only [List.length_cons, List.length_nil]; omega)
    have g2 : ∀ W : World, (Op.stringOp .add (S L1) ⟨#[125]⟩).run Tryd.prog W = .ok (.string (S L2)) W := run_catJ L1 [125] L2 e2 (by simp only [List.length_cons, List.length_nil]; omega)
    have g3 : ∀ W : World, (Op.stringOp .add (S L2) (S E)).run Tryd.prog W = .ok (.string (S T)) W := run_catJ L2 E T e4 (by omega)
    have g0 : ∀ W : World, (Instr.slice 9 (.string ⟨#[123, 34, 97, 34, 58]⟩) none (some (.int .i64 1)) none).run Tryd.prog W = .ok (.string ⟨#[123]⟩) W := fun W => by kernel_rfl
    have hps := fun W (hW : Below w.heap.size w W) => parse11_both T W (hT.next hW) (hE.next hW) (by omega)
    unfold BothJ at hps
    have hwj : IntKind.i64.wrap (j : Int) = j := IntWalk.i64_in _ (by omega)
    have C1 := Lib.hid c1
    have C2 := Lib.hid c2
    by_cases hk : j < 100
    · rw [if_pos hk] at hp
      rw [hp] at hps
      dsimp only [valR, atRJ, erRJ] at hps
      have hfu := parseJ_ful hp
      have hdep := valO_dep j 0
      have hdp := fun W v (hv : ValV W (· < W.heap.size) (valO j 0) v) => depth11_any _ (valO j 0) v W (Nat.le_refl _) (by omega) hv
      rw [hdep] at hdp
      generalize valO j 0 = n at *
      clear e3
      have HDP := Lib.hid hdp
      have HPS := Lib.hid hps
      have hk' : ¬ (100 : Int) < (j : Int) + 1 := by omega
      clear hps hdp c1 c2 hT hE hdep hp hfu ht e1 e2 e4
      go_enter Tryd.func5, Tryd.ntmps5
      go_wp2_with fail
      go_region_held3 (fun _ => True) (exact trivial)
        (first
          | ((go_at_call 18; (with_reducible refine (C1.out _).mono ?_); rintro e w1 ⟨rfl, hb1⟩; have R1 : Hid (Below w.heap.size w w1) := Lib.hid ((Below.refl _ _).drew.trans hb1); clear hb1))
          | ((go_at_call 18; (with_reducible refine (C2.out _).mono ?_); rintro e w2 ⟨rfl, hb2⟩; have BB2 := Lib.hid (R1.out.trans (hb2.mono R1.out.size)); clear hb2)))
      go_wp2_with fail
      refine (HPS.out _ BB2.out).mono ?_
      rintro e w3 ⟨⟨A1, q1, K1, d1, rfl, hv1⟩, hb3⟩
      have N3 := Lib.hid (Jbx.new hv1)
      have BB3 := Lib.hid (BB2.out.trans ((hb3.alloc hb3.size (valBox n A1 q1 K1 d1)).mono BB2.out.size))
      clear hv1 hb3
      go_wp2_with fail
      obtain ⟨b3, hw3⟩ : ∃ b3, w3.heap.size = b3 := ⟨_, rfl⟩
      rw [hw3] at N3 ⊢
      clear hw3
      generalize w3.alloc (valBox n A1 q1 K1 d1) = W3 at *
      refine (HAL.out W3 BB3.out).mono ?_
      rintro e w4 ⟨rfl, hb4⟩
      have N4 := Lib.hid (N3.out.keep hb4)
      have BB4 := Lib.hid (BB3.out.trans (hb4.mono BB3.out.size))
      obtain ⟨x0, x1, x2, x3, x4, x5, x6⟩ := N4.out.cells
      clear hb4 N3
      go_wp2_with fail
      refine (HDP.out w4 _ N4.out.tree).mono ?_
      rintro e w5 ⟨rfl, hb5⟩
      go_wp2_with fail
      go_ret
      exact ⟨by simp, BB4.out.trans (hb5.mono BB4.out.size)⟩
    · rw [if_neg hk] at hp
      rw [hp] at hps
      dsimp only [valR, atRJ, erRJ] at hps
      have HPS := Lib.hid hps
      have hk' : (100 : Int) < (j : Int) + 1 := by omega
      clear hps c1 c2 hT hE hp ht e1 e2 e3 e4
      go_enter Tryd.func5, Tryd.ntmps5
      go_wp2_with fail
      go_region_held3 (fun _ => True) (exact trivial)
        (first
          | ((go_at_call 18; (with_reducible refine (C1.out _).mono ?_); rintro e w1 ⟨rfl, hb1⟩; have R1 : Hid (Below w.heap.size w w1) := Lib.hid ((Below.refl _ _).drew.trans hb1); clear hb1))
          | ((go_at_call 18; (with_reducible refine (C2.out _).mono ?_); rintro e w2 ⟨rfl, hb2⟩; have BB2 := Lib.hid (R1.out.trans (hb2.mono R1.out.size)); clear hb2)))
      go_wp2_with fail
      refine (HPS.out _ BB2.out).mono ?_
      rintro e w3 ⟨⟨A1, q1, K1, d1, rfl, hv1⟩, hb3⟩
      have BB3 := Lib.hid (BB2.out.trans ((hb3.alloc hb3.size (valBox zJV A1 q1 K1 d1)).mono BB2.out.size))
      clear hv1 hb3
      go_wp2_with (go_at_call 7; refine (HAL.out _ BB3.out).mono ?_; rintro e w4 ⟨rfl, hb4⟩)
      go_ret
      exact ⟨by simp, BB3.out.trans (hb4.mono BB3.out.size)⟩
end Go.Proofs.YthlppbpccldikaaDoor
