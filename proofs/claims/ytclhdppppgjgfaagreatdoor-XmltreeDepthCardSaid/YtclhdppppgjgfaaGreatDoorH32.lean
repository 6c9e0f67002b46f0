/-
  Several texts in one file, in build order:
  - Walk of chapter 7's statement Depth.
-/
import Derived.Test.YtclhdppppgjgfaaGreatDoorH21
import Derived.Test.YtclhdppppgjgfaaGreatDoorH17
import Derived.Test.YtclhdppppgjgfaaGreatDoorH30
import Derived.OpenShut
set_option linter.unusedVariables false
namespace Go.Proofs.YtclhdppppgjgfaaGreatDoor
open Go.RowKit

theorem repB_eq (x : Bytes) : ∀ k, repB x k = Lib.repeatL x k
  | 0 => rfl
  | k + 1 => by rw [repB, Lib.repeatL, repB_eq x k]
/-- The answers of the parser to such a document. -/
theorem nest_cases {X : Bytes} {k : Nat} (h1 : k ≤ 100 → ∃ n, parse X = .ok n ∧ depth n = k) (h2 : 100 < k → parse X = .error (300, 9)) : (k ≤ 100 ∧ ∃ n, parse X = .ok n ∧ depth n = k) ∨ (100 < k ∧ parse X = .error (300, 9)) := by
  by_cases h : k ≤ 100
  · exact .inl ⟨h, h1 h⟩
  · exact .inr ⟨by omega, h2 (by omega)⟩

set_option maxHeartbeats 8000000 in
set_option maxRecDepth 100000 in
theorem law7depth_any (a0 : Int) (bb : Bool) (m : Int) (w : World) (hT : Tabs w) (hM : MaxLen m w) (w0 : (Lit.int .u8 a0).wf = true) :
    Calls Tryz.prog 8 #[.int .u8 a0, .bool bb] w fun e w' => e = .returned (.bool true) ∧ Below w.heap.size w w' := by
  have hal := fun W => fun (hW : Below w.heap.size w W) => alive7_any m W (hT.next hW) (hM.below hW)
  have HAL := Lib.hid hal
  have hb0 := bounds_u8 w0
  obtain ⟨n0, rfl⟩ := Int.eq_ofNat_of_zero_le hb0.1
  clear w0
  obtain ⟨j, hjj⟩ : ∃ j, n0 % 120 = j := ⟨_, rfl⟩
  have hj : (n0 : Int) % 120 = j := by omega
  have hj2 : j < 120 := by omega
  clear hjj hal
  cases bb with
  | false =>
    have c1 : ∀ W, Calls Tryz.prog 26 #[.string ⟨#[60, 97, 62]⟩, .int .i64 ((j : Int) + 1)] W fun e w' => e = .returned (.string (S (Lib.repeatL sA (j + 1)))) ∧ Below W.heap.size W w' := fun W => Tryz.strings_Repeat ⟨#[60, 97, 62]⟩ (j + 1) W (by omega) (by show 3 * (j + 1) ≤ _; omega)
    have c2 : ∀ W, Calls Tryz.prog 26 #[.string ⟨#[60, 47, 97, 62]⟩, .int .i64 ((j : Int) + 1)] W fun e w' => e = .returned (.string (S (Lib.repeatL sAe (j + 1)))) ∧ Below W.heap.size W w' := fun W => Tryz.strings_Repeat ⟨#[60, 47, 97, 62]⟩ (j + 1) W (by omega) (by show 4 * (j + 1) ≤ _; omega)
    have n1 := Lib.repeatL_length sA (j + 1)
    have n2 := Lib.repeatL_length sAe (j + 1)
    obtain ⟨hp1, hp2⟩ := parse_nest (j + 1) (by omega)
    rw [repB_eq, repB_eq] at hp1 hp2
    have hcs := nest_cases hp1 hp2
    simp only [sA, sAe, List.length_cons, List.length_nil] at n1 n2
    change (Lib.repeatL sA (j + 1)).length = _ at n1
    change (Lib.repeatL sAe (j + 1)).length = _ at n2
    clear hp1 hp2
    generalize Lib.repeatL sA (j + 1) = D at *
    generalize Lib.repeatL sAe (j + 1) = E at *
    have hps := fun W (hW : Below w.heap.size w W) => parse7_both (D ++ E) m W (hT.next hW) (hM.below hW) (by rw [List.length_append]; omega)
    have hlen : (D ++ E).length ≤ 100000 := by rw [List.length_append]; omega
    unfold BothR at hps
    have C1 := Lib.hid c1
    have C2 := Lib.hid c2
    rcases hcs with ⟨hk, n, hp, hdn⟩ | ⟨hk, hp⟩
    · rw [hp] at hps
      simp only [treeR, atR, erR] at hps
      have hfu := (parse_slim hlen hp).2.2
      have hsz := nsz_full n
      have hdp := fun W v (hv : NodeV W W.heap.size n v) => depth7_any 500000 n v W (by omega) (by decide) hv
      rw [hdn] at hdp
      have HDP := Lib.hid hdp
      have HPS := Lib.hid hps
      have hk' : ¬ (100 : Int) < (j : Int) + 1 := by omega
      clear hps hdp c1 c2 hT hM hdn hp hfu hsz hlen
      go_enter Tryz.func8, Tryz.ntmps8
      go_wp2_with fail
      refine (C1.out _).mono ?_
      rintro e w1 ⟨rfl, hb1⟩
      go_wp2_with fail
      refine (C2.out _).mono ?_
      rintro e w2 ⟨rfl, hb2⟩
      have BB2 := Lib.hid (hb1.trans (hb2.mono hb1.size))
      clear hb1 hb2
      go_wp2_with fail
      refine (HPS.out _ BB2.out).mono ?_
      rintro e w3 ⟨⟨A1, q1, K1, d1, rfl, hv1⟩, hb3⟩
      have N3 := Lib.hid (Nbx.new hv1)
      have BB3 := Lib.hid (BB2.out.trans ((hb3.alloc hb3.size (nodeBox n A1 q1 K1 d1)).mono BB2.out.size))
      clear hv1 hb3
      go_wp2_with fail
      obtain ⟨b3, hw3⟩ : ∃ b3, w3.heap.size = b3 := ⟨_, rfl⟩
      rw [hw3] at N3 ⊢
      clear hw3
      generalize w3.alloc (nodeBox n A1 q1 K1 d1) = W3 at *
      refine (HAL.out W3 BB3.out).mono ?_
      rintro e w4 ⟨rfl, hb4⟩
      have N4 := Lib.hid (N3.out.keep hb4)
      have BB4 := Lib.hid (BB3.out.trans (hb4.mono BB3.out.size))
      obtain ⟨x0, x1, x2, x3, x4, x5, x6⟩ := N4.out.cells
      clear hb4 N3
      go_wp2_with fail
      refine (HDP.out w4 _ N4.out.tree).mono ?_
      rintro e w5 ⟨rfl, hb5⟩
      go_wp2_with fail
      go_ret
      exact ⟨by simp, BB4.out.trans (hb5.mono BB4.out.size)⟩
    · rw [hp] at hps
      simp only [treeR, atR, erR] at hps
      have HPS := Lib.hid hps
      have hk' : (100 : Int) < (j : Int) + 1 := by omega
      clear hps c1 c2 hT hM hp hlen
      go_enter Tryz.func8, Tryz.ntmps8
      go_wp2_with fail
      refine (C1.out _).mono ?_
      rintro e w1 ⟨rfl, hb1⟩
      go_wp2_with fail
      refine (C2.out _).mono ?_
      rintro e w2 ⟨rfl, hb2⟩
      have BB2 := Lib.hid (hb1.trans (hb2.mono hb1.size))
      clear hb1 hb2
      go_wp2_with fail
      refine (HPS.out _ BB2.out).mono ?_
      rintro e w3 ⟨⟨A1, q1, K1, d1, rfl, hv1⟩, hb3⟩
      have BB3 := Lib.hid (BB2.out.trans ((hb3.alloc hb3.size (nodeBox zNodeN A1 q1 K1 d1)).mono BB2.out.size))
      clear hv1 hb3
      go_wp2_with (go_at_call 11; refine (HAL.out _ BB3.out).mono ?_; rintro e w4 ⟨rfl, hb4⟩)
      go_ret
      exact ⟨by simp, BB3.out.trans (hb4.mono BB3.out.size)⟩
  | true =>
    have c1 : ∀ W, Calls Tryz.prog 26 #[.string ⟨#[60, 97, 62]⟩, .int .i64 (j : Int)] W fun e w' => e = .returned (.string (S (Lib.repeatL sA j))) ∧ Below W.heap.size W w' := fun W => Tryz.strings_Repeat ⟨#[60, 97, 62]⟩ j W (by omega) (by show 3 * j ≤ _; omega)
    have c2 : ∀ W, Calls Tryz.prog 26 #[.string ⟨#[60, 47, 97, 62]⟩, .int .i64 (j : Int)] W fun e w' => e = .returned (.string (S (Lib.repeatL sAe j))) ∧ Below W.heap.size W w' := fun W => Tryz.strings_Repeat ⟨#[60, 47, 97, 62]⟩ j W (by omega) (by show 4 * j ≤ _; omega)
    -- the document that the other branch would make
    have c3 : ∀ W, Calls Tryz.prog 26 #[.string ⟨#[60, 97, 62]⟩, .int .i64 ((j : Int) + 1)] W fun e w' => e = .returned (.string (S (Lib.repeatL sA (j + 1)))) ∧ Below W.heap.size W w' := fun W => Tryz.strings_Repeat ⟨#[60, 97, 62]⟩ (j + 1) W (by omega) (by show 3 * (j + 1) ≤ _; omega)
    have c4 : ∀ W, Calls Tryz.prog 26 #[.string ⟨#[60, 47, 97, 62]⟩, .int .i64 ((j : Int) + 1)] W fun e w' => e = .returned (.string (S (Lib.repeatL sAe (j + 1)))) ∧ Below W.heap.size W w' := fun W => Tryz.strings_Repeat ⟨#[60, 47, 97, 62]⟩ (j + 1) W (by omega) (by show 4 * (j + 1) ≤ _; omega)
    have n1 := Lib.repeatL_length sA j
    have n2 := Lib.repeatL_length sAe j
    have n3 := Lib.repeatL_length sA (j + 1)
    have n4 := Lib.repeatL_length sAe (j + 1)
    obtain ⟨hp1, hp2⟩ := parse_nestE j
    rw [repB_eq, repB_eq] at hp1 hp2
    have hcs := nest_cases hp1 hp2
    simp only [sA, sAe, List.length_cons, List.length_nil] at n1 n2 n3 n4
    change (Lib.repeatL sA j).length = _ at n1
    change (Lib.repeatL sAe j).length = _ at n2
    change (Lib.repeatL sA (j + 1)).length = _ at n3
    change (Lib.repeatL sAe (j + 1)).length = _ at n4
    clear hp1 hp2
    generalize Lib.repeatL sA (j + 1) = D' at *
    generalize Lib.repeatL sAe (j + 1) = E' at *
    generalize Lib.repeatL sA j = D at *
    generalize Lib.repeatL sAe j = E at *
    have hlen : (D ++ sAm ++ E).length ≤ 100000 := by rw [List.length_append, List.length_append]; simp only [sAm, List.length_cons, List.length_nil]; omega
    have hps := fun W (hW : Below w.heap.size w W) => parse7_both (D ++ sAm ++ E) m W (hT.next hW) (hM.below hW) hlen
    unfold BothR at hps
    have C1 := Lib.hid c1
    have C2 := Lib.hid c2
    have C3 := Lib.hid c3
    have C4 := Lib.hid c4
    have hS : D ++ sAm ++ E = D ++ (60 :: 97 :: 47 :: 62 :: E) := by simp [sAm]
    rw [hS] at hps
    rcases hcs with ⟨hk, n, hp, hdn⟩ | ⟨hk, hp⟩
    · rw [← hS, hp] at hps
      simp only [treeR, atR, erR] at hps
      rw [hS] at hps
      have hfu := (parse_slim hlen hp).2.2
      have hsz := nsz_full n
      have hdp := fun W v (hv : NodeV W W.heap.size n v) => depth7_any 500000 n v W (by omega) (by decide) hv
      rw [hdn] at hdp
      have HDP := Lib.hid hdp
      have HPS := Lib.hid hps
      have hk' : ¬ (100 : Int) < (j : Int) + 1 := by omega
      clear hps hdp c1 c2 c3 c4 hT hM hdn hp hfu hsz hlen hS
      go_enter Tryz.func8, Tryz.ntmps8
      go_wp2_with fail
      refine (C3.out _).mono ?_
      rintro e w1 ⟨rfl, hb1⟩
      go_wp2_with fail
      refine (C4.out _).mono ?_
      rintro e w2 ⟨rfl, hb2⟩
      have BB2 := Lib.hid (hb1.trans (hb2.mono hb1.size))
      clear hb1 hb2
      go_wp2_with fail
      refine (C1.out _).mono ?_
      rintro e w3 ⟨rfl, hb3⟩
      have BB3 := Lib.hid (BB2.out.trans (hb3.mono BB2.out.size))
      clear hb3
      go_wp2_with fail
      refine (C2.out _).mono ?_
      rintro e w4 ⟨rfl, hb4⟩
      have BB4 := Lib.hid (BB3.out.trans (hb4.mono BB3.out.size))
      clear hb4
      go_wp2_with fail
      refine (HPS.out _ BB4.out).mono ?_
      rintro e w5 ⟨⟨A1, q1, K1, d1, rfl, hv1⟩, hb5⟩
      have N3 := Lib.hid (Nbx.new hv1)
      have BB5 := Lib.hid (BB4.out.trans ((hb5.alloc hb5.size (nodeBox n A1 q1 K1 d1)).mono BB4.out.size))
      clear hv1 hb5
      go_wp2_with fail
      obtain ⟨b3, hw3⟩ : ∃ b3, w5.heap.size = b3 := ⟨_, rfl⟩
      rw [hw3] at N3 ⊢
      clear hw3
      generalize w5.alloc (nodeBox n A1 q1 K1 d1) = W3 at *
      refine (HAL.out W3 BB5.out).mono ?_
      rintro e w6 ⟨rfl, hb6⟩
      have N4 := Lib.hid (N3.out.keep hb6)
      have BB6 := Lib.hid (BB5.out.trans (hb6.mono BB5.out.size))
      obtain ⟨x0, x1, x2, x3, x4, x5, x6⟩ := N4.out.cells
      clear hb6 N3
      go_wp2_with fail
      refine (HDP.out w6 _ N4.out.tree).mono ?_
      rintro e w7 ⟨rfl, hb7⟩
      go_wp2_with fail
      go_ret
      exact ⟨by simp, BB6.out.trans (hb7.mono BB6.out.size)⟩
    · rw [← hS, hp] at hps
      simp only [treeR, atR, erR] at hps
      rw [hS] at hps
      have HPS := Lib.hid hps
      have hk' : (100 : Int) < (j : Int) + 1 := by omega
      clear hps c1 c2 c3 c4 hT hM hp hlen hS
      go_enter Tryz.func8, Tryz.ntmps8
      go_wp2_with fail
      refine (C3.out _).mono ?_
      rintro e w1 ⟨rfl, hb1⟩
      go_wp2_with fail
      refine (C4.out _).mono ?_
      rintro e w2 ⟨rfl, hb2⟩
      have BB2 := Lib.hid (hb1.trans (hb2.mono hb1.size))
      clear hb1 hb2
      go_wp2_with fail
      refine (C1.out _).mono ?_
      rintro e w3 ⟨rfl, hb3⟩
      have BB3 := Lib.hid (BB2.out.trans (hb3.mono BB2.out.size))
      clear hb3
      go_wp2_with fail
      refine (C2.out _).mono ?_
      rintro e w4 ⟨rfl, hb4⟩
      have BB4 := Lib.hid (BB3.out.trans (hb4.mono BB3.out.size))
      clear hb4
      go_wp2_with fail
      refine (HPS.out _ BB4.out).mono ?_
      rintro e w5 ⟨⟨A1, q1, K1, d1, rfl, hv1⟩, hb5⟩
      have BB5 := Lib.hid (BB4.out.trans ((hb5.alloc hb5.size (nodeBox zNodeN A1 q1 K1 d1)).mono BB4.out.size))
      clear hv1 hb5
      go_wp2_with (go_at_call 11; refine (HAL.out _ BB5.out).mono ?_; rintro e w6 ⟨rfl, hb6⟩)
      go_ret
      exact ⟨by simp, BB5.out.trans (hb6.mono BB5.out.size)⟩
end Go.Proofs.YtclhdppppgjgfaaGreatDoor
