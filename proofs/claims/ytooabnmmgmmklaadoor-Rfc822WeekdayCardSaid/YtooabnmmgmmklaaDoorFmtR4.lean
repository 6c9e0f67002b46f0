/-
  Walk of chapter 3, what chapter 4 uses of it: the reference's Format.
-/
import Derived.Test.YtooabnmmgmmklaaDoorCivP6
import Derived.Test.YtooabnmmgmmklaaDoorPadR4
import Derived.Deep.DeepCutAuto
set_option linter.unusedVariables false
namespace Go.Proofs.YtooabnmmgmmklaaDoor
open Go.RowKit

theorem ret_SI {x y : Bytes} {a : Int} (h : x = y) : Ending.returned (.tuple #[.string (S x), .int .i64 a]) = .returned (.tuple #[.string (S y), .int .i64 a]) := by rw [h]
set_option maxHeartbeats 8000000 in
set_option maxRecDepth 100000 in
theorem refFormat3_any {t : Int} {y m d s : Nat} (h : TimeOf t y m d s) (w : World) :
    Calls Tryd.prog 23 #[.int .i64 t] w fun e w' => e = .returned (.tuple #[.string (S (f33 y m d s)), .int .i64 0]) ∧ Below w.heap.size w w' := by
  have hr := h.range
  have hp := h.parts
  obtain ⟨g1, g2, g3⟩ := h
  have hs : s < 86400 := by first | exact g3 | exact g2 | omega
  have ht : t = dayNo y m d * 86400 + s := by first | exact g2 | exact g3
  have hdt : ∀ W, Calls Tryd.prog 51 #[.int .i64 (dayNo y m d)] W fun e w' => e = .returned (.tuple #[.int .i64 (y : Int), .int .i64 (m : Int), .int .i64 (d : Int), .int .i64 0]) ∧ W = w' := fun W => refDate_any _ _ _ _ g1 rfl W
  have p1 : ∀ W, Calls Tryd.prog 52 #[.int .i64 (y : Int), .int .i64 4] W fun e w' => e = .returned (.string (S (dgs 4 y))) ∧ Below W.heap.size W w' := fun W => refPad_any y 4 (by omega) (by decide) (by decide) W
  have p2 : ∀ W, Calls Tryd.prog 52 #[.int .i64 (m : Int), .int .i64 2] W fun e w' => e = .returned (.string (S (dgs 2 m))) ∧ Below W.heap.size W w' := fun W => refPad_any m 2 (by omega) (by decide) (by decide) W
  have p3 : ∀ W, Calls Tryd.prog 52 #[.int .i64 (d : Int), .int .i64 2] W fun e w' => e = .returned (.string (S (dgs 2 d))) ∧ Below W.heap.size W w' := fun W => refPad_any d 2 (by omega) (by decide) (by decide) W
  have p4 : ∀ W, Calls Tryd.prog 52 #[.int .i64 ((s / 3600 : Nat) : Int), .int .i64 2] W fun e w' => e = .returned (.string (S (dgs 2 (s / 3600)))) ∧ Below W.heap.size W w' := fun W => refPad_any (s / 3600) 2 (by omega) (by decide) (by decide) W
  have p5 : ∀ W, Calls Tryd.prog 52 #[.int .i64 ((s / 60 % 60 : Nat) : Int), .int .i64 2] W fun e w' => e = .returned (.string (S (dgs 2 (s / 60 % 60)))) ∧ Below W.heap.size W w' := fun W => refPad_any (s / 60 % 60) 2 (by omega) (by decide) (by decide) W
  have p6 : ∀ W, Calls Tryd.prog 52 #[.int .i64 ((s % 60 : Nat) : Int), .int .i64 2] W fun e w' => e = .returned (.string (S (dgs 2 (s % 60)))) ∧ Below W.heap.size W w' := fun W => refPad_any (s % 60) 2 (by omega) (by decide) (by decide) W
  obtain ⟨R, hR⟩ : ∃ R, f33 y m d s = R := ⟨_, rfl⟩
  rw [hR]
  have hlen : ∀ k n, (dgs k n).length = k := by
    intro k
    induction k with
    | zero => intro n; rfl
    | succ k ih => intro n; rw [dgs, List.length_append, ih]; rfl
  have hx : R = dgs 4 y ++ [45] ++ dgs 2 m ++ [45] ++ dgs 2 d ++ [84] ++ dgs 2 (s / 3600) ++ [58] ++ dgs 2 (s / 60 % 60) ++ [58] ++ dgs 2 (s % 60) ++ [90] := by
    rw [← hR, dgs_4, dgs_2, dgs_2, dgs_2, dgs_2, dgs_2]
    unfold f33 clk
    simp only [List.append_assoc]
  have v1 : (dayNo y m d * 86400 + (s : Int) + 62135596800).tdiv 86400 = dayNo y m d + 719162 := by rw [Int.tdiv_eq_ediv_of_nonneg (by omega)]; omega
  have v2 : (dayNo y m d * 86400 + (s : Int) + 62135596800).tmod 86400 = (s : Int) := by rw [Int.tmod_eq_emod_of_nonneg (by omega)]; omega
  have v3 : ((s : Int)).tdiv 3600 = ((s / 3600 : Nat) : Int) := by rw [Int.tdiv_eq_ediv_of_nonneg (by omega)]; omega
  have v4 : ((s : Int)).tdiv 60 = ((s / 60 : Nat) : Int) := by rw [Int.tdiv_eq_ediv_of_nonneg (by omega)]; omega
  have v5 : (((s / 60 : Nat) : Int)).tmod 60 = ((s / 60 % 60 : Nat) : Int) := by rw [Int.tmod_eq_emod_of_nonneg (by omega)]; omega
  have v6 : ((s : Int)).tmod 60 = ((s % 60 : Nat) : Int) := by rw [Int.tmod_eq_emod_of_nonneg (by omega)]; omega
  have l1 := hlen 4 y
  have l2 := hlen 2 m
  have l3 := hlen 2 d
  have l4 := hlen 2 (s / 3600)
  have l5 := hlen 2 (s / 60 % 60)
  have l6 := hlen 2 (s % 60)
  generalize dgs 4 y = A1 at *
  generalize dgs 2 m = A2 at *
  generalize dgs 2 d = A3 at *
  generalize dgs 2 (s / 3600) = A4 at *
  generalize dgs 2 (s / 60 % 60) = A5 at *
  generalize dgs 2 (s % 60) = A6 at *
  have u1 : s / 3600 < 24 := by omega
  have u2 : s / 60 % 60 < 60 := by omega
  have u3 : s / 60 < 1440 := by omega
  have u4 : s % 60 < 60 := by omega
  generalize s / 3600 = s1 at *
  generalize s / 60 % 60 = s2 at *
  generalize s / 60 = s3 at *
  generalize s % 60 = s4 at *
  generalize hN : dayNo y m d = N at *
  subst ht
  obtain ⟨L1, hL1⟩ : ∃ L, A1 ++ [45] = L := ⟨_, rfl⟩
  have n1 : L1.length = 5 := by rw [← hL1, List.length_append]; simp only [l1, List.length_cons, List.length_nil]
  have q1 : ∀ W : World, (Op.stringOp .add (S A1) ⟨#[45]⟩).run Tryd.prog W = .ok (.string (S L1)) W := catS4 _ [45] _ hL1.symm (by simp only [l1, List.length_cons, List.length_nil]; omega)
  obtain ⟨L2, hL2⟩ : ∃ L, L1 ++ A2 = L := ⟨_, rfl⟩
  have n2 : L2.length = 7 := by rw [← hL2, List.length_append]; simp only [n1, l2]
  have q2 : ∀ W : World, (Op.stringOp .add (S L1) (S A2)).run Tryd.prog W = .ok (.string (S L2)) W := catS4 _ _ _ hL2.symm (by simp only [n1, l2]; omega)
  obtain ⟨L3, hL3⟩ : ∃ L, L2 ++ [45] = L := ⟨_, rfl⟩
  have n3 : L3.length = 8 := by rw [← hL3, List.length_append]; simp only [n2, List.length_cons, List.length_nil]
  have q3 : ∀ W : World, (Op.stringOp .add (S L2) ⟨#[45]⟩).run Tryd.prog W = .ok (.string (S L3)) W := catS4 _ [45] _ hL3.symm (by simp only [n2, List.length_cons, List.length_nil]; omega)
  obtain ⟨L4, hL4⟩ : ∃ L, L3 ++ A3 = L := ⟨_, rfl⟩
  have n4 : L4.length = 10 := by rw [← hL4, List.length_append]; simp only [n3, l3]
  have q4 : ∀ W : World, (Op.stringOp .add (S L3) (S A3)).run Tryd.prog W = .ok (.string (S L4)) W := catS4 _ _ _ hL4.symm (by simp only [n3, l3]; omega)
  obtain ⟨L5, hL5⟩ : ∃ L, L4 ++ [84] = L := ⟨_, rfl⟩
  have n5 : L5.length = 11 := by rw [← hL5, List.length_append]; simp only [n4, List.length_cons, List.length_nil]
  have q5 : ∀ W : World, (Op.stringOp .add (S L4) ⟨#[84]⟩).run Tryd.prog W = .ok (.string (S L5)) W := catS4 _ [84] _ hL5.symm (by simp only [n4, List.length_cons, List.length_nil]; omega)
  obtain ⟨L6, hL6⟩ : ∃ L, L5 ++ A4 = L := ⟨_, rfl⟩
  have n6 : L6.length = 13 := by rw [← hL6, List.length_append]; simp only [n5, l4]
  have q6 : ∀ W : World, (Op.stringOp .add (S L5) (S A4)).run Tryd.prog W = .ok (.string (S L6)) W := catS4 _ _ _ hL6.symm (by simp only [n5, l4]; omega)
  obtain ⟨L7, hL7⟩ : ∃ L, L6 ++ [58] = L := ⟨_, rfl⟩
  have n7 : L7.length = 14 := by rw [← hL7, List.length_append]; simp only [n6, List.length_cons, List.length_nil]
  have q7 : ∀ W : World, (Op.stringOp .add (S L6) ⟨#[58]⟩).run Tryd.prog W = .ok (.string (S L7)) W := catS4 _ [58] _ hL7.symm (by simp only [n6, List.length_cons, List.length_nil]; omega)
  obtain ⟨L8, hL8⟩ : ∃ L, L7 ++ A5 = L := ⟨_, rfl⟩
  have n8 : L8.length = 16 := by rw [← hL8, List.length_append]; simp only [n7, l5]
  have q8 : ∀ W : World, (Op.stringOp .add (S L7) (S A5)).run Tryd.prog W = .ok (.string (S L8)) W := catS4 _ _ _ hL8.symm (by simp only [n7, l5]; omega)
  obtain ⟨L9, hL9⟩ : ∃ L, L8 ++ [58] = L := ⟨_, rfl⟩
  have n9 : L9.length = 17 := by rw [← hL9, List.length_append]; simp only [n8, List.length_cons, List.length_nil]
  have q9 : ∀ W : World, (Op.stringOp .add (S L8) ⟨#[58]⟩).run Tryd.prog W = .ok (.string (S L9)) W := catS4 _ [58] _ hL9.symm (by simp only [n8, List.length_cons, List.length_nil]; omega)
  obtain ⟨L10, hL10⟩ : ∃ L, L9 ++ A6 = L := ⟨_, rfl⟩
  have n10 : L10.length = 19 := by rw [← hL10, List.length_append]; simp only [n9, l6]
  have q10 : ∀ W : World, (Op.stringOp .add (S L9) (S A6)).run Tryd.prog W = .ok (.string (S L10)) W := catS4 _ _ _ hL10.symm (by simp only [n9, l6]; omega)
  obtain ⟨L11, hL11⟩ : ∃ L, L10 ++ [90] = L := ⟨_, rfl⟩
  have n11 : L11.length = 20 := by rw [← hL11, List.length_append]; simp only [n10, List.length_cons, List.length_nil]
  have q11 : ∀ W : World, (Op.stringOp .add (S L10) ⟨#[90]⟩).run Tryd.prog W = .ok (.string (S L11)) W := catS4 _ [90] _ hL11.symm (by simp only [n10, List.length_cons, List.length_nil]; omega)
  rw [hL1, hL2, hL3, hL4, hL5, hL6, hL7, hL8, hL9, hL10, hL11] at hx
  clear hL1 n1 hL2 n2 hL3 n3 hL4 n4 hL5 n5 hL6 n6 hL7 n7 hL8 n8 hL9 n9 hL10 n10 hL11 n11
  have HX := Lib.hid hx
  have DT := Lib.hid hdt
  have P1 := Lib.hid p1
  have P2 := Lib.hid p2
  have P3 := Lib.hid p3
  have P4 := Lib.hid p4
  have P5 := Lib.hid p5
  have P6 := Lib.hid p6
  clear hx hdt p1 p2 p3 p4 p5 p6 hR hN hlen g1 g2 g3 l1 l2 l3 l4 l5 l6
  obtain ⟨r1, r2⟩ := hr
  clear hp
  go_enter Tryd.func23, Tryd.ntmps23
  go_upto_region 6 with (go_at_call 51; (with_reducible refine (DT.out _).mono ?_); rintro e w2 ⟨rfl, rfl⟩)
  clear v1 v2 r1 r2 hs
  go_wp2_with (first
    | (go_at_call 52; (with_reducible refine (P1.out _).mono ?_); rintro e wa ⟨rfl, ha⟩)
    | (go_at_call 52; (with_reducible refine (P2.out _).mono ?_); rintro e wb ⟨rfl, hb⟩)
    | (go_at_call 52; (with_reducible refine (P3.out _).mono ?_); rintro e wc ⟨rfl, hc⟩)
    | (go_at_call 52; (with_reducible refine (P4.out _).mono ?_); rintro e wd ⟨rfl, hd⟩)
    | (go_at_call 52; (with_reducible refine (P5.out _).mono ?_); rintro e we ⟨rfl, he⟩)
    | (go_at_call 52; (with_reducible refine (P6.out _).mono ?_); rintro e wf ⟨rfl, hf⟩))
  go_ret2
  exact ⟨ret_SI HX.out.symm, ha.trans ((hb.mono ha.size).trans ((hc.mono (Nat.le_trans ha.size hb.size)).trans ((hd.mono (Nat.le_trans ha.size (Nat.le_trans hb.size hc.size))).trans ((he.mono (Nat.le_trans ha.size (Nat.le_trans hb.size (Nat.le_trans hc.size hd.size)))).trans (hf.mono (Nat.le_trans ha.size (Nat.le_trans hb.size (Nat.le_trans hc.size (Nat.le_trans hd.size he.size)))))))))⟩
end Go.Proofs.YtooabnmmgmmklaaDoor
