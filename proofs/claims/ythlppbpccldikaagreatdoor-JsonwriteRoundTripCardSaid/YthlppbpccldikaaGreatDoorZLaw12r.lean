/-
  Walks of chapter 12's statements: what is written is read back.
-/
import Derived.Test.YthlppbpccldikaaGreatDoorZLaw12b
import Derived.Test.YthlppbpccldikaaGreatDoorZRefJC
import Derived.Test.YthlppbpccldikaaGreatDoorH11
import Derived.Test.YthlppbpccldikaaGreatDoorH15
import Derived.Test.YthlppbpccldikaaGreatDoorH20
set_option linter.unusedVariables false
namespace Go.Proofs.YthlppbpccldikaaGreatDoor
open Go.RowKit
set_option maxHeartbeats 8000000 in
set_option maxRecDepth 100000 in
theorem law12trip_any (n : JV) (v : Value) (w : World) (hT : Tabs w) (hE : NumE w) (hf : JFit n) (hv : ValV w (· < w.heap.size) n v) :
    Calls Tryz.prog 5 #[v] w fun e w' => e = .returned (.bool true) ∧ Below w.heap.size w w' := by
  have hal := fun W => fun (hW : Below w.heap.size w W) => alive12_any W (hT.next hW)
  have HAL := Lib.hid hal
  obtain ⟨A, cap, K, kcap, rfl, _⟩ := hv.open_
  have N1 := Lib.hid (Jbx.new (n := n) hv)
  obtain ⟨b1, hw1⟩ : ∃ b1, w.heap.size = b1 := ⟨_, rfl⟩
  have F1 := Lib.hid ((Below.refl w.heap.size w).alloc (Nat.le_refl _) (valBox n A cap K kcap))
  obtain ⟨W1, hW1⟩ : ∃ W1, w.alloc (valBox n A cap K kcap) = W1 := ⟨_, rfl⟩
  rw [hW1] at N1 F1
  rw [hw1] at N1
  have htl := tooLarge12_any n _ W1 hf N1.out.tree
  obtain ⟨x0, x1, x2, x3, x4, x5, x6⟩ := N1.out.cells
  rcases bigJ_cases n with h | ⟨h, hs⟩
  · rw [h] at htl
    have HTL := Lib.hid htl
    clear hal hT hE htl hf hv h
    go_enter Tryz.func5, Tryz.ntmps5
    rw [hw1]
    go_wp2_with fail
    refine HTL.out.mono ?_
    rintro e w2 ⟨rfl, hb2⟩
    have BB2 := Lib.hid (F1.out.trans (hb2.mono F1.out.size))
    go_wp2_with fail
    refine (HAL.out _ BB2.out).mono ?_
    rintro e w3 ⟨rfl, hb3⟩
    go_wp2_with fail
    go_ret
    rw [← hw1]
    exact ⟨rfl, BB2.out.trans (hb3.mono BB2.out.size)⟩
  rw [h] at htl
  have HTL := Lib.hid htl
  cases hj : jvd n 1 with
  | false =>
    have hck := fun W u => fun (hW : Below w.heap.size w W) (hu : ValV W (· < W.heap.size) n u) => refCheck12_any n u W (by omega) hu (hT.next hW)
    rw [hj] at hck
    dsimp only [errJ] at hck
    simp only [Bool.false_eq_true, if_false] at hck
    have HCK := Lib.hid hck
    clear hal hT hE htl hf hv h hck hj
    go_enter Tryz.func5, Tryz.ntmps5
    rw [hw1]
    go_wp2_with fail
    refine HTL.out.mono ?_
    rintro e w2 ⟨rfl, hb2⟩
    have BB2 := Lib.hid (F1.out.trans (hb2.mono F1.out.size))
    have N2 := Lib.hid (N1.out.keep hb2)
    clear x0 x1 x2 x3 x4 x5 x6
    obtain ⟨x0, x1, x2, x3, x4, x5, x6⟩ := N2.out.cells
    go_wp2_with fail
    refine (HCK.out _ _ BB2.out N2.out.tree).mono ?_
    rintro e w3 ⟨rfl, hb3⟩
    have BB3 := Lib.hid (BB2.out.trans (hb3.mono BB2.out.size))
    go_wp2_with fail
    refine (HAL.out _ BB3.out).mono ?_
    rintro e w4 ⟨rfl, hb4⟩
    go_wp2_with fail
    go_ret
    rw [← hw1]
    exact ⟨rfl, BB3.out.trans (hb4.mono BB3.out.size)⟩
  | true =>
    have hck := fun W u => fun (hW : Below w.heap.size w W) (hu : ValV W (· < W.heap.size) n u) => refCheck12_any n u W (by omega) hu (hT.next hW)
    have hwr := fun W u => fun (hW : Below w.heap.size w W) (hu : ValV W (· < W.heap.size) n u) => write12_any n u W (by omega) hf (hT.next hW) hu
    obtain ⟨hp1, hp2⟩ := parse_jtx hj hf
    have hf2 := fit_pos n 0 hf
    have hlen : (jtx n).length ≤ 1000000 := by have := jtx_len n hf; omega
    have hpa := fun W => fun (hW : Below w.heap.size w W) => parse11_both (jtx n) W (hT.next hW) (hE.next hW) hlen
    rw [hp1] at hpa
    unfold BothJ at hpa
    dsimp only [valR, atRJ, erRJ] at hpa
    have hwr2 := fun W u => fun (hW : Below w.heap.size w W) (hu : ValV W (· < W.heap.size) (posJ 0 n) u) => write12_any (posJ 0 n) u W (by rw [jful_posJ]; omega) hf2 (hT.next hW) hu
    have heq : ∀ W x u, ValV W (· < W.heap.size) n x → ValV W (· < W.heap.size) (posJ 0 n) u → Calls Tryz.prog 9 #[x, u, .bool false] W fun e w' => e = .returned (.bool true) ∧ Below W.heap.size W w' := fun W x u hx hu => by
      have := refEqual11_any _ false n (posJ 0 n) x u W (Nat.le_refl _) hf hf2 hx hu
      rw [hp2] at this
      exact this
    rw [hj] at hck hwr
    rw [jvd_pos, hj] at hwr2
    dsimp only [errJ, outJ] at hck hwr hwr2
    try simp only [if_true] at hck
    try simp only [if_true] at hwr
    simp only [if_true, jtx_pos] at hwr2
    generalize posJ 0 n = m at *
    generalize hX : jtx n = X at *
    have HCK := Lib.hid hck
    have HWR := Lib.hid hwr
    have HPA := Lib.hid hpa
    have HWR2 := Lib.hid hwr2
    have HEQ := Lib.hid heq
    clear hal hT hE htl hf hv h hck hwr hwr2 hpa heq hp1 hp2 hf2 hj hX
    go_enter Tryz.func5, Tryz.ntmps5
    rw [hw1]
    go_wp2_with fail
    refine HTL.out.mono ?_
    rintro e w2 ⟨rfl, hb2⟩
    have BB2 := Lib.hid (F1.out.trans (hb2.mono F1.out.size))
    have N2 := Lib.hid (N1.out.keep hb2)
    clear x0 x1 x2 x3 x4 x5 x6 hb2 N1
    obtain ⟨x0, x1, x2, x3, x4, x5, x6⟩ := N2.out.cells
    go_wp2_with fail
    refine (HCK.out _ _ BB2.out N2.out.tree).mono ?_
    rintro e w3 ⟨rfl, hb3⟩
    have BB3 := Lib.hid (BB2.out.trans (hb3.mono BB2.out.size))
    have N3 := Lib.hid (N2.out.keep hb3)
    clear x0 x1 x2 x3 x4 x5 x6 hb3 N2
    obtain ⟨x0, x1, x2, x3, x4, x5, x6⟩ := N3.out.cells
    go_wp2_with fail
    refine (HWR.out _ _ BB3.out N3.out.tree).mono ?_
    rintro e w4 ⟨rfl, hb4⟩
    have BB4 := Lib.hid (BB3.out.trans (hb4.mono BB3.out.size))
    have N4 := Lib.hid (N3.out.keep hb4)
    clear x0 x1 x2 x3 x4 x5 x6 hb4 N3
    go_wp2_with fail
    refine (HPA.out _ BB4.out).mono ?_
    rintro e w5 ⟨⟨A2, c2, K2, d2, rfl, hv5⟩, hb5⟩
    have M5 := Lib.hid (Jbx.new hv5)
    have X5 := Lib.hid (hb5.alloc hb5.size (valBox m A2 c2 K2 d2))
    have BB5 := Lib.hid (BB4.out.trans (X5.out.mono BB4.out.size))
    have N5 := Lib.hid (N4.out.keep X5.out)
    clear hv5 hb5 N4 X5
    go_upto_region 5 with fail
    obtain ⟨b2, hw2⟩ : ∃ b, w5.heap.size = b := ⟨_, rfl⟩
    rw [hw2] at M5 ⊢
    clear hw2
    obtain ⟨W5, hW5⟩ : ∃ W, w5.alloc (valBox m A2 c2 K2 d2) = W := ⟨_, rfl⟩
    change Code.wp _ _ _ _ (w5.alloc (valBox m A2 c2 K2 d2))
    rw [hW5] at M5 BB5 N5 ⊢
    clear hW5
    obtain ⟨y0, y1, y2, y3, y4, y5, y6⟩ := M5.out.cells
    go_wp2_with fail
    refine (HWR2.out _ _ BB5.out M5.out.tree).mono ?_
    rintro e w6 ⟨rfl, hb6⟩
    have BB6 := Lib.hid (BB5.out.trans (hb6.mono BB5.out.size))
    have N6 := Lib.hid (N5.out.keep hb6)
    have M6 := Lib.hid (M5.out.keep hb6)
    clear y0 y1 y2 y3 y4 y5 y6 hb6 N5 M5
    go_wp2_with fail
    refine (HAL.out _ BB6.out).mono ?_
    rintro e w7 ⟨rfl, hb7⟩
    have BB7 := Lib.hid (BB6.out.trans (hb7.mono BB6.out.size))
    have N7 := Lib.hid (N6.out.keep hb7)
    have M7 := Lib.hid (M6.out.keep hb7)
    clear hb7 N6 M6
    obtain ⟨x0, x1, x2, x3, x4, x5, x6⟩ := N7.out.cells
    obtain ⟨y0, y1, y2, y3, y4, y5, y6⟩ := M7.out.cells
    go_wp2_with fail
    refine (HEQ.out _ _ _ N7.out.tree M7.out.tree).mono ?_
    rintro e w8 ⟨rfl, hb8⟩
    go_wp2_with fail
    go_ret
    rw [← hw1]
    exact ⟨rfl, BB7.out.trans (hb8.mono BB7.out.size)⟩
end Go.Proofs.YthlppbpccldikaaGreatDoor
