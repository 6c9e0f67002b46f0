/-
  Several texts in one file, in build order:
  - Walk of chapter 7's statement MatchesReference.
-/
import Derived.Test.YtclhdppppgjgfaaGreatDoorH21
import Derived.Test.YtclhdppppgjgfaaGreatDoorH17
import Derived.Test.YtclhdppppgjgfaaGreatDoorH24
set_option linter.unusedVariables false
namespace Go.Proofs.YtclhdppppgjgfaaGreatDoor
open Go.RowKit

set_option maxHeartbeats 4000000 in
set_option maxRecDepth 100000 in
theorem law7matches_any (l : Bytes) (m : Int) (w : World) (hT : Tabs w) (hM : MaxLen m w) (hl : l.length ≤ 9223372036854775807) :
    Calls Tryz.prog 3 #[.string (S l)] w fun e w' => e = .returned (.bool true) ∧ Below w.heap.size w w' := by
  have hal := fun W => fun (hW : Below w.heap.size w W) => alive7_any m W (hT.next hW) (hM.below hW)
  have HAL := Lib.hid hal
  by_cases h5 : 3000 < l.length
  · have h5' : (3000 : Int) < l.length := by omega
    clear hal hT hM
    go_enter Tryz.func3, Tryz.ntmps3
    go_wp2_with (go_at_call 11; refine (HAL.out _ (Below.refl _ _)).mono ?_; rintro e w1 ⟨rfl, hb1⟩)
    go_ret
    exact ⟨rfl, hb1⟩
  · have h5' : ¬ (3000 : Int) < l.length := by omega
    have h1 := parse7_both l m w hT hM (by omega)
    have h2 := fun W => refParse_both l W (by omega)
    have hfx := treeR_facts (l := l) (by omega)
    have heq := fun W v u (hv : NodeV W W.heap.size (treeR (parse l)) v) (hu : NodeV W W.heap.size (treeR (parse l)) u) => refEqual_any true _ _ v u W hv hu hfx.2.1 hfx.2.1
    simp only [eqv_refl7] at heq
    unfold BothR at h1 h2
    generalize treeR (parse l) = X at *
    generalize atR l (parse l) = x at *
    generalize erR (parse l) = y at *
    have H1 := Lib.hid h1
    have H2 := Lib.hid h2
    have HEQ := Lib.hid heq
    have e1 : (x == x) = true := by simp
    have e2 : (y == y) = true := by simp
    clear hal hT hM h1 h2 heq hfx
    go_enter Tryz.func3, Tryz.ntmps3
    go_wp2_with fail
    refine H1.out.mono ?_
    rintro e w1 ⟨⟨A1, c1, K1, d1, rfl, hv1⟩, hb1⟩
    have N1 := Lib.hid (Nbx.new hv1)
    have BB1 := Lib.hid (hb1.alloc hb1.size (nodeBox X A1 c1 K1 d1))
    clear hv1 hb1
    go_wp2_with fail
    obtain ⟨b1, hw1⟩ : ∃ b1, w1.heap.size = b1 := ⟨_, rfl⟩
    rw [hw1] at N1 ⊢
    clear hw1
    generalize w1.alloc (nodeBox X A1 c1 K1 d1) = W1 at *
    refine (H2.out W1).mono ?_
    rintro e w2 ⟨⟨A2, c2, K2, d2, rfl, hv2⟩, hb2⟩
    have N2 := Lib.hid (Nbx.new hv2)
    have X2 := Lib.hid (hb2.alloc hb2.size (nodeBox X A2 c2 K2 d2))
    have BB2 := Lib.hid (BB1.out.trans (X2.out.mono BB1.out.size))
    have N1b := Lib.hid (N1.out.keep X2.out)
    clear hv2 hb2 N1 X2
    go_wp2_with fail
    obtain ⟨b2, hw2⟩ : ∃ b2, w2.heap.size = b2 := ⟨_, rfl⟩
    rw [hw2] at N2 ⊢
    clear hw2
    generalize w2.alloc (nodeBox X A2 c2 K2 d2) = W2 at *
    refine (HAL.out W2 BB2.out).mono ?_
    rintro e w3 ⟨rfl, hb3⟩
    have N1c := Lib.hid (N1b.out.keep hb3)
    have N2c := Lib.hid (N2.out.keep hb3)
    have BB3 := Lib.hid (BB2.out.trans (hb3.mono BB2.out.size))
    obtain ⟨x0, x1, x2, x3, x4, x5, x6⟩ := N1c.out.cells
    obtain ⟨y0, y1, y2, y3, y4, y5, y6⟩ := N2c.out.cells
    clear hb3 N1b N2
    go_wp2_with fail
    refine (HEQ.out w3 _ _ N1c.out.tree N2c.out.tree).mono ?_
    rintro e w4 ⟨rfl, hb4⟩
    go_wp2_with fail
    go_ret
    exact ⟨rfl, BB3.out.trans (hb4.mono BB3.out.size)⟩
end Go.Proofs.YtclhdppppgjgfaaGreatDoor
