/-
  Several texts in one file, in build order:
  - Walks of chapter 11's statements: the examples.
  - Walks of chapter 11, the reference: spaces, numeric, Number.
-/
import Derived.Test.YthlppbpccldikaaDoorH11
import Derived.Test.YthlppbpccldikaaDoorH15
import Derived.Test.YthlppbpccldikaaDoorH16
import Derived.Deep.RegionHeld3
import Derived.Test.YthlppbpccldikaaDoorH3
import Derived.Test.YthlppbpccldikaaDoorH6
import Derived.WalkSpells
set_option linter.unusedVariables false
namespace Go.Proofs.YthlppbpccldikaaDoor
open Go.RowKit

def doc11a : Bytes := [123, 34, 97, 34, 58, 32, 91, 49, 44, 32, 45, 50, 48, 93, 125]
def doc11b : Bytes := [91, 48, 49, 93]
def doc11c : Bytes := [123, 34, 97, 34, 58, 49, 44, 34, 97, 34, 58, 50, 125]
def doc11d : Bytes := [91, 49, 44, 93]
def it11a : JV := .mk 2 false 1 [] [] [] 7
def it11b : JV := .mk 2 false (-20) [] [] [] 10
def arr11 : JV := .mk 4 false 0 [] [it11a, it11b] [] 6
def tree11 : JV := .mk 5 false 0 [] [] [.mk [97] arr11 1] 0
theorem parse11a : parseJ doc11a = .ok tree11 := by kernel_rfl
theorem parse11b : parseJ doc11b = .error (1, 15) := by kernel_rfl
theorem parse11c : parseJ doc11c = .error (7, 10) := by kernel_rfl
theorem parse11d : parseJ doc11d = .error (3, 7) := by kernel_rfl
theorem get11t : getJ tree11 [97] = some arr11 := by kernel_rfl
theorem dep11t : jdep tree11 = 3 := by kernel_rfl
theorem sz11t : jsz tree11 ≤ 10 := by decide
theorem ful11t : jful tree11 ≤ 1000000 := by decide
theorem slim11t : JSlim tree11 := jslim_of_ful _ (by have := ful11t; omega)
theorem fit11t : JFit tree11 := by simp [tree11, arr11, it11a, it11b, JFit, JFitL, JFitM]
theorem strip11t : stripJ tree11 = .mk 5 false 0 [] [] [.mk [97] (.mk 4 false 0 [] [.mk 2 false 1 [] [] [] 0, .mk 2 false (-20) [] [] [] 0] [] 0) 0] 0 := by kernel_rfl
theorem fit11s : JFit (stripJ tree11) := by rw [strip11t]; simp [JFit, JFitL, JFitM]
theorem eq11ok (v u : Value) (w : World) (h : ValV w (· < w.heap.size) tree11 v) (h2 : ValV w (· < w.heap.size) (stripJ tree11) u) : Calls Tryd.prog 14 #[v, u] w fun e w' => e = .returned (.bool true) ∧ Below w.heap.size w w' := by
  have := equal11_any 10 tree11 (stripJ tree11) v u w sz11t fit11t fit11s h h2
  rw [jeq_strip] at this
  exact this
set_option maxHeartbeats 8000000 in
set_option maxRecDepth 100000 in
theorem alive11_any (w : World) (hT : Tabs w) (hE : NumE w) : Calls Tryd.prog 7 #[] w fun e w' => e = .returned (.bool true) ∧ Below w.heap.size w w' := by
  have hA : ∀ W, Below w.heap.size w W → Calls Tryd.prog 16 #[.string ⟨#[123, 34, 97, 34, 58, 32, 91, 49, 44, 32, 45, 50, 48, 93, 125]⟩] W fun e w' => (∃ IA ic MA mc, e = .returned (.tuple #[.agg #[.int .i64 5, .bool false, .int .i64 0, .string (S []), .slice IA 0 ic, .slice MA 1 mc, .int .i64 0], .int .i64 15, .int .i64 0]) ∧ ValV w' (· < w'.heap.size) tree11 (.agg #[.int .i64 5, .bool false, .int .i64 0, .string (S []), .slice IA 0 ic, .slice MA 1 mc, .int .i64 0])) ∧ Below W.heap.size W w' := fun W h => (parse11_both doc11a W (hT.next h) (hE.next h) (by decide)).mono (fun e w' h => by rw [parse11a] at h; exact h)
  have HA := Lib.hid hA
  have hB : ∀ W, Below w.heap.size w W → Calls Tryd.prog 16 #[.string ⟨#[91, 48, 49, 93]⟩] W fun e w' => (∃ IA ic MA mc, e = .returned (.tuple #[.agg #[.int .i64 0, .bool false, .int .i64 0, .string (S []), .slice IA 0 ic, .slice MA 0 mc, .int .i64 0], .int .i64 1, .int .i64 15]) ∧ ValV w' (· < w'.heap.size) zJV (.agg #[.int .i64 0, .bool false, .int .i64 0, .string (S []), .slice IA 0 ic, .slice MA 0 mc, .int .i64 0])) ∧ Below W.heap.size W w' := fun W h => (parse11_both doc11b W (hT.next h) (hE.next h) (by decide)).mono (fun e w' h => by rw [parse11b] at h; exact h)
  have HB := Lib.hid hB
  have hC : ∀ W, Below w.heap.size w W → Calls Tryd.prog 16 #[.string ⟨#[123, 34, 97, 34, 58, 49, 44, 34, 97, 34, 58, 50, 125]⟩] W fun e w' => (∃ IA ic MA mc, e = .returned (.tuple #[.agg #[.int .i64 0, .bool false, .int .i64 0, .string (S []), .slice IA 0 ic, .slice MA 0 mc, .int .i64 0], .int .i64 7, .int .i64 10]) ∧ ValV w' (· < w'.heap.size) zJV (.agg #[.int .i64 0, .bool false, .int .i64 0, .string (S []), .slice IA 0 ic, .slice MA 0 mc, .int .i64 0])) ∧ Below W.heap.size W w' := fun W h => (parse11_both doc11c W (hT.next h) (hE.next h) (by decide)).mono (fun e w' h => by rw [parse11c] at h; exact h)
  have HC := Lib.hid hC
  have hD : ∀ W, Below w.heap.size w W → Calls Tryd.prog 16 #[.string ⟨#[91, 49, 44, 93]⟩] W fun e w' => (∃ IA ic MA mc, e = .returned (.tuple #[.agg #[.int .i64 0, .bool false, .int .i64 0, .string (S []), .slice IA 0 ic, .slice MA 0 mc, .int .i64 0], .int .i64 3, .int .i64 7]) ∧ ValV w' (· < w'.heap.size) zJV (.agg #[.int .i64 0, .bool false, .int .i64 0, .string (S []), .slice IA 0 ic, .slice MA 0 mc, .int .i64 0])) ∧ Below W.heap.size W w' := fun W h => (parse11_both doc11d W (hT.next h) (hE.next h) (by decide)).mono (fun e w' h => by rw [parse11d] at h; exact h)
  have HD := Lib.hid hD
  clear hA hB hC hD hT hE
  go_enter Tryd.func7, Tryd.ntmps7
  go_wp2_with fail
  refine (HA.out _ (Below.refl _ _)).mono ?_
  rintro e w1 ⟨⟨IA, ic, MA, mc, rfl, hv1⟩, hb1⟩
  have N1 := Lib.hid (Jbx.new (n := tree11) hv1)
  have BB1 := Lib.hid (hb1.alloc hb1.size (valBox tree11 IA ic MA mc))
  clear hv1 hb1
  go_wp2_with fail
  obtain ⟨b1, hw1⟩ : ∃ b1, w1.heap.size = b1 := ⟨_, rfl⟩
  rw [hw1] at N1 ⊢
  clear hw1
  obtain ⟨W1, hW1⟩ : ∃ W1, w1.alloc (valBox tree11 IA ic MA mc) = W1 := ⟨_, rfl⟩
  change Calls _ _ _ (w1.alloc (valBox tree11 IA ic MA mc)) _
  rw [hW1] at N1 BB1 ⊢
  clear hW1
  refine (HB.out W1 BB1.out).mono ?_
  rintro e w2 ⟨⟨JA2, jc2, NA2, nc2, rfl, hv2⟩, hb2⟩
  have X2 := Lib.hid (hb2.alloc hb2.size (valBox zJV JA2 jc2 NA2 nc2))
  have BB2 := Lib.hid (BB1.out.trans (X2.out.mono BB1.out.size))
  have N2 := Lib.hid (N1.out.keep X2.out)
  clear hv2 hb2 X2
  go_wp2_with fail
  obtain ⟨b2, hw2⟩ : ∃ b, w2.heap.size = b := ⟨_, rfl⟩
  rw [hw2]
  clear hw2
  obtain ⟨W2, hW2⟩ : ∃ W, w2.alloc (valBox zJV JA2 jc2 NA2 nc2) = W := ⟨_, rfl⟩
  change Calls _ _ _ (w2.alloc (valBox zJV JA2 jc2 NA2 nc2)) _
  rw [hW2] at N2 BB2 ⊢
  clear hW2 N1
  refine (HC.out W2 BB2.out).mono ?_
  rintro e w3 ⟨⟨JA3, jc3, NA3, nc3, rfl, hv3⟩, hb3⟩
  have X3 := Lib.hid (hb3.alloc hb3.size (valBox zJV JA3 jc3 NA3 nc3))
  have BB3 := Lib.hid (BB2.out.trans (X3.out.mono BB2.out.size))
  have N3 := Lib.hid (N2.out.keep X3.out)
  clear hv3 hb3 X3
  go_wp2_with fail
  obtain ⟨b3, hw3⟩ : ∃ b, w3.heap.size = b := ⟨_, rfl⟩
  rw [hw3]
  clear hw3
  obtain ⟨W3, hW3⟩ : ∃ W, w3.alloc (valBox zJV JA3 jc3 NA3 nc3) = W := ⟨_, rfl⟩
  change Calls _ _ _ (w3.alloc (valBox zJV JA3 jc3 NA3 nc3)) _
  rw [hW3] at N3 BB3 ⊢
  clear hW3 N2
  refine (HD.out W3 BB3.out).mono ?_
  rintro e w4 ⟨⟨JA4, jc4, NA4, nc4, rfl, hv4⟩, hb4⟩
  have X4 := Lib.hid (hb4.alloc hb4.size (valBox zJV JA4 jc4 NA4 nc4))
  have BB4 := Lib.hid (BB3.out.trans (X4.out.mono BB3.out.size))
  have N4 := Lib.hid (N3.out.keep X4.out)
  clear hv4 hb4 X4
  go_upto_region 5 with fail
  obtain ⟨b4, hw4⟩ : ∃ b, w4.heap.size = b := ⟨_, rfl⟩
  rw [hw4]
  clear hw4
  obtain ⟨W4, hW4⟩ : ∃ W, w4.alloc (valBox zJV JA4 jc4 NA4 nc4) = W := ⟨_, rfl⟩
  change Code.wp _ _ _ _ (w4.alloc (valBox zJV JA4 jc4 NA4 nc4))
  rw [hW4] at N4 BB4 ⊢
  clear hW4 N3
  have hg := get11_any tree11 [97] _ W4 (by decide) N4.out.tree
  rw [get11t] at hg
  have HG := Lib.hid hg
  clear hg
  go_upto_region 6 with (first
    | ((with_reducible refine gate ?_); refine wp_load_val rfl _ rfl b1 0 rfl [.int .i64 5, .bool false, .int .i64 0, .string (S []), .slice IA 0 ic, .slice MA 1 mc, .int .i64 0] rfl N4.out.range ?_)
    | (go_at_call 8; refine HG.out.mono ?_; rintro e w5 ⟨⟨y, rfl, hy⟩, hb5⟩; obtain ⟨XI, xc, XM, xm, rfl, _⟩ := hy.open_; have hy2 := hy.grow hb5))
  obtain ⟨b5, hw5⟩ : ∃ b, w5.heap.size = b := ⟨_, rfl⟩
  have N5 := Jbx.new hy2
  rw [hw5] at N5 ⊢
  have X5 := hb5.alloc hb5.size (valBox arr11 XI xc XM xm)
  obtain ⟨W5, hW5⟩ : ∃ W, w5.alloc (valBox arr11 XI xc XM xm) = W := ⟨_, rfl⟩
  change Code.wp _ _ _ _ (w5.alloc (valBox arr11 XI xc XM xm))
  rw [hW5] at N5 X5 ⊢
  have BB5 := Lib.hid (BB4.out.trans (X5.mono BB4.out.size))
  have M5 := N4.out.keep X5
  clear hW5 hw5 hy hy2 hb5 HG HA HB HC HD
  obtain ⟨_, _, _, _, ea, hIa, hMa, _, _⟩ := M5.tree.open_
  cases ea
  obtain ⟨mb, moff, mcs, rfl, hmb, hmr, hmm⟩ := hMa.at_ (i := 0) (by decide)
  obtain ⟨_, _, _, _, hmc⟩ := hmm.cells
  subst hmc
  obtain ⟨_, _, _, _, ex, hIx, hMx, _, _⟩ := N5.tree.open_
  cases ex
  obtain ⟨ib, ioff, ics, rfl, hib, hir, him⟩ := hIx.at_ (i := 1) (by decide)
  obtain ⟨_, _, _, _, hic⟩ := him.cells
  subst hic
  have m8 : W5.cell? ⟨mb, moff + 8, none⟩ = some (.int .i64 1) := hmr 8 _ rfl
  have i2 : W5.cell? ⟨ib, ioff + 7 + 2, none⟩ = some (.int .i64 (-20)) := hir 2 _ rfl
  obtain ⟨v0, v1, v2, v3, v4, v5, v6⟩ : W5.cell? ⟨b1, 0, none⟩ = some (.int .i64 5) ∧ W5.cell? ⟨b1, 1, none⟩ = some (.bool false) ∧ W5.cell? ⟨b1, 2, none⟩ = some (.int .i64 0) ∧ W5.cell? ⟨b1, 3, none⟩ = some (.string (S [])) ∧ W5.cell? ⟨b1, 4, none⟩ = some (.slice IA 0 ic) ∧ W5.cell? ⟨b1, 5, none⟩ = some (.slice (some ⟨mb, moff, none⟩) 1 mc) ∧ W5.cell? ⟨b1, 6, none⟩ = some (.int .i64 0) := M5.cells
  obtain ⟨_, _, _, _, y4, _, y6⟩ : W5.cell? ⟨b5, 0, none⟩ = some (.int .i64 4) ∧ W5.cell? ⟨b5, 1, none⟩ = some (.bool false) ∧ W5.cell? ⟨b5, 2, none⟩ = some (.int .i64 0) ∧ W5.cell? ⟨b5, 3, none⟩ = some (.string (S [])) ∧ W5.cell? ⟨b5, 4, none⟩ = some (.slice (some ⟨ib, ioff, none⟩) 2 xc) ∧ W5.cell? ⟨b5, 5, none⟩ = some (.slice XM 0 xm) ∧ W5.cell? ⟨b5, 6, none⟩ = some (.int .i64 6) := N5.cells
  have hKP : ∀ x, Below W5.heap.size W5 x → (x.cell? ⟨b1, 0, none⟩ = some (.int .i64 5) ∧ x.cell? ⟨b1, 1, none⟩ = some (.bool false) ∧ x.cell? ⟨b1, 2, none⟩ = some (.int .i64 0) ∧ x.cell? ⟨b1, 3, none⟩ = some (.string (S [])) ∧ x.cell? ⟨b1, 4, none⟩ = some (.slice IA 0 ic) ∧ x.cell? ⟨b1, 5, none⟩ = some (.slice (some ⟨mb, moff, none⟩) 1 mc) ∧ x.cell? ⟨b1, 6, none⟩ = some (.int .i64 0) ∧ x.cell? ⟨b5, 4, none⟩ = some (.slice (some ⟨ib, ioff, none⟩) 2 xc) ∧ x.cell? ⟨b5, 6, none⟩ = some (.int .i64 6) ∧ x.cell? ⟨mb, moff + 8, none⟩ = some (.int .i64 1) ∧ x.cell? ⟨ib, ioff + 7 + 2, none⟩ = some (.int .i64 (-20))) := fun x hx => by
    have l1 := M5.lt
    have l2 := N5.lt
    exact ⟨(hx.cell (p := ⟨b1, 0, none⟩) l1).trans v0, (hx.cell (p := ⟨b1, 1, none⟩) l1).trans v1, (hx.cell (p := ⟨b1, 2, none⟩) l1).trans v2, (hx.cell (p := ⟨b1, 3, none⟩) l1).trans v3, (hx.cell (p := ⟨b1, 4, none⟩) l1).trans v4, (hx.cell (p := ⟨b1, 5, none⟩) l1).trans v5, (hx.cell (p := ⟨b1, 6, none⟩) l1).trans v6, (hx.cell (p := ⟨b5, 4, none⟩) l2).trans y4, (hx.cell (p := ⟨b5, 6, none⟩) l2).trans y6, (hx.cell (p := ⟨mb, moff + 8, none⟩) hmb).trans m8, (hx.cell (p := ⟨ib, ioff + 7 + 2, none⟩) hib).trans i2⟩
  have hN : ∀ W, Below W5.heap.size W5 W → ValV W (· < W.heap.size) tree11 (.agg #[.int .i64 5, .bool false, .int .i64 0, .string (S []), .slice IA 0 ic, .slice (some ⟨mb, moff, none⟩) 1 mc, .int .i64 0]) := fun W hW => M5.tree.grow hW
  have hD : ∀ W, Below W5.heap.size W5 W → Calls Tryd.prog 12 #[.agg #[.int .i64 5, .bool false, .int .i64 0, .string (S []), .slice IA 0 ic, .slice (some ⟨mb, moff, none⟩) 1 mc, .int .i64 0]] W fun e w' => e = .returned (.int .i64 3) ∧ Below W.heap.size W w' := fun W hW => by
    have := depth11_any 10 tree11 _ W sz11t ful11t (hN W hW)
    rw [dep11t] at this
    exact this
  have HN := Lib.hid hN
  have HDP := Lib.hid hD
  have KEEP := Lib.hid hKP
  clear hN hD hKP hmr hir hmm him hIa hMa hIx hMx M5 N5 N4 X5
  go_wp2_with fail
  go_region_held3 (fun x => x.cell? ⟨b1, 0, none⟩ = some (.int .i64 5) ∧ x.cell? ⟨b1, 1, none⟩ = some (.bool false) ∧ x.cell? ⟨b1, 2, none⟩ = some (.int .i64 0) ∧ x.cell? ⟨b1, 3, none⟩ = some (.string (S [])) ∧ x.cell? ⟨b1, 4, none⟩ = some (.slice IA 0 ic) ∧ x.cell? ⟨b1, 5, none⟩ = some (.slice (some ⟨mb, moff, none⟩) 1 mc) ∧ x.cell? ⟨b1, 6, none⟩ = some (.int .i64 0) ∧ x.cell? ⟨b5, 4, none⟩ = some (.slice (some ⟨ib, ioff, none⟩) 2 xc) ∧ x.cell? ⟨b5, 6, none⟩ = some (.int .i64 6) ∧ x.cell? ⟨mb, moff + 8, none⟩ = some (.int .i64 1) ∧ x.cell? ⟨ib, ioff + 7 + 2, none⟩ = some (.int .i64 (-20)))
    (first | exact KEEP.out _ R8.out | exact KEEP.out _ R7.out | exact KEEP.out _ R6.out | exact KEEP.out _ (Below.refl _ _).drew)
    (first
      | ((go_at_call 12; refine (HDP.out _ (Below.refl _ _).drew).mono ?_; rintro e w6 ⟨rfl, hb6⟩; have R6 : Hid (Below W5.heap.size W5 w6) := Lib.hid ((Below.refl _ _).drew.trans hb6); clear hb6))
      | ((go_at_call 10; refine (strip11_any 10 tree11 _ w6 sz11t slim11t (HN.out _ R6.out)).mono ?_; rintro e w7 ⟨u, rfl, hu, hb7⟩; have R7 := Lib.hid (R6.out.trans (hb7.mono R6.out.size)); have HEQ := Lib.hid (eq11ok _ u w7 (HN.out _ R7.out) (hu.keep (fun _ _ => rfl) (fun _ h => h.2))); clear hu hb7))
      | ((go_at_call 14; refine (HEQ.out).mono ?_; rintro e w8 ⟨rfl, hb8⟩; have R8 := Lib.hid (R7.out.trans (hb8.mono R7.out.size)); clear hb8)))
  all_goals
    go_wp2_with fail
    go_ret
    exact ⟨rfl, BB5.out.trans (R8.out.mono BB5.out.size)⟩
end Go.Proofs.YthlppbpccldikaaDoor
set_option linter.unusedVariables false
namespace Go.Proofs.YthlppbpccldikaaDoor
open Go.RowKit

end Go.Proofs.YthlppbpccldikaaDoor
