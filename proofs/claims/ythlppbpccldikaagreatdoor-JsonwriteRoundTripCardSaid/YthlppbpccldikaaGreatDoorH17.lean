/-
  Several texts in one file, in build order:
  - Walks of chapter 11's statements: the examples.
  - Plain: a parsed JSON value fits the machine. No program.
  - Walks of chapter 11, the reference: spaces, numeric, Number.
  - Walks of chapter 11, the reference: results in memory; wrong, word.
  - Walks of chapter 11, the reference: key.
-/
import Derived.Test.YthlppbpccldikaaGreatDoorH11
import Derived.Test.YthlppbpccldikaaGreatDoorH15
import Derived.Test.YthlppbpccldikaaGreatDoorH16
import Derived.Deep.RegionHeld3
import Derived.Test.YthlppbpccldikaaGreatDoorH5
import Derived.Test.YthlppbpccldikaaGreatDoorH3
import Derived.Test.YthlppbpccldikaaGreatDoorH6
import Derived.WalkSpells
import Derived.Test.YthlppbpccldikaaGreatDoorH4
set_option linter.unusedVariables false
namespace Go.Proofs.YthlppbpccldikaaGreatDoor
open Go.RowKit

def doc11a : Bytes := [123, 34, 97, 34, 58, 32, 91, 49, 44, 32, 45, 50, 48, 93, 125]
def doc11b : Bytes := [91, 48, 49, 93]
def doc11c : Bytes := [123, 34, 97, 34, 58, 49, 44, 34, 97, 34, 58, 50, 125]
def doc11d : Bytes := [91, 49, 44, 93]
def it11a : JV := .mk 2 false 1 [] [] [] 7
def it11b : JV := .mk 2 false (-20) [] [] [] 10
def arr11 : JV := .mk 4 false 0 [] [it11a, it11b] [] 6
def tree11 : JV := .mk 5 false 0 [] [] [.mk [97] arr11 1] 0
theorem parse11a : parseJ doc11a = .ok tree11 := by kernel_rfl
theorem parse11b : parseJ doc11b = .error (1, 15) := by kernel_rfl
theorem parse11c : parseJ doc11c = .error (7, 10) := by kernel_rfl
theorem parse11d : parseJ doc11d = .error (3, 7) := by kernel_rfl
theorem get11t : getJ tree11 [97] = some arr11 := by kernel_rfl
theorem dep11t : jdep tree11 = 3 := by kernel_rfl
theorem sz11t : jsz tree11 ≤ 10 := by decide
theorem ful11t : jful tree11 ≤ 1000000 := by decide
theorem slim11t : JSlim tree11 := jslim_of_ful _ (by have := ful11t; omega)
theorem fit11t : JFit tree11 := by simp [tree11, arr11, it11a, it11b, JFit, JFitL, JFitM]
theorem strip11t : stripJ tree11 = .mk 5 false 0 [] [] [.mk [97] (.mk 4 false 0 [] [.mk 2 false 1 [] [] [] 0, .mk 2 false (-20) [] [] [] 0] [] 0) 0] 0 := by kernel_rfl
theorem fit11s : JFit (stripJ tree11) := by rw [strip11t]; simp [JFit, JFitL, JFitM]
theorem eq11ok (v u : Value) (w : World) (h : ValV w (· < w.heap.size) tree11 v) (h2 : ValV w (· < w.heap.size) (stripJ tree11) u) : Calls Tryz.prog 18 #[v, u] w fun e w' => e = .returned (.bool true) ∧ Below w.heap.size w w' := by
  have := equal11_any 10 tree11 (stripJ tree11) v u w sz11t fit11t fit11s h h2
  rw [jeq_strip] at this
  exact this
set_option maxHeartbeats 8000000 in
set_option maxRecDepth 100000 in
theorem alive11_any (w : World) (hT : Tabs w) (hE : NumE w) : Calls Tryz.prog 6 #[] w fun e w' => e = .returned (.bool true) ∧ Below w.heap.size w w' := by
  have hA : ∀ W, Below w.heap.size w W → Calls Tryz.prog 7 #[.string ⟨#[123, 34, 97, 34, 58, 32, 91, 49, 44, 32, 45, 50, 48, 93, 125]⟩] W fun e w' => (∃ IA ic MA mc, e = .returned (.tuple #[.agg #[.int .i64 5, .bool false, .int .i64 0, .string (S []), .slice IA 0 ic, .slice MA 1 mc, .int .i64 0], .int .i64 15, .int .i64 0]) ∧ ValV w' (· < w'.heap.size) tree11 (.agg #[.int .i64 5, .bool false, .int .i64 0, .string (S []), .slice IA 0 ic, .slice MA 1 mc, .int .i64 0])) ∧ Below W.heap.size W w' := fun W h => (parse11_both doc11a W (hT.next h) (hE.next h) (by decide)).mono (fun e w' h => by rw [parse11a] at h; exact h)
  have HA := Lib.hid hA
  have hB : ∀ W, Below w.heap.size w W → Calls Tryz.prog 7 #[.string ⟨#[91, 48, 49, 93]⟩] W fun e w' => (∃ IA ic MA mc, e = .returned (.tuple #[.agg #[.int .i64 0, .bool false, .int .i64 0, .string (S []), .slice IA 0 ic, .slice MA 0 mc, .int .i64 0], .int .i64 1, .int .i64 15]) ∧ ValV w' (· < w'.heap.size) zJV (.agg #[.int .i64 0, .bool false, .int .i64 0, .string (S []), .slice IA 0 ic, .slice MA 0 mc, .int .i64 0])) ∧ Below W.heap.size W w' := fun W h => (parse11_both doc11b W (hT.next h) (hE.next h) (by decide)).mono (fun e w' h => by rw [parse11b] at h; exact h)
  have HB := Lib.hid hB
  have hC : ∀ W, Below w.heap.size w W → Calls Tryz.prog 7 #[.string ⟨#[123, 34, 97, 34, 58, 49, 44, 34, 97, 34, 58, 50, 125]⟩] W fun e w' => (∃ IA ic MA mc, e = .returned (.tuple #[.agg #[.int .i64 0, .bool false, .int .i64 0, .string (S []), .slice IA 0 ic, .slice MA 0 mc, .int .i64 0], .int .i64 7, .int .i64 10]) ∧ ValV w' (· < w'.heap.size) zJV (.agg #[.int .i64 0, .bool false, .int .i64 0, .string (S []), .slice IA 0 ic, .slice MA 0 mc, .int .i64 0])) ∧ Below W.heap.size W w' := fun W h => (parse11_both doc11c W (hT.next h) (hE.next h) (by decide)).mono (fun e w' h => by rw [parse11c] at h; exact h)
  have HC := Lib.hid hC
  have hD : ∀ W, Below w.heap.size w W → Calls Tryz.prog 7 #[.string ⟨#[91, 49, 44, 93]⟩] W fun e w' => (∃ IA ic MA mc, e = .returned (.tuple #[.agg #[.int .i64 0, .bool false, .int .i64 0, .string (S []), .slice IA 0 ic, .slice MA 0 mc, .int .i64 0], .int .i64 3, .int .i64 7]) ∧ ValV w' (· < w'.heap.size) zJV (.agg #[.int .i64 0, .bool false, .int .i64 0, .string (S []), .slice IA 0 ic, .slice MA 0 mc, .int .i64 0])) ∧ Below W.heap.size W w' := fun W h => (parse11_both doc11d W (hT.next h) (hE.next h) (by decide)).mono (fun e w' h => by rw [parse11d] at h; exact h)
  have HD := Lib.hid hD
  clear hA hB hC hD hT hE
  go_enter Tryz.func6, Tryz.ntmps6
  go_wp2_with fail
  refine (HA.out _ (Below.refl _ _)).mono ?_
  rintro e w1 ⟨⟨IA, ic, MA, mc, rfl, hv1⟩, hb1⟩
  have N1 := Lib.hid (Jbx.new (n := tree11) hv1)
  have BB1 := Lib.hid (hb1.alloc hb1.size (valBox tree11 IA ic MA mc))
  clear hv1 hb1
  go_wp2_with fail
  obtain ⟨b1, hw1⟩ : ∃ b1, w1.heap.size = b1 := ⟨_, rfl⟩
  rw [hw1] at N1 ⊢
  clear hw1
  obtain ⟨W1, hW1⟩ : ∃ W1, w1.alloc (valBox tree11 IA ic MA mc) = W1 := ⟨_, rfl⟩
  change Calls _ _ _ (w1.alloc (valBox tree11 IA ic MA mc)) _
  rw [hW1] at N1 BB1 ⊢
  clear hW1
  refine (HB.out W1 BB1.out).mono ?_
  rintro e w2 ⟨⟨JA2, jc2, NA2, nc2, rfl, hv2⟩, hb2⟩
  have X2 := Lib.hid (hb2.alloc hb2.size (valBox zJV JA2 jc2 NA2 nc2))
  have BB2 := Lib.hid (BB1.out.trans (X2.out.mono BB1.out.size))
  have N2 := Lib.hid (N1.out.keep X2.out)
  clear hv2 hb2 X2
  go_wp2_with fail
  obtain ⟨b2, hw2⟩ : ∃ b, w2.heap.size = b := ⟨_, rfl⟩
  rw [hw2]
  clear hw2
  obtain ⟨W2, hW2⟩ : ∃ W, w2.alloc (valBox zJV JA2 jc2 NA2 nc2) = W := ⟨_, rfl⟩
  change Calls _ _ _ (w2.alloc (valBox zJV JA2 jc2 NA2 nc2)) _
  rw [hW2] at N2 BB2 ⊢
  clear hW2 N1
  refine (HC.out W2 BB2.out).mono ?_
  rintro e w3 ⟨⟨JA3, jc3, NA3, nc3, rfl, hv3⟩, hb3⟩
  have X3 := Lib.hid (hb3.alloc hb3.size (valBox zJV JA3 jc3 NA3 nc3))
  have BB3 := Lib.hid (BB2.out.trans (X3.out.mono BB2.out.size))
  have N3 := Lib.hid (N2.out.keep X3.out)
  clear hv3 hb3 X3
  go_wp2_with fail
  obtain ⟨b3, hw3⟩ : ∃ b, w3.heap.size = b := ⟨_, rfl⟩
  rw [hw3]
  clear hw3
  obtain ⟨W3, hW3⟩ : ∃ W, w3.alloc (valBox zJV JA3 jc3 NA3 nc3) = W := ⟨_, rfl⟩
  change Calls _ _ _ (w3.alloc (valBox zJV JA3 jc3 NA3 nc3)) _
  rw [hW3] at N3 BB3 ⊢
  clear hW3 N2
  refine (HD.out W3 BB3.out).mono ?_
  rintro e w4 ⟨⟨JA4, jc4, NA4, nc4, rfl, hv4⟩, hb4⟩
  have X4 := Lib.hid (hb4.alloc hb4.size (valBox zJV JA4 jc4 NA4 nc4))
  have BB4 := Lib.hid (BB3.out.trans (X4.out.mono BB3.out.size))
  have N4 := Lib.hid (N3.out.keep X4.out)
  clear hv4 hb4 X4
  go_upto_region 5 with fail
  obtain ⟨b4, hw4⟩ : ∃ b, w4.heap.size = b := ⟨_, rfl⟩
  rw [hw4]
  clear hw4
  obtain ⟨W4, hW4⟩ : ∃ W, w4.alloc (valBox zJV JA4 jc4 NA4 nc4) = W := ⟨_, rfl⟩
  change Code.wp _ _ _ _ (w4.alloc (valBox zJV JA4 jc4 NA4 nc4))
  rw [hW4] at N4 BB4 ⊢
  clear hW4 N3
  have hg := get11_any tree11 [97] _ W4 (by decide) N4.out.tree
  rw [get11t] at hg
  have HG := Lib.hid hg
  clear hg
  go_upto_region 6 with (first
    | ((with_reducible refine gate ?_); refine wp_load_val rfl _ rfl b1 0 rfl [.int .i64 5, .bool false, .int .i64 0, .string (S []), .slice IA 0 ic, .slice MA 1 mc, .int .i64 0] rfl N4.out.range ?_)
    | (go_at_call 12; refine HG.out.mono ?_; rintro e w5 ⟨⟨y, rfl, hy⟩, hb5⟩; obtain ⟨XI, xc, XM, xm, rfl, _⟩ := hy.open_; have hy2 := hy.grow hb5))
  obtain ⟨b5, hw5⟩ : ∃ b, w5.heap.size = b := ⟨_, rfl⟩
  have N5 := Jbx.new hy2
  rw [hw5] at N5 ⊢
  have X5 := hb5.alloc hb5.size (valBox arr11 XI xc XM xm)
  obtain ⟨W5, hW5⟩ : ∃ W, w5.alloc (valBox arr11 XI xc XM xm) = W := ⟨_, rfl⟩
  change Code.wp _ _ _ _ (w5.alloc (valBox arr11 XI xc XM xm))
  rw [hW5] at N5 X5 ⊢
  have BB5 := Lib.hid (BB4.out.trans (X5.mono BB4.out.size))
  have M5 := N4.out.keep X5
  clear hW5 hw5 hy hy2 hb5 HG HA HB HC HD
  obtain ⟨_, _, _, _, ea, hIa, hMa, _, _⟩ := M5.tree.open_
  cases ea
  obtain ⟨mb, moff, mcs, rfl, hmb, hmr, hmm⟩ := hMa.at_ (i := 0) (by decide)
  obtain ⟨_, _, _, _, hmc⟩ := hmm.cells
  subst hmc
  obtain ⟨_, _, _, _, ex, hIx, hMx, _, _⟩ := N5.tree.open_
  cases ex
  obtain ⟨ib, ioff, ics, rfl, hib, hir, him⟩ := hIx.at_ (i := 1) (by decide)
  obtain ⟨_, _, _, _, hic⟩ := him.cells
  subst hic
  have m8 : W5.cell? ⟨mb, moff + 8, none⟩ = some (.int .i64 1) := hmr 8 _ rfl
  have i2 : W5.cell? ⟨ib, ioff + 7 + 2, none⟩ = some (.int .i64 (-20)) := hir 2 _ rfl
  obtain ⟨v0, v1, v2, v3, v4, v5, v6⟩ : W5.cell? ⟨b1, 0, none⟩ = some (.int .i64 5) ∧ W5.cell? ⟨b1, 1, none⟩ = some (.bool false) ∧ W5.cell? ⟨b1, 2, none⟩ = some (.int .i64 0) ∧ W5.cell? ⟨b1, 3, none⟩ = some (.string (S [])) ∧ W5.cell? ⟨b1, 4, none⟩ = some (.slice IA 0 ic) ∧ W5.cell? ⟨b1, 5, none⟩ = some (.slice (some ⟨mb, moff, none⟩) 1 mc) ∧ W5.cell? ⟨b1, 6, none⟩ = some (.int .i64 0) := M5.cells
  obtain ⟨_, _, _, _, y4, _, y6⟩ : W5.cell? ⟨b5, 0, none⟩ = some (.int .i64 4) ∧ W5.cell? ⟨b5, 1, none⟩ = some (.bool false) ∧ W5.cell? ⟨b5, 2, none⟩ = some (.int .i64 0) ∧ W5.cell? ⟨b5, 3, none⟩ = some (.string (S [])) ∧ W5.cell? ⟨b5, 4, none⟩ = some (.slice (some ⟨ib, ioff, none⟩) 2 xc) ∧ W5.cell? ⟨b5, 5, none⟩ = some (.slice XM 0 xm) ∧ W5.cell? ⟨b5, 6, none⟩ = some (.int .i64 6) := N5.cells
  have hKP : ∀ x, Below W5.heap.size W5 x → (x.cell? ⟨b1, 0, none⟩ = some (.int .i64 5) ∧ x.cell? ⟨b1, 1, none⟩ = some (.bool false) ∧ x.cell? ⟨b1, 2, none⟩ = some (.int .i64 0) ∧ x.cell? ⟨b1, 3, none⟩ = some (.string (S [])) ∧ x.cell? ⟨b1, 4, none⟩ = some (.slice IA 0 ic) ∧ x.cell? ⟨b1, 5, none⟩ = some (.slice (some ⟨mb, moff, none⟩) 1 mc) ∧ x.cell? ⟨b1, 6, none⟩ = some (.int .i64 0) ∧ x.cell? ⟨b5, 4, none⟩ = some (.slice (some ⟨ib, ioff, none⟩) 2 xc) ∧ x.cell? ⟨b5, 6, none⟩ = some (.int .i64 6) ∧ x.cell? ⟨mb, moff + 8, none⟩ = some (.int .i64 1) ∧ x.cell? ⟨ib, ioff + 7 + 2, none⟩ = some (.int .i64 (-20))) := fun x hx => by
    have l1 := M5.lt
    have l2 := N5.lt
    exact ⟨(hx.cell (p := ⟨b1, 0, none⟩) l1).trans v0, (hx.cell (p := ⟨b1, 1, none⟩) l1).trans v1, (hx.cell (p := ⟨b1, 2, none⟩) l1).trans v2, (hx.cell (p := ⟨b1, 3, none⟩) l1).trans v3, (hx.cell (p := ⟨b1, 4, none⟩) l1).trans v4, (hx.cell (p := ⟨b1, 5, none⟩) l1).trans v5, (hx.cell (p := ⟨b1, 6, none⟩) l1).trans v6, (hx.cell (p := ⟨b5, 4, none⟩) l2).trans y4, (hx.cell (p := ⟨b5, 6, none⟩) l2).trans y6, (hx.cell (p := ⟨mb, moff + 8, none⟩) hmb).trans m8, (hx.cell (p := ⟨ib, ioff + 7 + 2, none⟩) hib).trans i2⟩
  have hN : ∀ W, Below W5.heap.size W5 W → ValV W (· < W.heap.size) tree11 (.agg #[.int .i64 5, .bool false, .int .i64 0, .string (S []), .slice IA 0 ic, .slice (some ⟨mb, moff, none⟩) 1 mc, .int .i64 0]) := fun W hW => M5.tree.grow hW
  have hD : ∀ W, Below W5.heap.size W5 W → Calls Tryz.prog 17 #[.agg #[.int .i64 5, .bool false, .int .i64 0, .string (S []), .slice IA 0 ic, .slice (some ⟨mb, moff, none⟩) 1 mc, .int .i64 0]] W fun e w' => e = .returned (.int .i64 3) ∧ Below W.heap.size W w' := fun W hW => by
    have := depth11_any 10 tree11 _ W sz11t ful11t (hN W hW)
    rw [dep11t] at this
    exact this
  have HN := Lib.hid hN
  have HDP := Lib.hid hD
  have KEEP := Lib.hid hKP
  clear hN hD hKP hmr hir hmm him hIa hMa hIx hMx M5 N5 N4 X5
  go_wp2_with fail
  go_region_held3 (fun x => x.cell? ⟨b1, 0, none⟩ = some (.int .i64 5) ∧ x.cell? ⟨b1, 1, none⟩ = some (.bool false) ∧ x.cell? ⟨b1, 2, none⟩ = some (.int .i64 0) ∧ x.cell? ⟨b1, 3, none⟩ = some (.string (S [])) ∧ x.cell? ⟨b1, 4, none⟩ = some (.slice IA 0 ic) ∧ x.cell? ⟨b1, 5, none⟩ = some (.slice (some ⟨mb, moff, none⟩) 1 mc) ∧ x.cell? ⟨b1, 6, none⟩ = some (.int .i64 0) ∧ x.cell? ⟨b5, 4, none⟩ = some (.slice (some ⟨ib, ioff, none⟩) 2 xc) ∧ x.cell? ⟨b5, 6, none⟩ = some (.int .i64 6) ∧ x.cell? ⟨mb, moff + 8, none⟩ = some (.int .i64 1) ∧ x.cell? ⟨ib, ioff + 7 + 2, none⟩ = some (.int .i64 (-20)))
    (first | exact KEEP.out _ R8.out | exact KEEP.out _ R7.out | exact KEEP.out _ R6.out | exact KEEP.out _ (Below.refl _ _).drew)
    (first
      | ((go_at_call 17; refine (HDP.out _ (Below.refl _ _).drew).mono ?_; rintro e w6 ⟨rfl, hb6⟩; have R6 : Hid (Below W5.heap.size W5 w6) := Lib.hid ((Below.refl _ _).drew.trans hb6); clear hb6))
      | ((go_at_call 19; refine (strip11_any 10 tree11 _ w6 sz11t slim11t (HN.out _ R6.out)).mono ?_; rintro e w7 ⟨u, rfl, hu, hb7⟩; have R7 := Lib.hid (R6.out.trans (hb7.mono R6.out.size)); have HEQ := Lib.hid (eq11ok _ u w7 (HN.out _ R7.out) (hu.keep (fun _ _ => rfl) (fun _ h => h.2))); clear hu hb7))
      | ((go_at_call 18; refine (HEQ.out).mono ?_; rintro e w8 ⟨rfl, hb8⟩; have R8 := Lib.hid (R7.out.trans (hb8.mono R7.out.size)); clear hb8)))
  all_goals
    go_wp2_with fail
    go_ret
    exact ⟨rfl, BB5.out.trans (R8.out.mono BB5.out.size)⟩
end Go.Proofs.YthlppbpccldikaaGreatDoor
set_option linter.unusedVariables false
namespace Go.Proofs.YthlppbpccldikaaGreatDoor

theorem numJ_fit {x : Bytes} {v : Int} (h : numJ x = some v) : -9223372036854775808 ≤ v ∧ v ≤ 9223372036854775807 := by
  unfold numJ at h
  split at h
  · split at h
    · rename_i hc
      cases h
      have := hc.2.2.2.2
      omega
    · cases h
  · split at h
    · rename_i hc
      cases h
      have := hc.2.2.2.2
      omega
    · cases h
theorem jfit_leaf (k : Int) (b : Bool) (n : Int) (s : Bytes) (p : Int) (h1 : -9223372036854775808 ≤ n) (h2 : n ≤ 9223372036854775807) : JFit (.mk k b n s [] [] p) := by
  rw [JFit, JFitL, JFitM]
  exact ⟨⟨by simp, by simp, h1, h2⟩, trivial, trivial⟩
mutual
theorem pvV_fit {l : Bytes} (hl : l.length ≤ 1000000000) : ∀ {f d n : Nat} {v : JV} {e : Nat}, n ≤ l.length → pvV l f d n = .ok (v, e) → JFit v
  | 0, _, _, _, _, _, h => by rw [pvV] at h; cases h
  | f + 1, d, n, v, e, hn, h => by
    rw [pvV] at h
    have g1 := spEnd_ge l n
    by_cases h0 : l.length ≤ spEnd l n
    · rw [if_pos h0] at h; cases h
    rw [if_neg h0] at h
    have g2 := spEnd_ge l (spEnd l n + 1)
    have g3 := spEnd_le (l := l) (n := spEnd l n + 1) (by omega)
    have wd : ∀ s u, JFit u → wordJ l (spEnd l n) s u = .ok (v, e) → JFit v := by
      intro s u hu hw
      unfold wordJ at hw
      split at hw
      · cases hw; exact hu
      · cases hw
    by_cases h1 : l.getD (spEnd l n) 0 = 110
    · rw [if_pos h1] at h; exact wd _ _ (jfit_leaf _ _ _ _ _ (by decide) (by decide)) h
    rw [if_neg h1] at h
    by_cases h2 : l.getD (spEnd l n) 0 = 116
    · rw [if_pos h2] at h; exact wd _ _ (jfit_leaf _ _ _ _ _ (by decide) (by decide)) h
    rw [if_neg h2] at h
    by_cases h3 : l.getD (spEnd l n) 0 = 102
    · rw [if_pos h3] at h; exact wd _ _ (jfit_leaf _ _ _ _ _ (by decide) (by decide)) h
    rw [if_neg h3] at h
    by_cases h4 : l.getD (spEnd l n) 0 = 34
    · rw [if_pos h4] at h
      unfold strJ at h
      cases hs : jstrAt l (spEnd l n) with
      | error q => rw [hs] at h; cases h
      | ok p => rw [hs] at h; cases h; exact jfit_leaf _ _ _ _ _ (by decide) (by decide)
    rw [if_neg h4] at h
    by_cases h5 : l.getD (spEnd l n) 0 = 91
    · rw [if_pos h5] at h
      split at h
      · cases h
      · split at h
        · cases h; exact jfit_leaf _ _ _ _ _ (by decide) (by decide)
        · cases hi : pvI l f d (spEnd l (spEnd l n + 1)) [] with
          | error q => rw [hi] at h; cases h
          | ok p =>
            obtain ⟨its, e'⟩ := p
            rw [hi] at h
            cases h
            have h6 := pvI_fit hl g3 (by simp) (by simp) hi
            have h7 := pvI_ok g3 hi
            rw [JFit, JFitM]
            exact ⟨⟨by omega, by simp, by decide, by decide⟩, JFitL.of h6.1, trivial⟩
    rw [if_neg h5] at h
    by_cases h6 : l.getD (spEnd l n) 0 = 123
    · rw [if_pos h6] at h
      split at h
      · cases h
      · split at h
        · cases h; exact jfit_leaf _ _ _ _ _ (by decide) (by decide)
        · cases hi : pvM l f d (spEnd l (spEnd l n + 1)) [] with
          | error q => rw [hi] at h; cases h
          | ok p =>
            obtain ⟨ms, e'⟩ := p
            rw [hi] at h
            cases h
            have h6 := pvM_fit hl g3 (by simp) (by simp) hi
            have h7 := pvM_ok g3 hi
            rw [JFit, JFitL]
            exact ⟨⟨by simp, by omega, by decide, by decide⟩, trivial, JFitM.of h6.1⟩
    rw [if_neg h6] at h
    split at h
    · unfold numAt at h
      cases hq : numJ ((l.drop (spEnd l n)).take (run isNumB (l.drop (spEnd l n)))) with
      | none => rw [hq] at h; cases h
      | some x => rw [hq] at h; cases h; have := numJ_fit hq; exact jfit_leaf _ _ _ _ _ this.1 this.2
    · cases h
theorem pvI_fit {l : Bytes} (hl : l.length ≤ 1000000000) : ∀ {f d n : Nat} {its js : List JV} {e : Nat}, n ≤ l.length → (∀ v ∈ its, JFit v) → its.length ≤ n → pvI l f d n its = .ok (js, e) → (∀ v ∈ js, JFit v) ∧ js.length ≤ e
  | 0, _, _, _, _, _, _, _, _, h => by rw [pvI] at h; cases h
  | f + 1, d, n, its, js, e, hn, hf, hi, h => by
    rw [pvI] at h
    cases hv : pvV l f (d + 1) n with
    | error q => rw [hv] at h; cases h
    | ok p =>
      obtain ⟨v, e1⟩ := p
      rw [hv] at h
      have h1 := pvV_ok hn hv
      have h0 := pvV_fit hl hn hv
      have h2 := spEnd_ge l e1
      have hall : ∀ x ∈ its ++ [v], JFit x := by
        intro x hx
        rcases List.mem_append.1 hx with hx | hx
        · exact hf x hx
        · have : x = v := by simpa using hx
          rw [this]; exact h0
      simp only at h
      split at h
      · cases h
        exact ⟨hall, by rw [List.length_append, List.length_singleton]; omega⟩
      · split at h
        · rename_i hc
          have := hasAt_in hc
          exact pvI_fit hl (by omega) hall (by rw [List.length_append, List.length_singleton]; omega) h
        · cases h
theorem pvM_fit {l : Bytes} (hl : l.length ≤ 1000000000) : ∀ {f d n : Nat} {ms ns : List JM} {e : Nat}, n ≤ l.length → (∀ m ∈ ms, JFit m.val) → ms.length ≤ n → pvM l f d n ms = .ok (ns, e) → (∀ m ∈ ns, JFit m.val) ∧ ns.length ≤ e
  | 0, _, _, _, _, _, _, _, _, h => by rw [pvM] at h; cases h
  | f + 1, d, n, ms, ns, e, hn, hf, hi, h => by
    rw [pvM] at h
    have g1 := spEnd_ge l n
    cases hk : keyAt l (spEnd l n) ms with
    | error q => rw [hk] at h; cases h
    | ok p =>
      obtain ⟨k, a⟩ := p
      rw [hk] at h
      have h0 := keyAt_ok hk
      simp only at h
      cases hv : pvV l f (d + 1) a with
      | error q => rw [hv] at h; cases h
      | ok p =>
        obtain ⟨v, e1⟩ := p
        rw [hv] at h
        have h1 := pvV_ok h0.2.1 hv
        have h2 := spEnd_ge l e1
        have h3 := pvV_fit hl h0.2.1 hv
        have hall : ∀ m ∈ ms ++ [JM.mk k v (spEnd l n)], JFit m.val := by
          intro x hx
          rcases List.mem_append.1 hx with hx | hx
          · exact hf x hx
          · have : x = JM.mk k v (spEnd l n) := by simpa using hx
            rw [this]; exact h3
        simp only at h
        split at h
        · cases h
          exact ⟨hall, by rw [List.length_append, List.length_singleton]; omega⟩
        · split at h
          · rename_i hc
            have := hasAt_in hc
            exact pvM_fit hl (by omega) hall (by rw [List.length_append, List.length_singleton]; omega) h
          · cases h
end
theorem parseJ_fit {l : Bytes} (hl : l.length ≤ 1000000000) {v : JV} (h : parseJ l = .ok v) : JFit v := by
  unfold parseJ at h
  cases hv : pvV l (2 * l.length + 2) 1 (startJ l) with
  | error q => rw [hv] at h; cases h
  | ok p =>
    obtain ⟨v', e⟩ := p
    rw [hv] at h
    simp only at h
    split at h
    · cases h
    · cases h; exact pvV_fit hl startJ_le hv
end Go.Proofs.YthlppbpccldikaaGreatDoor
set_option linter.unusedVariables false
namespace Go.Proofs.YthlppbpccldikaaGreatDoor
open Go.RowKit

set_option maxHeartbeats 1000000 in
theorem refSpaces11_any (l : Bytes) (n : Nat) (w : World) (hl : l.length ≤ 4611686018427387904) (hn : n ≤ l.length) :
    Calls Tryz.prog 25 #[.string (S l), .int .i64 n] w fun e w' => e = .returned (.int .i64 (spEnd l n)) ∧ w = w' := by
  obtain ⟨R, hR⟩ : ∃ R, spEnd l n = R := ⟨_, rfl⟩
  rw [hR]
  have HR := Lib.hid hR
  clear hR
  go_enter Tryz.func25, Tryz.ntmps25
  go_wp2
  go_loop [1] (fun i1 => ∃ i : Nat, i ≤ l.length ∧ i1 = .int .i64 i ∧ spEnd l i = R) (fun i1 => l.length - (intOf i1).toNat)
  case atStart => exact ⟨n, hn, rfl, HR.out⟩
  case round =>
    obtain ⟨i, hil, rfl, hi⟩ := hrel
    by_cases hlt : i < l.length
    · have hcall := fun w => refIsSpace_is l[i] w
      cases hb : isSp l[i]
      · have hs := spEnd_no hlt hb
        rw [hi] at hs
        rw [hb] at hcall
        have HS := Lib.hid hs
        have HC := Lib.hid hcall
        clear hs hi hb hcall
        go_wp2_with (go_at_call 58; refine (HC.out _).mono ?_; rintro e w' ⟨rfl, rfl⟩)
        go_ret
        exact ⟨ret_int (by rw [HS.out]), rfl⟩
      · have hs := spEnd_yes hlt hb
        rw [hi] at hs
        rw [hb] at hcall
        have HS := Lib.hid hs
        have HC := Lib.hid hcall
        clear hs hi hb hcall
        go_wp2_with (go_at_call 58; refine (HC.out _).mono ?_; rintro e w' ⟨rfl, rfl⟩)
        go_round
        case rel => exact ⟨i + 1, by omega, by go_num, HS.out.symm⟩
        case measure => simp [intOf]; omega
    · obtain rfl : i = l.length := by omega
      rw [spEnd_end] at hi
      have HS := Lib.hid hi
      clear hi
      go_wp2
      go_ret
      exact ⟨ret_int (by rw [← HS.out]), rfl⟩
set_option maxHeartbeats 1000000 in
theorem refNumeric_any (c : UInt8) (w : World) : Calls Tryz.prog 56 #[.int .u8 c.toNat] w fun e w' => e = .returned (.bool (isNumB c)) ∧ w = w' := by
  have hc := u8_lt c
  go_enter Tryz.func56, Tryz.ntmps56
  go_wp2
  all_goals go_ret
  all_goals exact ⟨ret_bool (by
    unfold isNumB
    rw [Bool.eq_iff_iff]
    simp only [Bool.or_eq_true, isDg_nat, beq_iff_eq, ← UInt8.toNat_inj, UInt8.toNat_ofNat]
    simp <;> omega), rfl⟩
end Go.Proofs.YthlppbpccldikaaGreatDoor
set_option linter.unusedVariables false
namespace Go.Proofs.YthlppbpccldikaaGreatDoor
open Go.RowKit

/-- A result that is an error. -/
abbrev resE (q : Nat × Nat) : Value := .agg #[.int .i64 0, .bool false, .int .i64 0, .string ByteArray.empty, .slice none 0 0, .slice none 0 0, .int .i64 0, .int .i64 q.1, .int .i64 q.2]
/-- A result that is a value; n: the place behind it. -/
abbrev resV (v : JV) (IA : Option Addr) (ic : Nat) (MA : Option Addr) (mc : Nat) (n : Nat) : Value := .agg #[.int .i64 v.kind, .bool v.b, .int .i64 v.n, .string (S v.s), .slice IA v.items.length ic, .slice MA v.mems.length mc, .int .i64 v.pos, .int .i64 n, .int .i64 0]
theorem resSize : (Tryz.prog.info? 56).map (·.size) = some 9 := by kernel_rfl
theorem wp_store_res {ops : Array Oper} {rest : List Oper} {o : Oper} {a : Act} {w : World} {Q : Exit → Act → World → Prop} (hgd : o.guard = none) (x y : Operand) (ho : o.op = .store 56 x y)
    (g : Nat) (cur : Array Value) (k n p q r : Int) (b : Bool) (s : ByteArray) (I M : Option Addr) (i c m d : Nat) (hx : a.eval x = .pointer (some ⟨g, 0, none⟩)) (hy : a.eval y = .agg #[.int .i64 k, .bool b, .int .i64 n, .string s, .slice I i c, .slice M m d, .int .i64 p, .int .i64 q, .int .i64 r])
    (hg : w.heap[g]? = some (.cells cur 56 (0, 0))) (hs : cur.size = 9)
    (h : ∀ w', w'.heap[g]? = some (.cells #[.int .i64 k, .bool b, .int .i64 n, .string s, .slice I i c, .slice M m d, .int .i64 p, .int .i64 q, .int .i64 r] 56 (0, 0)) → Upd g w w' → wpList Tryz.prog ops Q rest (a.put o.dst undef) w') : wpList Tryz.prog ops Q (o :: rest) a w :=
  wp_store_whole hgd 56 x y ho g 56 cur _ hx hy hg (by rw [hs]; rfl) resSize (by simp [Value.oneCell']) h
/-- A result's block as it is made. -/
abbrev zRes : Array Value := #[.int .i64 0, .bool false, .int .i64 0, .string ByteArray.empty, .slice none 0 0, .slice none 0 0, .int .i64 0, .int .i64 0, .int .i64 0]
theorem zRes_size : zRes.size = 9 := rfl
/-- What a function of the reference's parser returns. -/
def ResR (w' : World) (p : Nat → Prop) (r : Except (Nat × Nat) (JV × Nat)) (e : Ending) : Prop :=
  match r with
  | .error q => e = .returned (resE q)
  | .ok (v, n) => ∃ IA ic MA mc, e = .returned (resV v IA ic MA mc n) ∧ ElsP valE w' p (.slice IA v.items.length ic) v.items ∧ ElsP memE w' p (.slice MA v.mems.length mc) v.mems
set_option maxHeartbeats 1000000 in
set_option maxRecDepth 100000 in
theorem refWrong11_any (l : Bytes) (a : Nat) (w : World) (hl : l.length ≤ 1000000) :
    Calls Tryz.prog 52 #[.string (S l), .int .i64 a] w fun e w' => e = .returned (resE (wrongJ l a)) ∧ Below w.heap.size w w' := by
  unfold wrongJ
  by_cases h : l.length ≤ a
  · have h' : (l.length : Int) ≤ a := by omega
    rw [if_pos h]
    go_enter Tryz.func52, Tryz.ntmps52
    go_wp2_with fail
    refine bodyPost_ret (v := .agg _) (res_whole Tryz.results52 _ _ w.heap.size rfl 56 _ (heap_alloc_new w _) Tryz.underlying56 rfl resSize) rfl ⟨rfl, (Below.refl _ _).alloc (Nat.le_refl _) _⟩
  · have h' : ¬ (l.length : Int) ≤ a := by omega
    rw [if_neg h]
    go_enter Tryz.func52, Tryz.ntmps52
    go_wp2_with fail
    refine bodyPost_ret (v := .agg _) (res_whole Tryz.results52 _ _ w.heap.size rfl 56 _ (heap_alloc_new w _) Tryz.underlying56 rfl resSize) rfl ⟨rfl, (Below.refl _ _).alloc (Nat.le_refl _) _⟩
set_option maxHeartbeats 2000000 in
set_option maxRecDepth 100000 in
theorem refWord11_any (l : Bytes) (a : Nat) (nm : Bytes) (k : Int) (b : Bool) (w : World) (hl : l.length ≤ 1000000) (ha : a < l.length) (hn : nm.length ≤ 10) (hn0 : nm ≠ []) :
    Calls Tryz.prog 53 #[.string (S l), .int .i64 a, .string (S nm), .agg #[.int .i64 k, .bool b, .int .i64 0, .string ByteArray.empty, .slice none 0 0, .slice none 0 0, .int .i64 0]] w fun e w' => ResR w' (fun _ => False) (wordJ l a nm (.mk k b 0 [] [] [] a)) e ∧ Below w.heap.size w w' := by
  have hh := fun W => refHas_any l a nm W (by omega) (by omega) (by omega) hn0
  unfold wordJ
  have HW := Lib.hid fun W => refWrong11_any l a W hl
  have hwj : wrongJ l a = (a, 7) := by unfold wrongJ; rw [if_neg (by omega)]
  rw [hwj] at HW
  cases hb : hasAt l a nm with
  | false =>
    rw [hb] at hh
    have HH := Lib.hid hh
    rw [if_neg (by decide)]
    have X0 := Lib.hid (show ((w.alloc (.cells #[.int .i64 k, .bool b, .int .i64 0, .string ByteArray.empty, .slice none 0 0, .slice none 0 0, .int .i64 0] 26)).alloc (.cells #[.int .i64 0, .bool false, .int .i64 0, .string ByteArray.empty, .slice none 0 0, .slice none 0 0, .int .i64 0, .int .i64 0, .int .i64 0] 56)).heap[w.heap.size + 1]? = some (.cells #[.int .i64 0, .bool false, .int .i64 0, .string ByteArray.empty, .slice none 0 0, .slice none 0 0, .int .i64 0, .int .i64 0, .int .i64 0] 56 (0, 0)) from alloc_at (by simp))
    clear hh hb hwj
    go_enter Tryz.func53, Tryz.ntmps53
    go_wp2_with (first
      | (go_at_call 23; refine (HH.out _).mono ?_; rintro e w1 ⟨rfl, rfl⟩)
      | (go_at_call 52; refine (HW.out _).mono ?_; rintro e w2 ⟨rfl, hb2⟩; have X2 := (hb2.block (w.heap.size + 1) (by simp)).trans X0.out)
      | (with_reducible refine gate ?_; refine wp_store_res rfl _ _ rfl (w.heap.size + 1) _ _ _ _ _ _ _ _ _ _ _ _ _ _ rfl rfl X2 zRes_size ?_; intro w3 hx3 hu3))
    refine bodyPost_ret (v := .agg _) (res_whole Tryz.results53 _ _ (w.heap.size + 1) rfl 56 _ hx3 Tryz.underlying56 rfl resSize) rfl ⟨rfl, ?_⟩
    exact (((Below.refl _ w).alloc (Nat.le_refl _) _).alloc (by simp) _).trans ((hb2.mono (by simp; omega)).trans (hu3.below (by omega) (by have := hb2.size; simp at this; omega)))
  | true =>
    rw [hb] at hh
    have HH := Lib.hid hh
    rw [if_pos rfl]
    clear hh hb hwj
    go_enter Tryz.func53, Tryz.ntmps53
    go_wp2_with (first
      | (go_at_call 23; refine (HH.out _).mono ?_; rintro e w1 ⟨rfl, rfl⟩))
    refine bodyPost_ret (v := .agg _) (res_whole Tryz.results53 _ _ (w.heap.size + 1) rfl 56 _ (alloc_at (by simp)) Tryz.underlying56 rfl resSize) rfl ⟨⟨none, 0, none, 0, ?_, ElsP.nil _ _ _, ElsP.nil _ _ _⟩, ((Below.refl _ w).alloc (Nat.le_refl _) _).alloc (by simp) _⟩
    rw [show ((a : Int) + (nm.length : Int)) = ((a + nm.length : Nat) : Int) by omega]
    rfl
end Go.Proofs.YthlppbpccldikaaGreatDoor
set_option linter.unusedVariables false
namespace Go.Proofs.YthlppbpccldikaaGreatDoor
open Go.RowKit

theorem keyAt_no {l : Bytes} {a : Nat} {ms : List JM} (h : l.length ≤ a ∨ l.getD a 0 ≠ 34) : keyAt l a ms = .error (wrongJ l a) := by unfold keyAt; rw [if_pos h]
theorem keyAt_bad {l : Bytes} {a : Nat} {ms : List JM} {q : Nat × Nat} (h : ¬ (l.length ≤ a ∨ l.getD a 0 ≠ 34)) (h2 : jstrAt l a = .error q) : keyAt l a ms = .error q := by unfold keyAt; rw [if_neg h, h2]
theorem keyAt_dup {l : Bytes} {a : Nat} {ms : List JM} {k : Bytes} {e : Nat} (h : ¬ (l.length ≤ a ∨ l.getD a 0 ≠ 34)) (h2 : jstrAt l a = .ok (k, e)) (h3 : ms.any (fun m => m.key == k) = true) : keyAt l a ms = .error (a, 10) := by
  unfold keyAt; rw [if_neg h, h2]; simp only; rw [if_pos h3]
theorem keyAt_colon {l : Bytes} {a : Nat} {ms : List JM} {k : Bytes} {e : Nat} (h : ¬ (l.length ≤ a ∨ l.getD a 0 ≠ 34)) (h2 : jstrAt l a = .ok (k, e)) (h3 : ms.any (fun m => m.key == k) = false) : keyAt l a ms = if hasAt l (spEnd l e) [58] = true then .ok (k, spEnd l e + 1) else .error (wrongJ l (spEnd l e)) := by
  unfold keyAt; rw [if_neg h, h2]; simp only; rw [h3, if_neg (by decide)]
/-- A result's block that holds an error. -/
abbrev errC (q : Nat × Nat) : Array Value := #[.int .i64 0, .bool false, .int .i64 0, .string ByteArray.empty, .slice none 0 0, .slice none 0 0, .int .i64 0, .int .i64 q.1, .int .i64 q.2]
theorem cells9 {w : World} {b : Nat} {c0 c1 c2 c3 c4 c5 c6 c7 c8 : Value} {t : TypeId} {fr : Nat × Nat} (h : w.heap[b]? = some (.cells #[c0, c1, c2, c3, c4, c5, c6, c7, c8] t fr)) :
    w.cell? ⟨b, 0, none⟩ = some c0 ∧ w.cell? ⟨b, 1, none⟩ = some c1 ∧ w.cell? ⟨b, 2, none⟩ = some c2 ∧ w.cell? ⟨b, 3, none⟩ = some c3 ∧ w.cell? ⟨b, 4, none⟩ = some c4 ∧ w.cell? ⟨b, 5, none⟩ = some c5 ∧ w.cell? ⟨b, 6, none⟩ = some c6 ∧ w.cell? ⟨b, 7, none⟩ = some c7 ∧ w.cell? ⟨b, 8, none⟩ = some c8 := by
  refine ⟨?_, ?_, ?_, ?_, ?_, ?_, ?_, ?_, ?_⟩ <;> (rw [Lib.cell_of_heap h]; rfl)
theorem below_drewNK {B : Nat} {w w' : World} (h : Below B w w') (n : Nat) : Below B w (w'.drewN n) := ⟨h.os, h.tape, h.output, h.size, h.block⟩
set_option maxHeartbeats 4000000 in
set_option maxRecDepth 100000 in
theorem refKey11_any (l : Bytes) (a : Nat) (ms : List JM) (kd : Int) (b : Bool) (n : Int) (s : ByteArray) (I M : Option Addr) (ni ci cm : Nat) (q : Int) (p : Nat → Prop) (w : World) (hl : l.length ≤ 1000000) (ha : a ≤ l.length) (hml : ms.length ≤ 10000000)
    (hm : ElsP memE w p (.slice M ms.length cm) ms) (hp : ∀ k, p k → k < w.heap.size) :
    Calls Tryz.prog 80 #[.string (S l), .int .i64 a, .agg #[.int .i64 kd, .bool b, .int .i64 n, .string s, .slice I ni ci, .slice M ms.length cm, .int .i64 q]] w fun e w' => e = .returned (strT (keyAt l a ms)) ∧ Below w.heap.size w w' := by
  have HW := Lib.hid fun a W => refWrong11_any l a W hl
  have HM := Lib.hid hm
  have HP := Lib.hid hp
  clear hm hp
  have HX0 := Lib.hid (heap_alloc_new w (.cells #[Value.int .i64 kd, .bool b, .int .i64 n, .string s, .slice I ni ci, .slice M ms.length cm, .int .i64 q] 26))
  have HB0 := Lib.hid ((Below.refl w.heap.size w).alloc (Nat.le_refl _) (.cells #[Value.int .i64 kd, .bool b, .int .i64 n, .string s, .slice I ni ci, .slice M ms.length cm, .int .i64 q] 26))
  by_cases h0 : l.length ≤ a ∨ l.getD a 0 ≠ 34
  · rw [keyAt_no h0]
    have h0' : (l.length : Int) ≤ a ∨ ∃ hh : a < l.length, (¬ (l.length : Int) ≤ a) ∧ ((l[a].toNat : Int) != 34) = true := by
      by_cases h1 : l.length ≤ a
      · exact .inl (by omega)
      · have h2 : a < l.length := by omega
        refine .inr ⟨h2, by omega, ?_⟩
        have h3 := h0.resolve_left h1
        rw [List.getD_eq_getElem?_getD, List.getElem?_eq_getElem h2] at h3
        rw [bne_iff_ne]
        intro e
        exact h3 (UInt8.toNat_inj.mp (by simpa using Int.ofNat_inj.mp e))
    have HWa := Lib.hid fun W => HW.out a W
    generalize wrongJ l a = wq at *
    clear h0
    rcases h0' with h1 | ⟨h2, h1, h3⟩
    all_goals
      go_enter Tryz.func80, Tryz.ntmps80
      go_wp2_with (go_at_call 52; refine (HWa.out _).mono ?_; rintro e w2 ⟨rfl, hb2⟩; have hx2 := heap_alloc_new w2 (.cells (errC wq) 56); obtain ⟨_, _, _, _, _, _, _, c7, c8⟩ := cells9 hx2)
      go_quiet (fail)
      go_wp2
      go_ret3
      exact ⟨rfl, below_drewNK ((HB0.out.trans (hb2.mono HB0.out.size)).alloc (by have := hb2.size; simp at this; omega) _) _⟩
  · have h2 : a < l.length := by omega
    have h3 : ((l[a].toNat : Int) != 34) = false := by
      have : l.getD a 0 = 34 := Decidable.byContradiction fun e => h0 (.inr e)
      rw [List.getD_eq_getElem?_getD, List.getElem?_eq_getElem h2] at this
      have e : l[a] = 34 := this
      rw [e]; rfl
    have hj := fun W => refJParse10_any l a W (by omega) (by omega)
    cases hjs : jstrAt l a with
    | error q =>
      have hq0 := (jstrAt_err ha hjs).2
      rw [keyAt_bad h0 hjs]
      rw [hjs] at hj
      obtain ⟨q1, q2⟩ := q
      have t0 : ((q2 : Int) != 0) = true := by rw [bne_iff_ne]; simp at hq0; omega
      have HJ := Lib.hid hj
      clear hj hjs h0 hq0
      go_enter Tryz.func80, Tryz.ntmps80
      go_wp2_with (go_at_call 54; refine (HJ.out _).mono ?_; rintro e w2 ⟨rfl, hb2⟩; simp only [strT])
      go_ret3
      exact ⟨rfl, HB0.out.trans (hb2.mono HB0.out.size)⟩
    | ok ke =>
      obtain ⟨k, e⟩ := ke
      have hke := jstrAt_ok hjs
      rw [hjs] at hj
      have HJ := Lib.hid hj
      have hdup := fun h => keyAt_dup (ms := ms) h0 hjs h
      have hcol := fun h => keyAt_colon (ms := ms) h0 hjs h
      obtain ⟨R, hR⟩ : ∃ R, keyAt l a ms = R := ⟨_, rfl⟩
      rw [hR]
      rw [hR] at hdup hcol
      have HD := Lib.hid hdup
      have HC := Lib.hid hcol
      clear hj hjs h0 hdup hcol hR
      go_enter Tryz.func80, Tryz.ntmps80
      go_upto_region 8 with (go_at_call 54; refine (HJ.out _).mono ?_; rintro e w2 ⟨rfl, hb2⟩; simp only [strT])
      have hbw := HB0.out.trans (hb2.mono HB0.out.size)
      have hx2 := (hb2.block _ (by simp)).trans HX0.out
      have hsz2 := heap_lt hx2
      obtain ⟨_, _, _, _, _, c5, _⟩ := cells7 hx2
      have HBW := Lib.hid hbw
      clear hbw hb2 hx2
      obtain ⟨h1, h2', h3'⟩ := hke
      have hsp := spEnd_ge l e
      have hsp2 := spEnd_le (l := l) (n := e) (by omega)
      go_loop [13] (fun i13 => ∃ i : Nat, i ≤ ms.length ∧ i13 = .int .i64 i ∧ ∀ j (hj : j < ms.length), j < i → (ms[j]).key ≠ k) (fun i13 => ms.length - (intOf i13).toNat)
      case atStart => exact ⟨0, Nat.zero_le _, rfl, fun j _ h => by omega⟩
      case round =>
        obtain ⟨i, hil, rfl, hno⟩ := hrel
        have HNO := Lib.hid hno
        clear hno
        by_cases hlt : i < ms.length
        · obtain ⟨b', off, cs, rfl, hbl, hr, hcs⟩ := HM.out.at_ hlt
          obtain ⟨_, _, _, _, hc'⟩ := hcs.cells
          have k0 := (rangeAt_keep hr (HBW.out.block b' (HP.out _ hbl))) 0 (.string (S ms[i].key)) (by rw [hc']; rfl)
          have hlt' : (i : Int) < ms.length := by omega
          have C5 := Lib.hid c5
          by_cases hk : ms[i].key = k
          · have hany : (ms.any fun m => m.key == k) = true := List.any_eq_true.mpr ⟨ms[i], List.getElem_mem hlt, by rw [hk]; simp⟩
            have hr := HD.out hany
            have HRR := Lib.hid hr
            have y : (ms[i].key == k) = true := by rw [hk]; simp
            clear hany hr hk hc' hcs
            generalize ms[i].key = kk at *
            rw [Nat.add_zero] at k0
            go_wp2_with fail
            go_ret3
            exact ⟨by rw [HRR.out]; rfl, HBW.out⟩
          · have hnx : ∀ j (hj : j < ms.length), j < i + 1 → (ms[j]).key ≠ k := fun j hj hji => by
              by_cases ej : j = i
              · subst ej; exact hk
              · exact HNO.out j hj (by omega)
            have HNX := Lib.hid hnx
            have y : (ms[i].key == k) = false := by rw [beq_eq_false_iff_ne]; exact hk
            clear hnx hk hc' hcs
            generalize ms[i].key = kk at *
            rw [Nat.add_zero] at k0
            go_wp2_with fail
            go_round
            case rel => exact ⟨i + 1, by omega, by go_num, HNX.out⟩
            case measure => simp [intOf]; omega
        · obtain rfl : i = ms.length := by omega
          have hany : (ms.any fun m => m.key == k) = false := by
            rw [List.any_eq_false]
            intro m hm
            obtain ⟨j, hj, rfl⟩ := List.mem_iff_getElem.mp hm
            simpa using HNO.out j hj hj
          have hr := HC.out hany
          have hs := fun W => refSpaces11_any l e W (by omega) (by omega)
          obtain ⟨z, hz⟩ : ∃ z, spEnd l e = z := ⟨_, rfl⟩
          rw [hz] at hs hr hsp hsp2
          have hh : ∀ W, Calls Tryz.prog 23 #[.string (S l), .int .i64 z, .string ⟨#[58]⟩] W fun e w' => e = .returned (.bool (hasAt l z [58])) ∧ W = w' := fun W => refHas_any l z [58] W (by omega) (by omega) (by simp) (by simp)
          have HS := Lib.hid hs
          have hlt' : ¬ ((ms.length : Int) < ms.length) := by omega
          clear hany hs hz
          cases hc : hasAt l z [58] with
          | true =>
            rw [hc] at hh hr
            rw [if_pos rfl] at hr
            have HH := Lib.hid hh
            have HRR := Lib.hid hr
            clear hc hh hr
            go_wp2_with (first
              | (go_at_call 25; refine (HS.out _).mono ?_; rintro e' w3 ⟨rfl, rfl⟩)
              | (go_at_call 23; refine (HH.out _).mono ?_; rintro e' w3 ⟨rfl, rfl⟩))
            go_ret3
            exact ⟨by rw [HRR.out]; simp only [strT]; rw [Int.natCast_add]; rfl, HBW.out⟩
          | false =>
            rw [hc] at hh hr
            rw [if_neg (by decide)] at hr
            have HH := Lib.hid hh
            have HRR := Lib.hid hr
            have HWz := Lib.hid fun W => HW.out z W
            generalize wrongJ l z = wq at *
            clear hc hh hr
            go_wp2_with (first
              | (go_at_call 25; refine (HS.out _).mono ?_; rintro e' w3 ⟨rfl, rfl⟩)
              | (go_at_call 23; refine (HH.out _).mono ?_; rintro e' w3 ⟨rfl, rfl⟩)
              | (go_at_call 52; refine (HWz.out _).mono ?_; rintro e w3 ⟨rfl, hb3⟩; have hx3 := heap_alloc_new w3 (.cells (errC wq) 56); obtain ⟨_, _, _, _, _, _, _, c7, c8⟩ := cells9 hx3))
            go_quiet (fail)
            go_wp2
            go_ret3
            exact ⟨by rw [HRR.out]; rfl, below_drewNK ((HBW.out.trans (hb3.mono HBW.out.size)).alloc (by have := hb3.size; have := HBW.out.size; omega) _) _⟩
end Go.Proofs.YthlppbpccldikaaGreatDoor
