/-
  Several texts in one file, in build order:
  - Walks of chapter 7's statements: the examples.
-/
import Derived.Test.YtclhdppppgjgfaaGreatDoorH20
import Derived.Test.YtclhdppppgjgfaaGreatDoorH15
import Derived.Test.YtclhdppppgjgfaaGreatDoorH19
set_option linter.unusedVariables false
namespace Go.Proofs.YtclhdppppgjgfaaGreatDoor
open Go.RowKit

def doc7a : Bytes := [60, 97, 62, 120, 60, 33, 45, 45, 32, 121, 32, 45, 45, 62, 122, 60, 98, 47, 62, 60, 47, 97, 62]
def doc7b : Bytes := [60, 97, 62, 60, 47, 98, 62]
def doc7c : Bytes := [60, 97, 62]
def doc7d : Bytes := [60, 97, 47, 62, 60, 98, 47, 62]
def kid7a : Node := .mk 1 [] [] [] [] [120, 122] 3
def kid7b : Node := .mk 0 [] [98] [] [] [] 15
def tree7 : Node := .mk 0 [] [97] [] [kid7a, kid7b] [] 0
theorem parse7a : parse doc7a = .ok tree7 := by kernel_rfl
theorem parse7b : parse doc7b = .error (3, 14) := by kernel_rfl
theorem parse7c : parse doc7c = .error (3, 8) := by kernel_rfl
theorem parse7d : parse doc7d = .error (4, 17) := by kernel_rfl
theorem txt7 : txtN tree7 = [120, 122] := by kernel_rfl
theorem depth7t : depth tree7 = 2 := by kernel_rfl
theorem full7t : full tree7 ≤ 1000000000000 := by decide
theorem eqv7t : eqv false tree7 (stripN tree7) = true := by kernel_rfl
theorem fit7a : Fit kid7a := Fit.of_form (by decide) (by decide) (by intro k hk; cases hk)
theorem fit7b : Fit kid7b := Fit.of_form (by decide) (by decide) (by intro k hk; cases hk)
theorem fit7t : Fit tree7 := Fit.of_form (by decide) (by decide) (by
  intro k hk
  rcases List.mem_cons.1 hk with rfl | hk
  · exact fit7a
  · rcases List.mem_cons.1 hk with rfl | hk
    · exact fit7b
    · cases hk)
theorem slim7a : Slim kid7a := .mk (by decide) (by decide) (by intro k hk; cases hk)
theorem slim7b : Slim kid7b := .mk (by decide) (by decide) (by intro k hk; cases hk)
theorem slim7t : Slim tree7 := .mk (by decide) (by decide) (by
  intro k hk
  rcases List.mem_cons.1 hk with rfl | hk
  · exact slim7a
  · rcases List.mem_cons.1 hk with rfl | hk
    · exact slim7b
    · cases hk)
theorem strip7t : stripN tree7 = .mk 0 [] [97] [] [.mk 1 [] [] [] [] [120, 122] 0, .mk 0 [] [98] [] [] [] 0] [] 0 := by kernel_rfl
theorem fit7s : Fit (stripN tree7) := by
  rw [strip7t]
  exact Fit.of_form (by decide) (by decide) (by
    intro k hk
    rcases List.mem_cons.1 hk with rfl | hk
    · exact Fit.of_form (by decide) (by decide) (by intro k hk; cases hk)
    · rcases List.mem_cons.1 hk with rfl | hk
      · exact Fit.of_form (by decide) (by decide) (by intro k hk; cases hk)
      · cases hk)
theorem nsz7t : nsz tree7 ≤ 3 := by decide

theorem eq7ok (v u : Value) (w : World) (h : NodeV w w.heap.size tree7 v) (h2 : NodeV w w.heap.size (stripN tree7) u) : Calls Tryz.prog 21 #[v, u] w fun e w' => e = .returned (.bool true) ∧ Below w.heap.size w w' := by
  have := equal7_any 3 tree7 (stripN tree7) v u w nsz7t fit7t fit7s h h2
  rw [eqv7t] at this
  exact this

set_option maxHeartbeats 8000000 in
set_option maxRecDepth 100000 in
theorem alive7_any (m : Int) (w : World) (hT : Tabs w) (hM : MaxLen m w) : Calls Tryz.prog 11 #[] w fun e w' => e = .returned (.bool true) ∧ Below w.heap.size w w' := by
  have hA : ∀ W, Tabs W → MaxLen m W → Calls Tryz.prog 12 #[.string ⟨#[60, 97, 62, 120, 60, 33, 45, 45, 32, 121, 32, 45, 45, 62, 122, 60, 98, 47, 62, 60, 47, 97, 62]⟩] W fun e w' => (∃ v, e = .returned (.tuple #[v, .int .i64 23, .int .i64 0]) ∧ NodePV w' (fun b => W.heap.size ≤ b ∧ b < w'.heap.size) tree7 v) ∧ Below W.heap.size W w' := fun W h1 h2 => (parse7_any doc7a m W h1 h2 (by decide)).mono (fun e w' h => by rw [parse7a] at h; exact h)
  have hB : ∀ W, Tabs W → MaxLen m W → Calls Tryz.prog 12 #[.string ⟨#[60, 97, 62, 60, 47, 98, 62]⟩] W fun e w' => e = .returned (.tuple #[.agg #[.int .i64 0, .string ⟨#[]⟩, .string ⟨#[]⟩, .slice none 0 0, .slice none 0 0, .string ⟨#[]⟩, .int .i64 0], .int .i64 3, .int .i64 14]) ∧ Below W.heap.size W w' := fun W h1 h2 => (parse7_any doc7b m W h1 h2 (by decide)).mono (fun e w' h => by rw [parse7b] at h; exact h)
  have hC : ∀ W, Tabs W → MaxLen m W → Calls Tryz.prog 12 #[.string ⟨#[60, 97, 62]⟩] W fun e w' => e = .returned (.tuple #[.agg #[.int .i64 0, .string ⟨#[]⟩, .string ⟨#[]⟩, .slice none 0 0, .slice none 0 0, .string ⟨#[]⟩, .int .i64 0], .int .i64 3, .int .i64 8]) ∧ Below W.heap.size W w' := fun W h1 h2 => (parse7_any doc7c m W h1 h2 (by decide)).mono (fun e w' h => by rw [parse7c] at h; exact h)
  have hD : ∀ W, Tabs W → MaxLen m W → Calls Tryz.prog 12 #[.string ⟨#[60, 97, 47, 62, 60, 98, 47, 62]⟩] W fun e w' => e = .returned (.tuple #[.agg #[.int .i64 0, .string ⟨#[]⟩, .string ⟨#[]⟩, .slice none 0 0, .slice none 0 0, .string ⟨#[]⟩, .int .i64 0], .int .i64 4, .int .i64 17]) ∧ Below W.heap.size W w' := fun W h1 h2 => (parse7_any doc7d m W h1 h2 (by decide)).mono (fun e w' h => by rw [parse7d] at h; exact h)
  have HA := Lib.hid hA
  have HB := Lib.hid hB
  have HC := Lib.hid hC
  have HD := Lib.hid hD
  have HT := Lib.hid hT
  have HM := Lib.hid hM
  clear hA hB hC hD hT hM
  go_enter Tryz.func11, Tryz.ntmps11
  go_wp2_with fail
  refine (HA.out _ HT.out HM.out).mono ?_
  rintro e w1 ⟨⟨v, rfl, hv⟩, hb1⟩
  have hv1 : NodeV w1 w1.heap.size tree7 v := hv.toV (fun k hk => hk.2)
  obtain ⟨A, c, K, d, hvv, _, hk, _, _⟩ := hv1.open_
  have HKS := Lib.hid hk
  clear hk
  have hvv' : v = .agg #[.int .i64 0, .string (S []), .string (S [97]), .slice A 0 c, .slice K 2 d, .string (S []), .int .i64 0] := hvv
  subst hvv'
  clear hvv
  have hbx := heap_alloc_new w1 (.cells #[.int .i64 0, .string (S []), .string (S [97]), .slice A 0 c, .slice K 2 d, .string (S []), .int .i64 0] 26)
  have HV := Lib.hid (show NodeV (w1.alloc (.cells #[.int .i64 0, .string (S []), .string (S [97]), .slice A 0 c, .slice K 2 d, .string (S []), .int .i64 0] 26)) (w1.heap.size + 1) tree7 _ from hv1.keep (fun k hk => Below.heap_alloc w1 _ k hk) (Nat.le_succ _))
  have BB1 := Lib.hid (hb1.alloc hb1.size (.cells #[.int .i64 0, .string (S []), .string (S [97]), .slice A 0 c, .slice K 2 d, .string (S []), .int .i64 0] 26))
  have HBX := Lib.hid hbx
  have hzw : (w1.alloc (.cells #[.int .i64 0, .string (S []), .string (S [97]), .slice A 0 c, .slice K 2 d, .string (S []), .int .i64 0] 26)).heap.size = w1.heap.size + 1 := by simp
  clear hv hv1 hb1 hbx
  go_wp2_with fail
  refine (HB.out _ (HT.out.next BB1.out) (HM.out.below BB1.out)).mono ?_
  rintro e w2 ⟨rfl, hb2⟩
  have BB2 := Lib.hid ((BB1.out.trans (hb2.mono BB1.out.size)).alloc (Nat.le_trans BB1.out.size hb2.size) (.cells #[.int .i64 0, .string ⟨#[]⟩, .string ⟨#[]⟩, .slice none 0 0, .slice none 0 0, .string ⟨#[]⟩, .int .i64 0] 26))
  have XX2 := Lib.hid (hb2.alloc hb2.size (.cells #[.int .i64 0, .string ⟨#[]⟩, .string ⟨#[]⟩, .slice none 0 0, .slice none 0 0, .string ⟨#[]⟩, .int .i64 0] 26))
  clear hb2
  go_wp2_with fail
  refine (HC.out _ (HT.out.next BB2.out) (HM.out.below BB2.out)).mono ?_
  rintro e w3 ⟨rfl, hb3⟩
  have BB3 := Lib.hid ((BB2.out.trans (hb3.mono BB2.out.size)).alloc (Nat.le_trans BB2.out.size hb3.size) (.cells #[.int .i64 0, .string ⟨#[]⟩, .string ⟨#[]⟩, .slice none 0 0, .slice none 0 0, .string ⟨#[]⟩, .int .i64 0] 26))
  have XX3 := Lib.hid ((XX2.out.trans (hb3.mono XX2.out.size)).alloc (Nat.le_trans XX2.out.size hb3.size) (.cells #[.int .i64 0, .string ⟨#[]⟩, .string ⟨#[]⟩, .slice none 0 0, .slice none 0 0, .string ⟨#[]⟩, .int .i64 0] 26))
  clear hb3
  go_wp2_with fail
  refine (HD.out _ (HT.out.next BB3.out) (HM.out.below BB3.out)).mono ?_
  rintro e w4 ⟨rfl, hb4⟩
  have BB4 := Lib.hid ((BB3.out.trans (hb4.mono BB3.out.size)).alloc (Nat.le_trans BB3.out.size hb4.size) (.cells #[.int .i64 0, .string ⟨#[]⟩, .string ⟨#[]⟩, .slice none 0 0, .slice none 0 0, .string ⟨#[]⟩, .int .i64 0] 26))
  have XX4 := (XX3.out.trans (hb4.mono XX3.out.size)).alloc (Nat.le_trans XX3.out.size hb4.size) (.cells #[.int .i64 0, .string ⟨#[]⟩, .string ⟨#[]⟩, .slice none 0 0, .slice none 0 0, .string ⟨#[]⟩, .int .i64 0] 26)
  have hzl : w1.heap.size + 1 ≤ (w4.alloc (.cells #[.int .i64 0, .string ⟨#[]⟩, .string ⟨#[]⟩, .slice none 0 0, .slice none 0 0, .string ⟨#[]⟩, .int .i64 0] 26)).heap.size := by have := XX4.size; rw [hzw] at this; exact this
  have hv4 : NodeV (w4.alloc (.cells #[.int .i64 0, .string ⟨#[]⟩, .string ⟨#[]⟩, .slice none 0 0, .slice none 0 0, .string ⟨#[]⟩, .int .i64 0] 26)) (w4.alloc (.cells #[.int .i64 0, .string ⟨#[]⟩, .string ⟨#[]⟩, .slice none 0 0, .slice none 0 0, .string ⟨#[]⟩, .int .i64 0] 26)).heap.size tree7 (.agg #[.int .i64 0, .string (S []), .string (S [97]), .slice A 0 c, .slice K 2 d, .string (S []), .int .i64 0]) := HV.out.keep (fun k hk => XX4.block k (by omega)) hzl
  have hb4x := (XX4.block _ (by omega)).trans HBX.out
  have hk4 := HKS.out.keep (fun k hk => (XX4.block k (by omega)).trans (Below.heap_alloc w1 _ k hk)) (Nat.le_refl _)
  obtain ⟨b, off, cs, rfl, _, hr, hn⟩ := hk4.at_ (i := 0) (by decide)
  obtain ⟨b', off', cs', hK', _, hr', hn'⟩ := hk4.at_ (i := 1) (by decide)
  obtain ⟨rfl, rfl⟩ : b = b' ∧ off = off' := by injection hK' with h1; injection h1 with h2 h3; exact ⟨h2, h3⟩
  obtain ⟨A1, c1, K1, d1, rfl, _, _, _, _⟩ := hn.open_
  obtain ⟨A2, c2, K2, d2, rfl, _, _, _, _⟩ := hn'.open_
  obtain ⟨x0, x1, x2, x3, x4, x5, x6⟩ := cells7 hb4x
  have y0 : (w4.alloc (.cells #[.int .i64 0, .string ⟨#[]⟩, .string ⟨#[]⟩, .slice none 0 0, .slice none 0 0, .string ⟨#[]⟩, .int .i64 0] 26)).cell? ⟨b, off, none⟩ = some (.int .i64 1) := hr 0 _ rfl
  have y5 : (w4.alloc (.cells #[.int .i64 0, .string ⟨#[]⟩, .string ⟨#[]⟩, .slice none 0 0, .slice none 0 0, .string ⟨#[]⟩, .int .i64 0] 26)).cell? ⟨b, off + 5, none⟩ = some (.string (S [120, 122])) := hr 5 _ rfl
  have z2 : (w4.alloc (.cells #[.int .i64 0, .string ⟨#[]⟩, .string ⟨#[]⟩, .slice none 0 0, .slice none 0 0, .string ⟨#[]⟩, .int .i64 0] 26)).cell? ⟨b, off + 7 + 2, none⟩ = some (.string (S [98])) := hr' 2 _ rfl
  have z2' : (w4.alloc (.cells #[.int .i64 0, .string ⟨#[]⟩, .string ⟨#[]⟩, .slice none 0 0, .slice none 0 0, .string ⟨#[]⟩, .int .i64 0] 26)).cell? ⟨b, off + 9, none⟩ = some (.string (S [98])) := hr' 2 _ rfl
  have hN : ∀ W, Below (w4.alloc (.cells #[.int .i64 0, .string ⟨#[]⟩, .string ⟨#[]⟩, .slice none 0 0, .slice none 0 0, .string ⟨#[]⟩, .int .i64 0] 26)).heap.size (w4.alloc (.cells #[.int .i64 0, .string ⟨#[]⟩, .string ⟨#[]⟩, .slice none 0 0, .slice none 0 0, .string ⟨#[]⟩, .int .i64 0] 26)) W → NodeV W W.heap.size tree7 (.agg #[.int .i64 0, .string (S []), .string (S [97]), .slice A 0 c, .slice (some ⟨b, off, none⟩) 2 d, .string (S []), .int .i64 0]) := fun W hW => hv4.keep (fun k hk => hW.block k hk) hW.size
  have HN := Lib.hid hN
  have hX : ∀ W, Below (w4.alloc (.cells #[.int .i64 0, .string ⟨#[]⟩, .string ⟨#[]⟩, .slice none 0 0, .slice none 0 0, .string ⟨#[]⟩, .int .i64 0] 26)).heap.size (w4.alloc (.cells #[.int .i64 0, .string ⟨#[]⟩, .string ⟨#[]⟩, .slice none 0 0, .slice none 0 0, .string ⟨#[]⟩, .int .i64 0] 26)) W → Calls Tryz.prog 17 #[.agg #[.int .i64 0, .string (S []), .string (S [97]), .slice A 0 c, .slice (some ⟨b, off, none⟩) 2 d, .string (S []), .int .i64 0]] W fun e w' => e = .returned (.string ⟨#[120, 122]⟩) ∧ Below W.heap.size W w' := fun W hW => by
    have := text7_any tree7 _ W full7t (HN.out W hW)
    rw [txt7] at this
    exact this
  have hD : ∀ W, Below (w4.alloc (.cells #[.int .i64 0, .string ⟨#[]⟩, .string ⟨#[]⟩, .slice none 0 0, .slice none 0 0, .string ⟨#[]⟩, .int .i64 0] 26)).heap.size (w4.alloc (.cells #[.int .i64 0, .string ⟨#[]⟩, .string ⟨#[]⟩, .slice none 0 0, .slice none 0 0, .string ⟨#[]⟩, .int .i64 0] 26)) W → Calls Tryz.prog 19 #[.agg #[.int .i64 0, .string (S []), .string (S [97]), .slice A 0 c, .slice (some ⟨b, off, none⟩) 2 d, .string (S []), .int .i64 0]] W fun e w' => e = .returned (.int .i64 2) ∧ Below W.heap.size W w' := fun W hW => by
    have := depth7_any 3 tree7 _ W nsz7t (by decide) (HN.out W hW)
    rw [depth7t] at this
    exact this
  have HX := Lib.hid hX
  have HDP := Lib.hid hD
  have HB4 := Lib.hid hb4x
  clear hN hX hD hb4x hv4 hk4 hr hr' hn hn' hK' hb4 XX4
  have hKP : ∀ W, Below (w4.alloc (.cells #[.int .i64 0, .string ⟨#[]⟩, .string ⟨#[]⟩, .slice none 0 0, .slice none 0 0, .string ⟨#[]⟩, .int .i64 0] 26)).heap.size (w4.alloc (.cells #[.int .i64 0, .string ⟨#[]⟩, .string ⟨#[]⟩, .slice none 0 0, .slice none 0 0, .string ⟨#[]⟩, .int .i64 0] 26)) W → (W.cell? ⟨w1.heap.size, 0, none⟩ = some (.int .i64 0) ∧ W.cell? ⟨w1.heap.size, 1, none⟩ = some (.string (S [])) ∧ W.cell? ⟨w1.heap.size, 2, none⟩ = some (.string (S [97])) ∧ W.cell? ⟨w1.heap.size, 3, none⟩ = some (.slice A 0 c) ∧ W.cell? ⟨w1.heap.size, 4, none⟩ = some (.slice (some ⟨b, off, none⟩) 2 d) ∧ W.cell? ⟨w1.heap.size, 5, none⟩ = some (.string (S [])) ∧ W.cell? ⟨w1.heap.size, 6, none⟩ = some (.int .i64 0) ∧ W.cell? ⟨b, off, none⟩ = some (.int .i64 1) ∧ W.cell? ⟨b, off + 5, none⟩ = some (.string (S [120, 122])) ∧ W.cell? ⟨b, off + 7 + 2, none⟩ = some (.string (S [98]))) := fun W hW => by
    have k1 : b < (w4.alloc (.cells #[.int .i64 0, .string ⟨#[]⟩, .string ⟨#[]⟩, .slice none 0 0, .slice none 0 0, .string ⟨#[]⟩, .int .i64 0] 26)).heap.size := by omega
    obtain ⟨e0, e1, e2, e3, e4, e5, e6⟩ := cells7 ((hW.block _ (by omega)).trans HB4.out)
    exact ⟨e0, e1, e2, e3, e4, e5, e6, (World.cell?_of_block (w := (w4.alloc (.cells #[.int .i64 0, .string ⟨#[]⟩, .string ⟨#[]⟩, .slice none 0 0, .slice none 0 0, .string ⟨#[]⟩, .int .i64 0] 26))) (a := ⟨b, off, none⟩) (hW.block b k1)).trans y0, (World.cell?_of_block (w := (w4.alloc (.cells #[.int .i64 0, .string ⟨#[]⟩, .string ⟨#[]⟩, .slice none 0 0, .slice none 0 0, .string ⟨#[]⟩, .int .i64 0] 26))) (a := ⟨b, off + 5, none⟩) (hW.block b k1)).trans y5, (World.cell?_of_block (w := (w4.alloc (.cells #[.int .i64 0, .string ⟨#[]⟩, .string ⟨#[]⟩, .slice none 0 0, .slice none 0 0, .string ⟨#[]⟩, .int .i64 0] 26))) (a := ⟨b, off + 7 + 2, none⟩) (hW.block b k1)).trans z2⟩
  have KEEP := Lib.hid hKP
  clear hKP
  go_wp2_with fail
  dsimp only [List.append]
  go_region_held3 (fun x => x.cell? ⟨w1.heap.size, 0, none⟩ = some (.int .i64 0) ∧ x.cell? ⟨w1.heap.size, 1, none⟩ = some (.string (S [])) ∧ x.cell? ⟨w1.heap.size, 2, none⟩ = some (.string (S [97])) ∧ x.cell? ⟨w1.heap.size, 3, none⟩ = some (.slice A 0 c) ∧ x.cell? ⟨w1.heap.size, 4, none⟩ = some (.slice (some ⟨b, off, none⟩) 2 d) ∧ x.cell? ⟨w1.heap.size, 5, none⟩ = some (.string (S [])) ∧ x.cell? ⟨w1.heap.size, 6, none⟩ = some (.int .i64 0) ∧ x.cell? ⟨b, off, none⟩ = some (.int .i64 1) ∧ x.cell? ⟨b, off + 5, none⟩ = some (.string (S [120, 122])) ∧ x.cell? ⟨b, off + 7 + 2, none⟩ = some (.string (S [98])))
    (first | exact KEEP.out _ R8.out | exact KEEP.out _ R7.out | exact KEEP.out _ R6.out | exact KEEP.out _ R5.out | exact KEEP.out _ (Below.refl _ _).drew)
    (first
      | ((go_at_call 17; refine (HX.out _ (Below.refl _ _).drew).mono ?_; rintro e w5 ⟨rfl, hb5⟩; have R5 : Hid (Below (w4.alloc (.cells #[.int .i64 0, .string ⟨#[]⟩, .string ⟨#[]⟩, .slice none 0 0, .slice none 0 0, .string ⟨#[]⟩, .int .i64 0] 26)).heap.size (w4.alloc (.cells #[.int .i64 0, .string ⟨#[]⟩, .string ⟨#[]⟩, .slice none 0 0, .slice none 0 0, .string ⟨#[]⟩, .int .i64 0] 26)) w5) := Lib.hid ((Below.refl _ _).drew.trans hb5); clear hb5))
      | ((go_at_call 19; refine (HDP.out _ R5.out).mono ?_; rintro e w6 ⟨rfl, hb6⟩; have R6 := Lib.hid (R5.out.trans (hb6.mono R5.out.size)); clear hb6))
      | ((go_at_call 16; refine (strip7_any 3 tree7 _ w6 nsz7t slim7t (HN.out _ R6.out)).mono ?_; rintro e w7 ⟨u, rfl, hu, hb7⟩; have R7 := Lib.hid (R6.out.trans (hb7.mono R6.out.size)); have HEQ := Lib.hid (eq7ok _ u w7 (HN.out _ R7.out) (hu.toV (fun _ h => h.2.1))); clear hu hb7))
      | ((go_at_call 21; refine (HEQ.out).mono ?_; rintro e w8 ⟨rfl, hb8⟩; have R8 := Lib.hid (R7.out.trans (hb8.mono R7.out.size)); clear hb8)))
  all_goals
    go_wp2_with fail
    go_ret
    exact ⟨rfl, BB4.out.trans (R8.out.mono BB4.out.size)⟩
end Go.Proofs.YtclhdppppgjgfaaGreatDoor
