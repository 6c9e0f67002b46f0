/-
  Walk of chapter 8's statement MatchesReference.
-/
import Derived.Test.YtaghipnheomggaaDoorG1
import Derived.Test.YtaghipnheomggaaDoorG2
import Derived.Test.YtaghipnheomggaaDoorEqualT
set_option linter.unusedVariables false
namespace Go.Proofs.YtaghipnheomggaaDoor
open Go.RowKit

mutual
theorem eqv_refl8 (o : Bool) : ∀ n : Node, eqv o n n = true
  | .mk k s nm ats ks t p => by
    rw [eqv]
    have h1 : headEqv o (.mk k s nm ats ks t p) (.mk k s nm ats ks t p) = true := by simp [headEqv]
    rw [h1]
    simp only [Node.attrs, Node.kids]
    rw [attsEqv_refl8 o ats, kidsEqv_refl8 o ks]; rfl
theorem kidsEqv_refl8 (o : Bool) : ∀ ks : List Node, kidsEqv o ks ks = true
  | [] => kidsEqv_nil _ _
  | k :: ks => by rw [kidsEqv, eqv_refl8 o k, kidsEqv_refl8 o ks]; rfl
theorem attsEqv_refl8 (o : Bool) : ∀ l : List Att, attsEqv o l l = true
  | [] => attsEqv_nil _ _
  | a :: l => by rw [attsEqv, attsEqv_refl8 o l]; simp [attEqv]
end
theorem attrsL_len {g : Scope} : ∀ {ats acc bs : List Att}, attrsL g acc ats = .ok bs → bs.length ≤ acc.length + ats.length
  | [], acc, bs, h => by rw [attrsL] at h; cases h; simp
  | a :: ats, acc, bs, h => by
    rw [attrsL] at h
    split at h
    · have := attrsL_len h; simp only [List.length_cons]; omega
    · split at h
      · cases h
      · split at h
        · cases h
        · have := attrsL_len h; simp only [List.length_append, List.length_cons, List.length_nil] at this ⊢; omega
theorem headF_len {g g' : Scope} {n : Node} {sp q : Bytes} {bs : List Att} (h : headF g n = .ok (sp, q, bs, g')) : bs.length ≤ n.attrs.length := by
  unfold headF at h
  split at h
  · cases h
  · split at h
    · cases h
    · split at h
      · cases h
      · split at h
        · cases h
        · split at h
          · cases h
          · cases h
            have := attrsL_len (by assumption)
            simpa using this
mutual
theorem resN_fit {g : Scope} : ∀ {n m : Node}, Fit n → resN g n = .ok m → Fit m
  | .mk k s nm ats ks t q, m, hf, h => by
    rw [resN] at h
    rw [Fit] at hf
    split at h
    · cases h
    · rename_i sp l bs g' hh
      split at h
      · cases h
      · rename_i ks' hk
        cases h
        have h1 := headF_len hh
        simp only [Node.attrs] at h1
        have h2 := resL_fit hf.2.2 hk
        rw [Fit]
        exact ⟨by omega, by omega, h2.1⟩
theorem resL_fit {g : Scope} : ∀ {ks ms : List Node}, FitL ks → resL g ks = .ok ms → FitL ms ∧ ms.length = ks.length
  | [], ms, _, h => by rw [resL] at h; cases h; exact ⟨by rw [FitL]; trivial, rfl⟩
  | k :: ks, ms, hf, h => by
    rw [resL] at h
    rw [FitL] at hf
    split at h
    · split at h
      · cases h
      · rename_i k' hk
        split at h
        · cases h
        · rename_i ks' hks
          cases h
          have h2 := resL_fit hf.2 hks
          exact ⟨by rw [FitL]; exact ⟨resN_fit hf.1 hk, h2.1⟩, by simp [h2.2]⟩
    · split at h
      · cases h
      · rename_i ks' hks
        cases h
        have h2 := resL_fit hf.2 hks
        exact ⟨by rw [FitL]; exact ⟨hf.1, h2.1⟩, by simp [h2.2]⟩
end
/-- The tree, the offset and the error that Resolve returns. -/
def treeOf : Except (Int × Nat) Node → Node | .error _ => zNodeN | .ok n => n
def atOf : Except (Int × Nat) Node → Int | .error q => q.1 | .ok _ => 0
def erOf : Except (Int × Nat) Node → Int | .error q => q.2 | .ok _ => 0
theorem zNodePV (w : World) (p : Nat → Prop) : NodePV w p zNodeN zNodeV := ⟨_, rfl, NodeP.of_form (n := zNodeN) ⟨none, 0, rfl, Nat.le_refl _, .inl rfl⟩ ⟨none, 0, rfl, Nat.le_refl _, .inl rfl⟩⟩
theorem ResT.form {w w' : World} {r : Except (Int × Nat) Node} {e : Ending} (h : ResT w w' r e) : ∃ v, e = .returned (.tuple #[v, .int .i64 (atOf r), .int .i64 (erOf r)]) ∧ NodePV w' (fun b => w.heap.size ≤ b ∧ b < w'.heap.size) (treeOf r) v := by
  cases r with
  | error q => exact ⟨zNodeV, h, zNodePV _ _⟩
  | ok n => exact h
theorem ResR.form {w w' : World} {r : Except (Int × Nat) Node} {e : Ending} (h : ResR w w' r e) : ∃ v, e = .returned (.tuple #[v, .int .i64 (atOf r), .int .i64 (erOf r)]) ∧ NodePV w' (fun b => w.heap.size ≤ b ∧ b < w'.heap.size) (treeOf r) v := by
  cases r with
  | error q => exact ⟨zNodeV, h, zNodePV _ _⟩
  | ok n => exact h
theorem treeOf_fit {n : Node} (h : Fit n) : Fit (treeOf (resolveF n)) := by
  cases hr : resolveF n with
  | error q => unfold treeOf zNodeN; rw [Fit]; exact ⟨by decide, by decide, by rw [FitL]; trivial⟩
  | ok m => exact resN_fit h hr

set_option maxHeartbeats 2000000 in
set_option maxRecDepth 100000 in
theorem law8matches_any (l : Bytes) (w : World) (hT : Tabs w) (hl : l.length ≤ 9223372036854775807) :
    Calls Tryd.prog 4 #[.string (S l)] w fun e w' => e = .returned (.bool true) ∧ Below w.heap.size w w' := by
  have hal := fun W => fun (hW : Below w.heap.size w W) => alive8_any W (hT.next hW)
  have hpd := parsed8_any l w hl
  have HAL := Lib.hid hal
  have HT := Lib.hid hT
  clear hal hT
  cases hp : parsed8 l with
  | none =>
    rw [hp] at hpd
    have HPD := Lib.hid hpd
    clear hpd hp
    go_enter Tryd.func4, Tryd.ntmps4
    go_wp2_with fail
    refine HPD.out.mono ?_
    rintro e w1 ⟨rfl, hb1⟩
    have BB1 := Lib.hid (hb1.alloc hb1.size (.cells zNodC 29))
    clear hb1
    go_wp2_with (go_at_call 9; refine (HAL.out _ BB1.out).mono ?_; rintro e w2 ⟨rfl, hb2⟩)
    go_ret
    exact ⟨rfl, BB1.out.trans (hb2.mono BB1.out.size)⟩
  | some n =>
    rw [hp] at hpd
    obtain ⟨hfull, hcl⟩ := parsed8_small hp
    have hfit : Fit n := full_fit _ n (Nat.le_refl _) (by omega)
    have hfx := treeOf_fit hfit
    have hrt := fun W v (h1 : Below w.heap.size w W) (h2 : NodeV W W.heap.size n v) => resolveTop_any n v W hcl (by omega) (HT.out.next h1) h2
    have hrr := fun W v (h2 : NodeV W W.heap.size n v) => refResolveTop_any n v W hcl (by omega) h2
    have heq := fun W v u (hv : NodeV W W.heap.size (treeOf (resolveF n)) v) (hu : NodeV W W.heap.size (treeOf (resolveF n)) u) => refEqual_any true _ _ v u W hv hu hfx hfx
    rw [eqv_refl8] at heq
    obtain ⟨X, hX⟩ : ∃ X, treeOf (resolveF n) = X := ⟨_, rfl⟩
    rw [hX] at heq
    have HX := Lib.hid hX
    clear hX
    generalize resolveF n = R at *
    have HPD := Lib.hid hpd
    have HRT := Lib.hid hrt
    have HRR := Lib.hid hrr
    have HEQ := Lib.hid heq
    clear hpd hrt hrr heq hfx hfit hfull hcl hp
    go_enter Tryd.func4, Tryd.ntmps4
    go_wp2_with fail
    refine HPD.out.mono ?_
    rintro e w1 ⟨⟨v1, rfl, hv1⟩, hb1⟩
    obtain ⟨cs1, rfl, hn1⟩ := hv1
    obtain ⟨A1, c1, K1, d1, rfl, _, _, _, _⟩ := hn1.open_
    have hbb := (Below.refl _ w1).alloc (Nat.le_refl _) (nodeBox n A1 c1 K1 d1)
    have N1 := Lib.hid (NodeP.keep (w' := w1.alloc (nodeBox n A1 c1 K1 d1)) (p' := (· < w1.heap.size)) (fun b hb => Below.heap_alloc _ _ _ hb.2) (fun b hb => hb.2) _ _ hn1)
    have X1 := Lib.hid (heap_alloc_new w1 (nodeBox n A1 c1 K1 d1))
    have BB1 := Lib.hid (hb1.alloc hb1.size (nodeBox n A1 c1 K1 d1))
    have r1 := Lib.hid (range_of_heap (cs := [.int .i64 n.kind, .string (S n.space), .string (S n.name), .slice A1 n.attrs.length c1, .slice K1 n.kids.length d1, .string (S n.text), .int .i64 n.pos]) X1.out)
    have z1 : (w1.alloc (nodeBox n A1 c1 K1 d1)).heap.size = w1.heap.size + 1 := by simp
    clear hbb hb1 hn1
    go_wp2_with (with_reducible refine gate ?_; refine wp_load_node rfl _ rfl w1.heap.size 0 rfl _ rfl r1.out ?_)
    generalize w1.alloc (nodeBox n A1 c1 K1 d1) = W1 at *
    refine (HRT.out W1 _ BB1.out ⟨_, rfl, NodeP.toIn (B := W1.heap.size) (fun b hb => by have h1 : b < w1.heap.size := hb; omega) _ _ N1.out⟩).mono ?_
    rintro e w2 ⟨hres, hb2⟩
    obtain ⟨v2, rfl, hv2⟩ := hres.form
    rw [HX.out] at hv2
    obtain ⟨cs2, rfl, hn2⟩ := hv2
    obtain ⟨A2, c2, K2, d2, rfl, _, _, _, _⟩ := hn2.open_
    have hbb := (Below.refl _ w2).alloc (Nat.le_refl _) (nodeBox X A2 c2 K2 d2)
    have N2 := Lib.hid (NodeP.keep (w' := w2.alloc (nodeBox X A2 c2 K2 d2)) (p' := (· < w2.heap.size)) (fun b hb => Below.heap_alloc _ _ _ hb.2) (fun b hb => hb.2) _ _ hn2)
    have X2 := Lib.hid (heap_alloc_new w2 (nodeBox X A2 c2 K2 d2))
    have BB2 := Lib.hid ((BB1.out.trans (hb2.mono BB1.out.size)).alloc (by have := BB1.out.size; have := hb2.size; omega) (nodeBox X A2 c2 K2 d2))
    have hq2 := hb2.trans (hbb.mono hb2.size)
    have N1b := Lib.hid (NodeP.keep (fun b hb => hq2.block b (by have h1 : b < w1.heap.size := hb; omega)) (fun _ h => h) _ _ N1.out)
    have X1b := Lib.hid ((hq2.block _ (heap_lt X1.out)).trans X1.out)
    have r2 := Lib.hid (range_of_heap (cs := [.int .i64 n.kind, .string (S n.space), .string (S n.name), .slice A1 n.attrs.length c1, .slice K1 n.kids.length d1, .string (S n.text), .int .i64 n.pos]) X1b.out)
    have z2 : (w2.alloc (nodeBox X A2 c2 K2 d2)).heap.size = w2.heap.size + 1 := by simp
    have z12 := hb2.size
    clear hbb hb2 hn2 hq2 N1 X1 r1 hres
    go_wp2_with (with_reducible refine gate ?_; refine wp_load_node rfl _ rfl w1.heap.size 0 rfl _ rfl r2.out ?_)
    generalize w2.alloc (nodeBox X A2 c2 K2 d2) = W2 at *
    refine (HRR.out W2 _ ⟨_, rfl, NodeP.toIn (B := W2.heap.size) (fun b hb => by have h1 : b < w1.heap.size := hb; omega) _ _ N1b.out⟩).mono ?_
    rintro e w3 ⟨hres, hb3⟩
    obtain ⟨v3, rfl, hv3⟩ := hres.form
    rw [HX.out] at hv3
    obtain ⟨cs3, rfl, hn3⟩ := hv3
    obtain ⟨A3, c3, K3, d3, rfl, _, _, _, _⟩ := hn3.open_
    have hbb := (Below.refl _ w3).alloc (Nat.le_refl _) (nodeBox X A3 c3 K3 d3)
    have N3 := Lib.hid (NodeP.keep (w' := w3.alloc (nodeBox X A3 c3 K3 d3)) (p' := (· < w3.heap.size)) (fun b hb => Below.heap_alloc _ _ _ hb.2) (fun b hb => hb.2) _ _ hn3)
    have X3 := Lib.hid (heap_alloc_new w3 (nodeBox X A3 c3 K3 d3))
    have BB3 := Lib.hid ((BB2.out.trans (hb3.mono BB2.out.size)).alloc (by have := BB2.out.size; have := hb3.size; omega) (nodeBox X A3 c3 K3 d3))
    have hq3 := hb3.trans (hbb.mono hb3.size)
    have N2b := Lib.hid (NodeP.keep (fun b hb => hq3.block b (by have h1 : b < w2.heap.size := hb; omega)) (fun _ h => h) _ _ N2.out)
    have X2b := Lib.hid ((hq3.block _ (heap_lt X2.out)).trans X2.out)
    have z3 : (w3.alloc (nodeBox X A3 c3 K3 d3)).heap.size = w3.heap.size + 1 := by simp
    have z23 := hb3.size
    clear hbb hb3 hn3 hq3 N2 X2 hres N1b X1b r2
    go_wp2_with fail
    generalize w3.alloc (nodeBox X A3 c3 K3 d3) = W3 at *
    refine (HAL.out W3 BB3.out).mono ?_
    rintro e w4 ⟨rfl, hb4⟩
    have z4 := hb4.size
    have N2c := Lib.hid (NodeP.keep (fun b hb => hb4.block b (by have h1 : b < w2.heap.size := hb; omega)) (fun _ h => h) _ _ N2b.out)
    have N3c := Lib.hid (NodeP.keep (fun b hb => hb4.block b (by have h1 : b < w3.heap.size := hb; omega)) (fun _ h => h) _ _ N3.out)
    have X2c := (hb4.block _ (heap_lt X2b.out)).trans X2b.out
    have X3c := (hb4.block _ (heap_lt X3.out)).trans X3.out
    have BB4 := Lib.hid (BB3.out.trans (hb4.mono BB3.out.size))
    obtain ⟨x0, x1, x2, x3, x4, x5, x6⟩ := cells7 X2c
    obtain ⟨y0, y1, y2, y3, y4, y5, y6⟩ := cells7 X3c
    clear hb4 X2c X3c N2b N3 X2b X3
    go_wp2_with fail
    refine (HEQ.out w4 _ _ ⟨_, rfl, NodeP.toIn (B := w4.heap.size) (fun b hb => by have h1 : b < w2.heap.size := hb; omega) _ _ N2c.out⟩ ⟨_, rfl, NodeP.toIn (B := w4.heap.size) (fun b hb => by have h1 : b < w3.heap.size := hb; omega) _ _ N3c.out⟩).mono ?_
    rintro e w5 ⟨rfl, hb5⟩
    go_wp2_with fail
    go_ret
    exact ⟨by simp, BB4.out.trans (hb5.mono BB4.out.size)⟩
end Go.Proofs.YtaghipnheomggaaDoor
