/-
  Walk of chapter 11's statement Functions. Made by gen_law11f.py.
-/
import Derived.Test.YthlppbpccldikaaDoorH17
import Derived.Test.YthlppbpccldikaaDoorZGetR11
import Derived.Test.YthlppbpccldikaaDoorZZero11
import Derived.Test.YthlppbpccldikaaDoorH20
import Derived.Test.YthlppbpccldikaaDoorZWei12
set_option linter.unusedVariables false
namespace Go.Proofs.YthlppbpccldikaaDoor
open Go.RowKit
mutual
theorem fit_strip11 : ∀ v : JV, JFit v → JFit (stripJ v)
  | .mk k b n s is ms p, h => by
    rw [JFit] at h
    have h1 := fitL_strip11 is h.2.1
    have h2 := fitM_strip11 ms h.2.2
    rw [stripJ, JFit, h1.2, h2.2]
    exact ⟨h.1, h1.1, h2.1⟩
theorem fitL_strip11 : ∀ l : List JV, JFitL l → JFitL (stripJL l) ∧ (stripJL l).length = l.length
  | [], h => by rw [stripJL]; exact ⟨h, rfl⟩
  | v :: l, h => by
    rw [JFitL] at h
    have h1 := fitL_strip11 l h.2
    rw [stripJL, JFitL, List.length_cons, List.length_cons, h1.2]
    exact ⟨⟨fit_strip11 v h.1, h1.1⟩, rfl⟩
theorem fitM_strip11 : ∀ l : List JM, JFitM l → JFitM (stripJM l) ∧ (stripJM l).length = l.length
  | [], h => by rw [stripJM]; exact ⟨h, rfl⟩
  | .mk k v p :: l, h => by
    rw [JFitM] at h
    have h1 := fitM_strip11 l h.2
    rw [stripJM, JFitM, List.length_cons, List.length_cons, h1.2]
    exact ⟨⟨fit_strip11 v h.1, h1.1⟩, rfl⟩
end
theorem getJ_fit {v x : JV} {key : Bytes} (h : JFit v) (hx : getJ v key = some x) : JFit x := by
  unfold getJ at hx
  split at hx
  · cases hf : v.mems.find? (fun m => m.key == key) with
    | none => rw [hf] at hx; cases hx
    | some m =>
      rw [hf] at hx
      cases hx
      exact (JFit.form h).2.2 _ (List.mem_of_find?_eq_some hf)
  · cases hx
theorem GetR.both {w : World} {r : Option JV} {e : Ending} (h : GetR w r e) : ∃ IA ic MA mc, e = .returned (.tuple #[valAgg (r.getD zJV) IA ic MA mc, .bool r.isSome]) ∧ ValV w (· < w.heap.size) (r.getD zJV) (valAgg (r.getD zJV) IA ic MA mc) := by
  cases r with
  | none => exact ⟨none, 0, none, 0, h, zValP11 _ _⟩
  | some x =>
    obtain ⟨y, rfl, hy⟩ := h
    obtain ⟨IA, ic, MA, mc, rfl, _⟩ := hy.open_
    exact ⟨IA, ic, MA, mc, rfl, hy⟩
set_option maxHeartbeats 8000000 in
set_option maxRecDepth 100000 in
theorem law11functions_any (n m : JV) (v u : Value) (key : Bytes) (w : World) (hT : Tabs w) (hE : NumE w) (hf : JFit n) (hg : JFit m) (hv : ValV w (· < w.heap.size) n v) (hu : ValV w (· < w.heap.size) m u) (hk : key.length ≤ 9223372036854775807) :
    Calls Tryd.prog 3 #[v, u, .string (S key)] w fun e w' => e = .returned (.bool true) ∧ Below w.heap.size w w' := by
  have hal := fun W => fun (hW : Below w.heap.size w W) => alive11_any W (hT.next hW) (hE.next hW)
  have HAL := Lib.hid hal
  obtain ⟨A1, c1, K1, d1, rfl, _⟩ := hv.open_
  obtain ⟨A2, c2, K2, d2, rfl, _⟩ := hu.open_
  have N1 := Lib.hid ((Jbx.new (n := n) hv).keep ((Below.refl _ _).alloc (Nat.le_refl _) (valBox m A2 c2 K2 d2)))
  have N2 := Lib.hid (Jbx.new (n := m) (hu.grow ((Below.refl _ _).alloc (Nat.le_refl _) (valBox n A1 c1 K1 d1))))
  obtain ⟨b3, hw3⟩ : ∃ b3, w.heap.size = b3 := ⟨_, rfl⟩
  have F1 := Lib.hid (((Below.refl w.heap.size w).alloc (Nat.le_refl _) (valBox n A1 c1 K1 d1)).alloc (by simp) (valBox m A2 c2 K2 d2))
  have hsz : (w.alloc (valBox n A1 c1 K1 d1)).heap.size = b3 + 1 := by rw [← hw3]; simp
  rw [hsz] at N2
  obtain ⟨W1, hW1⟩ : ∃ W1, (w.alloc (valBox n A1 c1 K1 d1)).alloc (valBox m A2 c2 K2 d2) = W1 := ⟨_, rfl⟩
  rw [hW1] at N1 N2 F1
  rw [hw3] at N1
  have ht1 := fun W (hW : Below W1.heap.size W1 W) => tooLarge12_any n _ W hf (N1.out.keep hW).tree
  have ht2 := fun W (hW : Below W1.heap.size W1 W) => tooLarge12_any m _ W hg (N2.out.keep hW).tree
  clear hv hu hsz
  obtain ⟨aq0, aq1, aq2, aq3, aq4, aq5, aq6⟩ : W1.cell? ⟨b3, 0, none⟩ = some (.int .i64 n.kind) ∧ W1.cell? ⟨b3, 1, none⟩ = some (.bool n.b) ∧ W1.cell? ⟨b3, 2, none⟩ = some (.int .i64 n.n) ∧ W1.cell? ⟨b3, 3, none⟩ = some (.string (S n.s)) ∧ W1.cell? ⟨b3, 4, none⟩ = some (.slice A1 n.items.length c1) ∧ W1.cell? ⟨b3, 5, none⟩ = some (.slice K1 n.mems.length d1) ∧ W1.cell? ⟨b3, 6, none⟩ = some (.int .i64 n.pos) := N1.out.cells
  rcases bigJ_cases n with h | ⟨h, hs⟩
  · rw [h] at ht1
    have HT1 := Lib.hid ht1
    clear ht1 ht2 hal hT hE hf hg h
    go_enter Tryd.func3, Tryd.ntmps3
    rw [hw3]
    go_wp2_with fail
    refine (HT1.out _ (Below.refl _ _)).mono ?_
    rintro e w2 ⟨rfl, hb2⟩
    have BB2 := Lib.hid (F1.out.trans (hb2.mono F1.out.size))
    have M1 := Lib.hid (N1.out.keep hb2)
    have M2 := Lib.hid (N2.out.keep hb2)
    have X2 := Lib.hid hb2
    clear hb2
    go_wp2_with fail
    refine (HAL.out _ BB2.out).mono ?_
    rintro e w4 ⟨rfl, hb4⟩
    go_wp2_with fail
    go_ret
    rw [← hw3]
    exact ⟨rfl, BB2.out.trans (hb4.mono BB2.out.size)⟩
  rw [h] at ht1
  have HT1 := Lib.hid ht1
  rcases bigJ_cases m with h' | ⟨h', hs'⟩
  · rw [h'] at ht2
    have HT2 := Lib.hid ht2
    clear ht1 ht2 hal hT hE hf hg h h'
    go_enter Tryd.func3, Tryd.ntmps3
    rw [hw3]
    go_wp2_with fail
    refine (HT1.out _ (Below.refl _ _)).mono ?_
    rintro e w2 ⟨rfl, hb2⟩
    have BB2 := Lib.hid (F1.out.trans (hb2.mono F1.out.size))
    have M1 := Lib.hid (N1.out.keep hb2)
    have M2 := Lib.hid (N2.out.keep hb2)
    have X2 := Lib.hid hb2
    clear hb2
    clear aq0 aq1 aq2 aq3 aq4 aq5 aq6
    obtain ⟨bq0, bq1, bq2, bq3, bq4, bq5, bq6⟩ : w2.cell? ⟨b3 + 1, 0, none⟩ = some (.int .i64 m.kind) ∧ w2.cell? ⟨b3 + 1, 1, none⟩ = some (.bool m.b) ∧ w2.cell? ⟨b3 + 1, 2, none⟩ = some (.int .i64 m.n) ∧ w2.cell? ⟨b3 + 1, 3, none⟩ = some (.string (S m.s)) ∧ w2.cell? ⟨b3 + 1, 4, none⟩ = some (.slice A2 m.items.length c2) ∧ w2.cell? ⟨b3 + 1, 5, none⟩ = some (.slice K2 m.mems.length d2) ∧ w2.cell? ⟨b3 + 1, 6, none⟩ = some (.int .i64 m.pos) := M2.out.cells
    go_wp2_with fail
    refine (HT2.out _ X2.out).mono ?_
    rintro e w3 ⟨rfl, hb3⟩
    have BB3 := Lib.hid (BB2.out.trans (hb3.mono BB2.out.size))
    have P1 := Lib.hid (M1.out.keep hb3)
    have P2 := Lib.hid (M2.out.keep hb3)
    clear hb3 M1 M2 X2
    go_wp2_with fail
    refine (HAL.out _ BB3.out).mono ?_
    rintro e w4 ⟨rfl, hb4⟩
    go_wp2_with fail
    go_ret
    rw [← hw3]
    exact ⟨rfl, BB3.out.trans (hb4.mono BB3.out.size)⟩
  rw [h'] at ht2
  have HT2 := Lib.hid ht2
  have hfx : JFit ((getJ n key).getD zJV) := by
    cases hx : getJ n key with
    | none => exact jfit_leaf _ _ _ _ _ (by decide) (by decide)
    | some x => exact getJ_fit hf hx
  have hnm : n.mems.length ≤ 1000000000 := by have := jful_form n; have := jfulM_len n.mems; omega
  have hget : ∀ W, ValV W (· < W.heap.size) n (valAgg n A1 c1 K1 d1) → Calls Tryd.prog 8 #[valAgg n A1 c1 K1 d1, .string (S key)] W fun e w' => (∃ IA ic MA mc, e = .returned (.tuple #[valAgg ((getJ n key).getD zJV) IA ic MA mc, .bool (getJ n key).isSome]) ∧ ValV W (· < W.heap.size) ((getJ n key).getD zJV) (valAgg ((getJ n key).getD zJV) IA ic MA mc)) ∧ Below W.heap.size W w' := fun W hW => (get11_any n key _ W hnm hW).mono fun e w' h => ⟨h.1.both, h.2⟩
  have hgeR : ∀ W, ValV W (· < W.heap.size) n (valAgg n A1 c1 K1 d1) → Calls Tryd.prog 9 #[valAgg n A1 c1 K1 d1, .string (S key)] W fun e w' => (∃ IA ic MA mc, e = .returned (.tuple #[valAgg ((getJ n key).getD zJV) IA ic MA mc, .bool (getJ n key).isSome]) ∧ ValV W (· < W.heap.size) ((getJ n key).getD zJV) (valAgg ((getJ n key).getD zJV) IA ic MA mc)) ∧ Below W.heap.size W w' := fun W hW => (refGet11_any n key _ W hnm hW).mono fun e w' h => ⟨h.1.both, h.2⟩
  generalize (getJ n key).getD zJV = x at *
  generalize (getJ n key).isSome = ok at *
  have hst := fun W (hW : ValV W (· < W.heap.size) n (valAgg n A1 c1 K1 d1)) => strip11_any _ n _ W (Nat.le_refl _) (jslim_of_ful _ (by omega)) hW
  have HG := Lib.hid hget
  have HGR := Lib.hid hgeR
  have HST := Lib.hid hst
  have HK := Lib.hid hk
  have tok : (ok == ok) = true := by simp
  clear ht1 ht2 hal hT hE h h' hget hgeR hst hk hnm
  go_enter Tryd.func3, Tryd.ntmps3
  rw [hw3]
  go_wp2_with fail
  refine (HT1.out _ (Below.refl _ _)).mono ?_
  rintro e w2 ⟨rfl, hb2⟩
  have BB2 := Lib.hid (F1.out.trans (hb2.mono F1.out.size))
  have M1 := Lib.hid (N1.out.keep hb2)
  have M2 := Lib.hid (N2.out.keep hb2)
  have X2 := Lib.hid hb2
  clear hb2
  clear aq0 aq1 aq2 aq3 aq4 aq5 aq6
  obtain ⟨bq0, bq1, bq2, bq3, bq4, bq5, bq6⟩ : w2.cell? ⟨b3 + 1, 0, none⟩ = some (.int .i64 m.kind) ∧ w2.cell? ⟨b3 + 1, 1, none⟩ = some (.bool m.b) ∧ w2.cell? ⟨b3 + 1, 2, none⟩ = some (.int .i64 m.n) ∧ w2.cell? ⟨b3 + 1, 3, none⟩ = some (.string (S m.s)) ∧ w2.cell? ⟨b3 + 1, 4, none⟩ = some (.slice A2 m.items.length c2) ∧ w2.cell? ⟨b3 + 1, 5, none⟩ = some (.slice K2 m.mems.length d2) ∧ w2.cell? ⟨b3 + 1, 6, none⟩ = some (.int .i64 m.pos) := M2.out.cells
  go_wp2_with fail
  refine (HT2.out _ X2.out).mono ?_
  rintro e w3 ⟨rfl, hb3⟩
  have BB3 := Lib.hid (BB2.out.trans (hb3.mono BB2.out.size))
  have P1 := Lib.hid (M1.out.keep hb3)
  have P2 := Lib.hid (M2.out.keep hb3)
  clear hb3 M1 M2 X2
  clear bq0 bq1 bq2 bq3 bq4 bq5 bq6
  obtain ⟨aq0, aq1, aq2, aq3, aq4, aq5, aq6⟩ : w3.cell? ⟨b3, 0, none⟩ = some (.int .i64 n.kind) ∧ w3.cell? ⟨b3, 1, none⟩ = some (.bool n.b) ∧ w3.cell? ⟨b3, 2, none⟩ = some (.int .i64 n.n) ∧ w3.cell? ⟨b3, 3, none⟩ = some (.string (S n.s)) ∧ w3.cell? ⟨b3, 4, none⟩ = some (.slice A1 n.items.length c1) ∧ w3.cell? ⟨b3, 5, none⟩ = some (.slice K1 n.mems.length d1) ∧ w3.cell? ⟨b3, 6, none⟩ = some (.int .i64 n.pos) := P1.out.cells
  go_wp2_with fail
  refine (HG.out _ P1.out.tree).mono ?_
  rintro e w4 ⟨⟨A3, c3, K3, d3, rfl, hv4⟩, hb4⟩
  have Q3 := Lib.hid (Jbx.new (hv4.grow hb4))
  have X4 := Lib.hid (hb4.alloc hb4.size (valBox x A3 c3 K3 d3))
  have BB4 := Lib.hid (BB3.out.trans (X4.out.mono BB3.out.size))
  have Q1 := Lib.hid (P1.out.keep X4.out)
  have Q2 := Lib.hid (P2.out.keep X4.out)
  clear hv4 hb4 P1 P2 X4 aq0 aq1 aq2 aq3 aq4 aq5 aq6
  go_upto_region 4 with fail
  obtain ⟨b7, hw7⟩ : ∃ b, w4.heap.size = b := ⟨_, rfl⟩
  rw [hw7] at Q3 ⊢
  clear hw7
  obtain ⟨W4, hW4⟩ : ∃ W, w4.alloc (valBox x A3 c3 K3 d3) = W := ⟨_, rfl⟩
  change Code.wp _ _ _ _ (w4.alloc (valBox x A3 c3 K3 d3))
  rw [hW4] at Q3 BB4 Q1 Q2 ⊢
  clear hW4
  obtain ⟨aq0, aq1, aq2, aq3, aq4, aq5, aq6⟩ : W4.cell? ⟨b3, 0, none⟩ = some (.int .i64 n.kind) ∧ W4.cell? ⟨b3, 1, none⟩ = some (.bool n.b) ∧ W4.cell? ⟨b3, 2, none⟩ = some (.int .i64 n.n) ∧ W4.cell? ⟨b3, 3, none⟩ = some (.string (S n.s)) ∧ W4.cell? ⟨b3, 4, none⟩ = some (.slice A1 n.items.length c1) ∧ W4.cell? ⟨b3, 5, none⟩ = some (.slice K1 n.mems.length d1) ∧ W4.cell? ⟨b3, 6, none⟩ = some (.int .i64 n.pos) := Q1.out.cells
  go_wp2_with fail
  refine (HGR.out _ Q1.out.tree).mono ?_
  rintro e w5 ⟨⟨A4, c4, K4, d4, rfl, hv5⟩, hb5⟩
  have R4 := Lib.hid (Jbx.new (hv5.grow hb5))
  have X5 := Lib.hid (hb5.alloc hb5.size (valBox x A4 c4 K4 d4))
  have BB5 := Lib.hid (BB4.out.trans (X5.out.mono BB4.out.size))
  have R1 := Lib.hid (Q1.out.keep X5.out)
  have R2 := Lib.hid (Q2.out.keep X5.out)
  have R3 := Lib.hid (Q3.out.keep X5.out)
  clear hv5 hb5 Q1 Q2 Q3 X5 aq0 aq1 aq2 aq3 aq4 aq5 aq6
  go_upto_region 5 with fail
  obtain ⟨b9, hw9⟩ : ∃ b, w5.heap.size = b := ⟨_, rfl⟩
  rw [hw9] at R4 ⊢
  clear hw9
  obtain ⟨W5, hW5⟩ : ∃ W, w5.alloc (valBox x A4 c4 K4 d4) = W := ⟨_, rfl⟩
  change Code.wp _ _ _ _ (w5.alloc (valBox x A4 c4 K4 d4))
  rw [hW5] at R4 BB5 R1 R2 R3 ⊢
  clear hW5
  obtain ⟨aq0, aq1, aq2, aq3, aq4, aq5, aq6⟩ : W5.cell? ⟨b3, 0, none⟩ = some (.int .i64 n.kind) ∧ W5.cell? ⟨b3, 1, none⟩ = some (.bool n.b) ∧ W5.cell? ⟨b3, 2, none⟩ = some (.int .i64 n.n) ∧ W5.cell? ⟨b3, 3, none⟩ = some (.string (S n.s)) ∧ W5.cell? ⟨b3, 4, none⟩ = some (.slice A1 n.items.length c1) ∧ W5.cell? ⟨b3, 5, none⟩ = some (.slice K1 n.mems.length d1) ∧ W5.cell? ⟨b3, 6, none⟩ = some (.int .i64 n.pos) := R1.out.cells
  go_wp2_with fail
  refine (HST.out _ R1.out.tree).mono ?_
  rintro e w6 ⟨y, rfl, hv6, hb6⟩
  obtain ⟨A5, c5, K5, d5, rfl, _⟩ := hv6.open_
  have T5 := Lib.hid (Jbx.new (hv6.keep (fun _ _ => rfl) (fun _ h => h.2)))
  have X6 := Lib.hid (hb6.alloc hb6.size (valBox (stripJ n) A5 c5 K5 d5))
  have BB6 := Lib.hid (BB5.out.trans (X6.out.mono BB5.out.size))
  have T1 := Lib.hid (R1.out.keep X6.out)
  have T2 := Lib.hid (R2.out.keep X6.out)
  have T3 := Lib.hid (R3.out.keep X6.out)
  have T4 := Lib.hid (R4.out.keep X6.out)
  clear hv6 hb6 R1 R2 R3 R4 X6 aq0 aq1 aq2 aq3 aq4 aq5 aq6
  go_upto_region 6 with fail
  obtain ⟨b11, hw11⟩ : ∃ b, w6.heap.size = b := ⟨_, rfl⟩
  rw [hw11] at T5 ⊢
  clear hw11
  obtain ⟨W6, hW6⟩ : ∃ W, w6.alloc (valBox (stripJ n) A5 c5 K5 d5) = W := ⟨_, rfl⟩
  change Code.wp _ _ _ _ (w6.alloc (valBox (stripJ n) A5 c5 K5 d5))
  rw [hW6] at T5 BB6 T1 T2 T3 T4 ⊢
  clear hW6 F1 BB2 BB3 BB4 BB5
  obtain ⟨aq0, aq1, aq2, aq3, aq4, aq5, aq6⟩ : W6.cell? ⟨b3, 0, none⟩ = some (.int .i64 n.kind) ∧ W6.cell? ⟨b3, 1, none⟩ = some (.bool n.b) ∧ W6.cell? ⟨b3, 2, none⟩ = some (.int .i64 n.n) ∧ W6.cell? ⟨b3, 3, none⟩ = some (.string (S n.s)) ∧ W6.cell? ⟨b3, 4, none⟩ = some (.slice A1 n.items.length c1) ∧ W6.cell? ⟨b3, 5, none⟩ = some (.slice K1 n.mems.length d1) ∧ W6.cell? ⟨b3, 6, none⟩ = some (.int .i64 n.pos) := T1.out.cells
  obtain ⟨bq0, bq1, bq2, bq3, bq4, bq5, bq6⟩ : W6.cell? ⟨b3 + 1, 0, none⟩ = some (.int .i64 m.kind) ∧ W6.cell? ⟨b3 + 1, 1, none⟩ = some (.bool m.b) ∧ W6.cell? ⟨b3 + 1, 2, none⟩ = some (.int .i64 m.n) ∧ W6.cell? ⟨b3 + 1, 3, none⟩ = some (.string (S m.s)) ∧ W6.cell? ⟨b3 + 1, 4, none⟩ = some (.slice A2 m.items.length c2) ∧ W6.cell? ⟨b3 + 1, 5, none⟩ = some (.slice K2 m.mems.length d2) ∧ W6.cell? ⟨b3 + 1, 6, none⟩ = some (.int .i64 m.pos) := T2.out.cells
  obtain ⟨cq0, cq1, cq2, cq3, cq4, cq5, cq6⟩ : W6.cell? ⟨b7, 0, none⟩ = some (.int .i64 x.kind) ∧ W6.cell? ⟨b7, 1, none⟩ = some (.bool x.b) ∧ W6.cell? ⟨b7, 2, none⟩ = some (.int .i64 x.n) ∧ W6.cell? ⟨b7, 3, none⟩ = some (.string (S x.s)) ∧ W6.cell? ⟨b7, 4, none⟩ = some (.slice A3 x.items.length c3) ∧ W6.cell? ⟨b7, 5, none⟩ = some (.slice K3 x.mems.length d3) ∧ W6.cell? ⟨b7, 6, none⟩ = some (.int .i64 x.pos) := T3.out.cells
  obtain ⟨dq0, dq1, dq2, dq3, dq4, dq5, dq6⟩ : W6.cell? ⟨b9, 0, none⟩ = some (.int .i64 x.kind) ∧ W6.cell? ⟨b9, 1, none⟩ = some (.bool x.b) ∧ W6.cell? ⟨b9, 2, none⟩ = some (.int .i64 x.n) ∧ W6.cell? ⟨b9, 3, none⟩ = some (.string (S x.s)) ∧ W6.cell? ⟨b9, 4, none⟩ = some (.slice A4 x.items.length c4) ∧ W6.cell? ⟨b9, 5, none⟩ = some (.slice K4 x.mems.length d4) ∧ W6.cell? ⟨b9, 6, none⟩ = some (.int .i64 x.pos) := T4.out.cells
  obtain ⟨eq0, eq1, eq2, eq3, eq4, eq5, eq6⟩ : W6.cell? ⟨b11, 0, none⟩ = some (.int .i64 (stripJ n).kind) ∧ W6.cell? ⟨b11, 1, none⟩ = some (.bool (stripJ n).b) ∧ W6.cell? ⟨b11, 2, none⟩ = some (.int .i64 (stripJ n).n) ∧ W6.cell? ⟨b11, 3, none⟩ = some (.string (S (stripJ n).s)) ∧ W6.cell? ⟨b11, 4, none⟩ = some (.slice A5 (stripJ n).items.length c5) ∧ W6.cell? ⟨b11, 5, none⟩ = some (.slice K5 (stripJ n).mems.length d5) ∧ W6.cell? ⟨b11, 6, none⟩ = some (.int .i64 (stripJ n).pos) := T5.out.cells
  have C0 := Lib.hid (show ∀ W, Below W6.heap.size W6 W → Calls Tryd.prog 7 #[] W fun e w' => e = .returned (.bool true) ∧ Below W.heap.size W w' from fun W hW => by
    exact HAL.out W (BB6.out.trans (hW.mono BB6.out.size)))
  have C1 := Lib.hid (show ∀ W, Below W6.heap.size W6 W → Calls Tryd.prog 11 #[valAgg x A3 c3 K3 d3, valAgg x A4 c4 K4 d4, .bool true] W fun e w' => e = .returned (.bool true) ∧ Below W.heap.size W w' from fun W hW => by
    have := refEqual11_any _ true x x _ _ W (Nat.le_refl _) hfx hfx (T3.out.tree.grow hW) (T4.out.tree.grow hW)
    rw [jeq_refl] at this
    exact this)
  have C2 := Lib.hid (show ∀ W, Below W6.heap.size W6 W → Calls Tryd.prog 12 #[valAgg n A1 c1 K1 d1] W fun e w' => e = .returned (.int .i64 (jdep n : Nat)) ∧ Below W.heap.size W w' from fun W hW => by
    exact depth11_any _ n _ W (Nat.le_refl _) (by omega) (T1.out.tree.grow hW))
  have C3 := Lib.hid (show ∀ W, Below W6.heap.size W6 W → Calls Tryd.prog 13 #[valAgg n A1 c1 K1 d1] W fun e w' => e = .returned (.int .i64 (jdep n : Nat)) ∧ Below W.heap.size W w' from fun W hW => by
    exact refDepth11_any _ n _ W (Nat.le_refl _) (by omega) (T1.out.tree.grow hW))
  have C4 := Lib.hid (show ∀ W, Below W6.heap.size W6 W → Calls Tryd.prog 14 #[valAgg n A1 c1 K1 d1, valAgg m A2 c2 K2 d2] W fun e w' => e = .returned (.bool (jeq false n m)) ∧ Below W.heap.size W w' from fun W hW => by
    exact equal11_any _ n m _ _ W (Nat.le_refl _) hf hg (T1.out.tree.grow hW) (T2.out.tree.grow hW))
  have C5 := Lib.hid (show ∀ W, Below W6.heap.size W6 W → Calls Tryd.prog 11 #[valAgg n A1 c1 K1 d1, valAgg m A2 c2 K2 d2, .bool false] W fun e w' => e = .returned (.bool (jeq false n m)) ∧ Below W.heap.size W w' from fun W hW => by
    exact refEqual11_any _ false n m _ _ W (Nat.le_refl _) hf hg (T1.out.tree.grow hW) (T2.out.tree.grow hW))
  have C6 := Lib.hid (show ∀ W, Below W6.heap.size W6 W → Calls Tryd.prog 11 #[valAgg n A1 c1 K1 d1, valAgg (stripJ n) A5 c5 K5 d5, .bool false] W fun e w' => e = .returned (.bool true) ∧ Below W.heap.size W w' from fun W hW => by
    have := refEqual11_any _ false n (stripJ n) _ _ W (Nat.le_refl _) hf (fit_strip11 n hf) (T1.out.tree.grow hW) (T5.out.tree.grow hW)
    rw [jeq_strip] at this
    exact this)
  have C7 := Lib.hid (show ∀ W, Below W6.heap.size W6 W → Calls Tryd.prog 15 #[valAgg (stripJ n) A5 c5 K5 d5] W fun e w' => e = .returned (.int .i64 1) ∧ Below W.heap.size W w' from fun W hW => by
    exact zero11_any _ (stripJ n) _ W (Nat.le_refl _) (by rw [jful_strip]; omega) (zero_strip n) (T5.out.tree.grow hW))
  have KEEP := Lib.hid (show ∀ y9, Below W6.heap.size W6 y9 → (y9.cell? ⟨b3, 0, none⟩ = some (.int .i64 n.kind) ∧ y9.cell? ⟨b3, 1, none⟩ = some (.bool n.b) ∧ y9.cell? ⟨b3, 2, none⟩ = some (.int .i64 n.n) ∧ y9.cell? ⟨b3, 3, none⟩ = some (.string (S n.s)) ∧ y9.cell? ⟨b3, 4, none⟩ = some (.slice A1 n.items.length c1) ∧ y9.cell? ⟨b3, 5, none⟩ = some (.slice K1 n.mems.length d1) ∧ y9.cell? ⟨b3, 6, none⟩ = some (.int .i64 n.pos) ∧ y9.cell? ⟨b3 + 1, 0, none⟩ = some (.int .i64 m.kind) ∧ y9.cell? ⟨b3 + 1, 1, none⟩ = some (.bool m.b) ∧ y9.cell? ⟨b3 + 1, 2, none⟩ = some (.int .i64 m.n) ∧ y9.cell? ⟨b3 + 1, 3, none⟩ = some (.string (S m.s)) ∧ y9.cell? ⟨b3 + 1, 4, none⟩ = some (.slice A2 m.items.length c2) ∧ y9.cell? ⟨b3 + 1, 5, none⟩ = some (.slice K2 m.mems.length d2) ∧ y9.cell? ⟨b3 + 1, 6, none⟩ = some (.int .i64 m.pos) ∧ y9.cell? ⟨b7, 0, none⟩ = some (.int .i64 x.kind) ∧ y9.cell? ⟨b7, 1, none⟩ = some (.bool x.b) ∧ y9.cell? ⟨b7, 2, none⟩ = some (.int .i64 x.n) ∧ y9.cell? ⟨b7, 3, none⟩ = some (.string (S x.s)) ∧ y9.cell? ⟨b7, 4, none⟩ = some (.slice A3 x.items.length c3) ∧ y9.cell? ⟨b7, 5, none⟩ = some (.slice K3 x.mems.length d3) ∧ y9.cell? ⟨b7, 6, none⟩ = some (.int .i64 x.pos) ∧ y9.cell? ⟨b9, 0, none⟩ = some (.int .i64 x.kind) ∧ y9.cell? ⟨b9, 1, none⟩ = some (.bool x.b) ∧ y9.cell? ⟨b9, 2, none⟩ = some (.int .i64 x.n) ∧ y9.cell? ⟨b9, 3, none⟩ = some (.string (S x.s)) ∧ y9.cell? ⟨b9, 4, none⟩ = some (.slice A4 x.items.length c4) ∧ y9.cell? ⟨b9, 5, none⟩ = some (.slice K4 x.mems.length d4) ∧ y9.cell? ⟨b9, 6, none⟩ = some (.int .i64 x.pos) ∧ y9.cell? ⟨b11, 0, none⟩ = some (.int .i64 (stripJ n).kind) ∧ y9.cell? ⟨b11, 1, none⟩ = some (.bool (stripJ n).b) ∧ y9.cell? ⟨b11, 2, none⟩ = some (.int .i64 (stripJ n).n) ∧ y9.cell? ⟨b11, 3, none⟩ = some (.string (S (stripJ n).s)) ∧ y9.cell? ⟨b11, 4, none⟩ = some (.slice A5 (stripJ n).items.length c5) ∧ y9.cell? ⟨b11, 5, none⟩ = some (.slice K5 (stripJ n).mems.length d5) ∧ y9.cell? ⟨b11, 6, none⟩ = some (.int .i64 (stripJ n).pos)) from fun y9 hx => by
    have lt0 := T1.out.lt
    have lt1 := T2.out.lt
    have lt2 := T3.out.lt
    have lt3 := T4.out.lt
    have lt4 := T5.out.lt
    exact ⟨(hx.cell (p := ⟨b3, 0, none⟩) lt0).trans aq0, (hx.cell (p := ⟨b3, 1, none⟩) lt0).trans aq1, (hx.cell (p := ⟨b3, 2, none⟩) lt0).trans aq2, (hx.cell (p := ⟨b3, 3, none⟩) lt0).trans aq3, (hx.cell (p := ⟨b3, 4, none⟩) lt0).trans aq4, (hx.cell (p := ⟨b3, 5, none⟩) lt0).trans aq5, (hx.cell (p := ⟨b3, 6, none⟩) lt0).trans aq6, (hx.cell (p := ⟨b3 + 1, 0, none⟩) lt1).trans bq0, (hx.cell (p := ⟨b3 + 1, 1, none⟩) lt1).trans bq1, (hx.cell (p := ⟨b3 + 1, 2, none⟩) lt1).trans bq2, (hx.cell (p := ⟨b3 + 1, 3, none⟩) lt1).trans bq3, (hx.cell (p := ⟨b3 + 1, 4, none⟩) lt1).trans bq4, (hx.cell (p := ⟨b3 + 1, 5, none⟩) lt1).trans bq5, (hx.cell (p := ⟨b3 + 1, 6, none⟩) lt1).trans bq6, (hx.cell (p := ⟨b7, 0, none⟩) lt2).trans cq0, (hx.cell (p := ⟨b7, 1, none⟩) lt2).trans cq1, (hx.cell (p := ⟨b7, 2, none⟩) lt2).trans cq2, (hx.cell (p := ⟨b7, 3, none⟩) lt2).trans cq3, (hx.cell (p := ⟨b7, 4, none⟩) lt2).trans cq4, (hx.cell (p := ⟨b7, 5, none⟩) lt2).trans cq5, (hx.cell (p := ⟨b7, 6, none⟩) lt2).trans cq6, (hx.cell (p := ⟨b9, 0, none⟩) lt3).trans dq0, (hx.cell (p := ⟨b9, 1, none⟩) lt3).trans dq1, (hx.cell (p := ⟨b9, 2, none⟩) lt3).trans dq2, (hx.cell (p := ⟨b9, 3, none⟩) lt3).trans dq3, (hx.cell (p := ⟨b9, 4, none⟩) lt3).trans dq4, (hx.cell (p := ⟨b9, 5, none⟩) lt3).trans dq5, (hx.cell (p := ⟨b9, 6, none⟩) lt3).trans dq6, (hx.cell (p := ⟨b11, 0, none⟩) lt4).trans eq0, (hx.cell (p := ⟨b11, 1, none⟩) lt4).trans eq1, (hx.cell (p := ⟨b11, 2, none⟩) lt4).trans eq2, (hx.cell (p := ⟨b11, 3, none⟩) lt4).trans eq3, (hx.cell (p := ⟨b11, 4, none⟩) lt4).trans eq4, (hx.cell (p := ⟨b11, 5, none⟩) lt4).trans eq5, (hx.cell (p := ⟨b11, 6, none⟩) lt4).trans eq6⟩)
  have tj : (jeq false n m == jeq false n m) = true := by simp
  have td : ((jdep n : Int) == (jdep n : Int)) = true := by simp
  generalize jeq false n m = J at *
  have hjd : jdep n ≤ 1000000 := by have := jdep_le n; omega
  generalize jdep n = D at *
  clear T1 T2 T3 T4 T5 HAL HG HGR HST HT1 HT2 HK hf hg hfx hs hs'
  go_region_held3 (fun y9 => y9.cell? ⟨b3, 0, none⟩ = some (.int .i64 n.kind) ∧ y9.cell? ⟨b3, 1, none⟩ = some (.bool n.b) ∧ y9.cell? ⟨b3, 2, none⟩ = some (.int .i64 n.n) ∧ y9.cell? ⟨b3, 3, none⟩ = some (.string (S n.s)) ∧ y9.cell? ⟨b3, 4, none⟩ = some (.slice A1 n.items.length c1) ∧ y9.cell? ⟨b3, 5, none⟩ = some (.slice K1 n.mems.length d1) ∧ y9.cell? ⟨b3, 6, none⟩ = some (.int .i64 n.pos) ∧ y9.cell? ⟨b3 + 1, 0, none⟩ = some (.int .i64 m.kind) ∧ y9.cell? ⟨b3 + 1, 1, none⟩ = some (.bool m.b) ∧ y9.cell? ⟨b3 + 1, 2, none⟩ = some (.int .i64 m.n) ∧ y9.cell? ⟨b3 + 1, 3, none⟩ = some (.string (S m.s)) ∧ y9.cell? ⟨b3 + 1, 4, none⟩ = some (.slice A2 m.items.length c2) ∧ y9.cell? ⟨b3 + 1, 5, none⟩ = some (.slice K2 m.mems.length d2) ∧ y9.cell? ⟨b3 + 1, 6, none⟩ = some (.int .i64 m.pos) ∧ y9.cell? ⟨b7, 0, none⟩ = some (.int .i64 x.kind) ∧ y9.cell? ⟨b7, 1, none⟩ = some (.bool x.b) ∧ y9.cell? ⟨b7, 2, none⟩ = some (.int .i64 x.n) ∧ y9.cell? ⟨b7, 3, none⟩ = some (.string (S x.s)) ∧ y9.cell? ⟨b7, 4, none⟩ = some (.slice A3 x.items.length c3) ∧ y9.cell? ⟨b7, 5, none⟩ = some (.slice K3 x.mems.length d3) ∧ y9.cell? ⟨b7, 6, none⟩ = some (.int .i64 x.pos) ∧ y9.cell? ⟨b9, 0, none⟩ = some (.int .i64 x.kind) ∧ y9.cell? ⟨b9, 1, none⟩ = some (.bool x.b) ∧ y9.cell? ⟨b9, 2, none⟩ = some (.int .i64 x.n) ∧ y9.cell? ⟨b9, 3, none⟩ = some (.string (S x.s)) ∧ y9.cell? ⟨b9, 4, none⟩ = some (.slice A4 x.items.length c4) ∧ y9.cell? ⟨b9, 5, none⟩ = some (.slice K4 x.mems.length d4) ∧ y9.cell? ⟨b9, 6, none⟩ = some (.int .i64 x.pos) ∧ y9.cell? ⟨b11, 0, none⟩ = some (.int .i64 (stripJ n).kind) ∧ y9.cell? ⟨b11, 1, none⟩ = some (.bool (stripJ n).b) ∧ y9.cell? ⟨b11, 2, none⟩ = some (.int .i64 (stripJ n).n) ∧ y9.cell? ⟨b11, 3, none⟩ = some (.string (S (stripJ n).s)) ∧ y9.cell? ⟨b11, 4, none⟩ = some (.slice A5 (stripJ n).items.length c5) ∧ y9.cell? ⟨b11, 5, none⟩ = some (.slice K5 (stripJ n).mems.length d5) ∧ y9.cell? ⟨b11, 6, none⟩ = some (.int .i64 (stripJ n).pos))
    (first | exact KEEP.out _ G7.out | exact KEEP.out _ G6.out | exact KEEP.out _ G5.out | exact KEEP.out _ G4.out | exact KEEP.out _ G3.out | exact KEEP.out _ G2.out | exact KEEP.out _ G1.out | exact KEEP.out _ G0.out | exact KEEP.out _ (Below.refl _ _).drew)
    (first
      | ((go_at_call 7; refine (C0.out _ (Below.refl _ _).drew).mono ?_; rintro e r0 ⟨rfl, k0⟩; have G0 : Hid (Below W6.heap.size W6 r0) := Lib.hid ((Below.refl _ _).drew.trans k0); clear k0 C0))
      | ((go_at_call 11; refine (C1.out _ G0.out).mono ?_; rintro e r1 ⟨rfl, k1⟩; have G1 := Lib.hid (G0.out.trans (k1.mono G0.out.size)); clear k1 C1))
      | ((go_at_call 12; refine (C2.out _ G1.out).mono ?_; rintro e r2 ⟨rfl, k2⟩; have G2 := Lib.hid (G1.out.trans (k2.mono G1.out.size)); clear k2 C2))
      | ((go_at_call 13; refine (C3.out _ G2.out).mono ?_; rintro e r3 ⟨rfl, k3⟩; have G3 := Lib.hid (G2.out.trans (k3.mono G2.out.size)); clear k3 C3))
      | ((go_at_call 14; refine (C4.out _ G3.out).mono ?_; rintro e r4 ⟨rfl, k4⟩; have G4 := Lib.hid (G3.out.trans (k4.mono G3.out.size)); clear k4 C4))
      | ((go_at_call 11; refine (C5.out _ G4.out).mono ?_; rintro e r5 ⟨rfl, k5⟩; have G5 := Lib.hid (G4.out.trans (k5.mono G4.out.size)); clear k5 C5))
      | ((go_at_call 11; refine (C6.out _ G5.out).mono ?_; rintro e r6 ⟨rfl, k6⟩; have G6 := Lib.hid (G5.out.trans (k6.mono G5.out.size)); clear k6 C6))
      | ((go_at_call 15; refine (C7.out _ G6.out).mono ?_; rintro e r7 ⟨rfl, k7⟩; have G7 := Lib.hid (G6.out.trans (k7.mono G6.out.size)); clear k7 C7)))
  all_goals
    go_wp2_with fail
    go_ret
    rw [← hw3]
    exact ⟨by simp, BB6.out.trans (G7.out.mono BB6.out.size)⟩
end Go.Proofs.YthlppbpccldikaaDoor
