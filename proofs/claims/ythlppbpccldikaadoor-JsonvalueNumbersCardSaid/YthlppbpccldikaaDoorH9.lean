/-
  Several texts in one file, in build order:
  - Walks of chapter 11, the program: an object's member, over the walk of value. Made by gen_jp11j.py.
  - Walks of chapter 11, the program: value.
-/
import Derived.Test.YthlppbpccldikaaDoorH8
set_option linter.unusedVariables false
set_option linter.unusedSimpArgs false
namespace Go.Proofs.YthlppbpccldikaaDoor
open Go.RowKit

/-- An object under way. -/
structure MeS (b g pc r base : Nat) (a : Int) (w0 : World) (its : List JM) (W : World) : Prop where
  upd : Upd b w0 W
  tab : TabB b W
  row : ∃ IA ic, W.heap[g]? = some (.cells (vC 5 none 0 0 (IA) (its.length) (ic) a) 25 (0, 0)) ∧ ElRow memE W base (fun j => (base ≤ j ∧ j < W.heap.size) ∧ (Value.slice IA its.length ic).ownBlock ≠ some j) (.slice IA its.length ic) its
  ptr : W.heap[pc]? = some (.cells #[.pointer (some ⟨b, 0, none⟩)] 52 (0, 0))
  res : W.heap[r]? = some (.cells (vC 0 none 0 0 none 0 0 0) 25 (0, 0))
  size : base ≤ W.heap.size
/-- One member more. -/
def stepM11 (V : Nat → Except (Nat × Nat) (JM × Nat)) (its : List JM) (n : Nat) : Except (Nat × Nat) (List JM × Nat) :=
  match V n with
  | .error q => .error q
  | .ok (v, e) => .ok (its ++ [v], e)
theorem MeS.next {b g pc r base : Nat} {a : Int} {w0 W W' : World} {its : List JM} (hg : Geo b g pc r w0.heap.size base) (h : MeS b g pc r base a w0 its W) (hu : Upd b W W') : MeS b g pc r base a w0 its W' := by
  obtain ⟨h1, h2, ⟨IA, ic, h3, h4⟩, h5, h6, h7⟩ := h
  have g1 := hg.xb
  have g2 := hg.xg
  have g3 := hg.xp
  have g4 := hg.xr
  refine ⟨h1.trans hu, h2.upd hu, ⟨IA, ic, (hu.block g (by omega) (by omega)).trans h3, (h4.heap memE_ok (fun k hk => hu.block k (h4.lt k hk).2 (by have := h4.lt k hk; omega)) (fun k hk => hu.block k hk.1.2 (by have := hk.1.1; omega))).more memE_ok (fun k hk => ⟨⟨hk.1.1, Nat.lt_of_lt_of_le hk.1.2 hu.size⟩, hk.2⟩)⟩, (hu.block pc (by omega) (by omega)).trans h5, (hu.block r (by omega) (by omega)).trans h6, Nat.le_trans h7 hu.size⟩
/-- What the region leaves. -/
structure MeSPut (g : Nat) (v : Value) (W W9 : World) : Prop where
  os : W9.os = W.os
  tape : W9.tape = W.tape
  output : W9.output = W.output
  size : W.heap.size ≤ W9.heap.size
  block : ∀ k, k < W.heap.size → k ≠ g → v.ownBlock ≠ some k → W9.heap[k]? = W.heap[k]?
theorem MeS.put {b g pc r base : Nat} {a : Int} {w0 W W9 : World} {its : List JM} {IA : Option Addr} {ic g8 c8 : Nat} {v : JM} (hg : Geo b g pc r w0.heap.size base) (h : MeS b g pc r base a w0 its W)
    (hrow : ElRow memE W base (fun j => (base ≤ j ∧ j < W.heap.size) ∧ (Value.slice IA its.length ic).ownBlock ≠ some j) (.slice IA its.length ic) its) (hp : MeSPut g (.slice IA its.length ic) W W9) (hat : (Value.slice IA its.length ic).ownBlock = some g8 ∨ W.heap.size ≤ g8)
    (hbox : W9.heap[g]? = some (.cells (vC 5 none 0 0 (some ⟨g8, 0, none⟩) (its.length + 1) (c8) a) 25 (0, 0))) (h9 : ElRow memE W9 base (fun j => (base ≤ j ∧ j < W.heap.size) ∧ (Value.slice IA its.length ic).ownBlock ≠ some j) (.slice (some ⟨g8, 0, none⟩) (its.length + 1) c8) (its ++ [v])) : MeS b g pc r base a w0 (its ++ [v]) W9 := by
  have g1 := hg.xb
  have g2 := hg.xg
  have g3 := hg.xp
  have g4 := hg.xr
  have hl : (its ++ [v]).length = its.length + 1 := by simp
  have hno : ∀ k, k < base → (Value.slice IA its.length ic).ownBlock ≠ some k := fun k hk e => by have := hrow.lt k e; omega
  have hs := h.size
  have hz := h.upd.size
  have hub : Upd g8 W W → Upd b w0 W9 := fun _ => ⟨hp.os.trans h.upd.os, hp.tape.trans h.upd.tape, hp.output.trans h.upd.output, Nat.le_trans h.upd.size hp.size, fun k hk hb => (hp.block k (by omega) (by omega) (hno k (by omega))).trans (h.upd.block k hk hb)⟩
  have hu := hub (Upd.refl _ _)
  obtain ⟨w1, t1, t2, t3⟩ := h.tab
  refine ⟨hu, ⟨w1, t1, t2, ⟨hp.os.trans t3.os, hp.tape.trans t3.tape, hp.output.trans t3.output, Nat.le_trans t3.size hp.size, fun k hk => (hp.block k (by have := t3.size; omega) (by omega) (hno k (by omega))).trans (t3.block k hk)⟩⟩, ⟨some ⟨g8, 0, none⟩, c8, by rw [hl]; exact hbox, ?_⟩, (hp.block pc (by omega) (Ne.symm hg.gp) (hno pc (by omega))).trans h.ptr, (hp.block r (by omega) (Ne.symm hg.gr) (hno r (by omega))).trans h.res, Nat.le_trans hs hp.size⟩
  rw [hl]
  refine h9.more memE_ok (fun j hj => ⟨⟨hj.1.1, Nat.lt_of_lt_of_le hj.1.2 hp.size⟩, fun e => ?_⟩)
  have e2 : g8 = j := by simpa [Value.ownBlock] using e
  rcases hat with h8 | h8
  · exact hj.2 (by rw [← e2]; exact h8)
  · have := hj.1.2; omega
def zJM : JM := .mk [] zJV 0
theorem memJ_V {l : Bytes} {V : Nat → Except (Nat × Nat) (JV × Nat)} (n : Nat) (ms : List JM) : stepM11 (fun n => memJ l V n ms) ms n = (match memJ l V n ms with | .error q => .error q | .ok (v, e) => .ok (ms ++ [v], e)) := rfl
set_option maxHeartbeats 4000000 in
set_option maxRecDepth 100000 in
theorem mem11_any (b g pc r base : Nat) (l : Bytes) (a : Int) (n : Nat) (d : Int) (its : List JM) (w0 w : World) (V : Nat → Except (Nat × Nat) (JV × Nat)) (hG : Geo b g pc r w0.heap.size base) (hS : MeS b g pc r base a w0 its w) (hP : Psr w b l n d) (hil : its.length ≤ 1000000) (hn : n ≤ l.length) (hl : l.length ≤ 1000000)
    (hV : ∀ a W, n < a → a ≤ l.length → Psr W b l a d → TabB b W → Calls Tryd.prog 25 #[.pointer (some ⟨b, 0, none⟩)] W fun e w' => ValR b l d W w' (V a) e) :
    Calls Tryd.prog 39 #[.pointer (some ⟨g, 0, none⟩), .pointer (some ⟨pc, 0, none⟩)] w fun e w' => ElR (MeS b g pc r base a w0) (fun W => Upd b w0 W) b l d w' (stepM11 (fun n => memJ l V n its) its n) e := by
  have g1 := hG.xb
  have g2 := hG.xg
  have g3 := hG.xp
  have g4 := hG.xr
  have hsz := hS.size
  obtain ⟨IA, ic, hbx, hrow⟩ := hS.row
  have hv : ∀ W, Upd b w.drew W → Psr W b l n d → Calls Tryd.prog 40 #[.pointer (some ⟨b, 0, none⟩), .slice IA its.length ic] W fun e w' => MemR b l d W w' (memJ l V n its) e := fun W hW hPW => member11_any b l n d its IA ic (fun j => base ≤ j ∧ j < w.heap.size) W V hPW ((hS.tab.upd ⟨rfl, rfl, rfl, Nat.le_refl _, fun _ _ _ => rfl⟩ : TabB b w.drew).upd hW) hn hl ((hrow.elsP memE_ok (p' := fun j => base ≤ j ∧ j < w.heap.size) (fun k hk => hk.1) (fun k hk => hrow.lt k hk)).keep memE_ok (fun k hk => hW.block k hk.2 (by have := hk.1; omega)) (fun _ h => h)) (fun k hk => Nat.lt_of_lt_of_le hk.2 hW.size) (fun h => by have := h.1; omega) (by omega) hV
  have hSd : MeS b g pc r base a w0 its w.drew := hS.next hG ⟨rfl, rfl, rfl, Nat.le_refl _, fun _ _ _ => rfl⟩
  have hPd : Psr w.drew b l n d := hP
  have hrd : ElRow memE w.drew base (fun j => (base ≤ j ∧ j < w.drew.heap.size) ∧ (Value.slice IA its.length ic).ownBlock ≠ some j) (.slice IA its.length ic) its := hrow.heap memE_ok (fun _ _ => rfl) (fun _ _ => rfl)
  have hbd : w.drew.heap[g]? = some (.cells (vC 5 none 0 0 (IA) (its.length) (ic) a) 25 (0, 0)) := hbx
  have hzd : base ≤ w.drew.heap.size := hsz
  have hud : Upd b w0 w.drew := hSd.upd
  clear hbx hrow hS hP hsz
  obtain ⟨WD, hWD⟩ : ∃ WD, w.drew = WD := ⟨_, rfl⟩
  rw [hWD] at hSd hPd hrd hbd hzd hud hv
  have HWD := Lib.hid hWD
  have hcell : ∀ W, Upd b WD W → W.cell? ⟨g, 5, none⟩ = some (.slice IA its.length ic) ∧ W.cell? ⟨pc, 0, none⟩ = some (.pointer (some ⟨b, 0, none⟩)) := fun W hW => ⟨by rw [Lib.cell_of_heap ((hW.block g (by omega) (by omega)).trans hbd)]; rfl, by rw [Lib.cell_of_heap ((hW.block pc (by omega) (by omega)).trans hSd.ptr)]; rfl⟩
  have hC0 := hcell WD (Upd.refl _ _)
  have hrN : ∀ W, Upd b WD W → ElRow memE W base (fun j => (base ≤ j ∧ j < W.heap.size) ∧ (Value.slice IA its.length ic).ownBlock ≠ some j) (.slice IA its.length ic) its ∧ W.heap[g]? = some (.cells (vC 5 none 0 0 (IA) (its.length) (ic) a) 25 (0, 0)) := fun W hW => ⟨(hrd.heap memE_ok (fun k hk => hW.block k (hrd.lt k hk).2 (by have := hrd.lt k hk; omega)) (fun k hk => hW.block k hk.1.2 (by have := hk.1.1; omega))).more memE_ok (fun k hk => ⟨⟨hk.1.1, Nat.lt_of_lt_of_le hk.1.2 hW.size⟩, hk.2⟩), (hW.block g (by omega) (by omega)).trans hbd⟩
  have hlt : ∀ k, (Value.slice IA its.length ic).ownBlock = some k → k < WD.heap.size := fun k hk => (hrd.lt k hk).2
  have HS := Lib.hid hSd
  have HP := Lib.hid hPd
  have HCL := Lib.hid hcell
  have HRN := Lib.hid hrN
  have HLT := Lib.hid hlt
  have HUD := Lib.hid hud
  have HV := Lib.hid hv
  rw [memJ_V n its]
  clear hSd hPd hrd hbd hcell hrN hlt hud hv hV
  have hzb : (WD.alloc (.cells (memC ByteArray.empty (.int .i64 0) (.bool false) (.int .i64 0) (.string ByteArray.empty) (.slice none 0 0) (.slice none 0 0) (.int .i64 0) 0) 45)).heap.size = WD.heap.size + 1 := by simp
  have hub : Upd b WD (WD.alloc (.cells (memC ByteArray.empty (.int .i64 0) (.bool false) (.int .i64 0) (.string ByteArray.empty) (.slice none 0 0) (.slice none 0 0) (.int .i64 0) 0) 45)) := (Upd.refl _ _).alloc _
  have HUB := Lib.hid hub
  clear hub
  cases hvn : memJ l V n its with
  | error q =>
    have hve := HV.out
    rw [hvn] at hve
    have HVE := Lib.hid hve
    clear hve hvn HV
    go_enter Tryd.func39, Tryd.ntmps39
    go_wp2_with fail
    refine regM_start (n := 8) (S := fun x => x.cell? ⟨g, 5, none⟩ = some (.slice IA its.length ic) ∧ x.cell? ⟨pc, 0, none⟩ = some (.pointer (some ⟨b, 0, none⟩))) (by kernel_rfl) ?_
    rw [HWD.out]
    change wpAnyT _ _ _ _ _ _ 13 #[false, false, false, false, false, false, false, false, false, false, false, false, false] _ _
    refine regM_take (i := 0) (oi := ⟨some 2, _, _, _, _, _⟩) (v := ?_) rfl (by kernel_rfl) (by kernel_rfl) (by decide) (by kernel_rfl) (by kernel_rfl) (fun _ _ _ h => h) (Or.inl ⟨by rfl, ?_⟩) hC0 ?_
    rotate_left
    · intro x hx
      obtain ⟨hxa, hxb⟩ := hx
      (go_simp; try with_reducible rfl)
    simp only [Act.put, List.setIfInBounds_toArray, List.set_cons_zero, List.set_cons_succ]
    change wpAnyT _ _ _ _ _ _ 12 #[true, false, false, false, false, false, false, false, false, false, false, false, false] _ _
    refine regM_take (i := 2) (oi := ⟨some 4, _, _, _, _, _⟩) (v := ?_) rfl (by kernel_rfl) (by kernel_rfl) (by decide) (by kernel_rfl) (by kernel_rfl) (fun _ _ _ h => h) (Or.inl ⟨by rfl, ?_⟩) hC0 ?_
    rotate_left
    · intro x hx
      obtain ⟨hxa, hxb⟩ := hx
      (go_simp; try with_reducible rfl)
    simp only [Act.put, List.setIfInBounds_toArray, List.set_cons_zero, List.set_cons_succ]
    change wpAnyT _ _ _ _ _ _ 11 #[true, false, true, false, false, false, false, false, false, false, false, false, false] _ _
    refine regM_take (i := 1) (oi := ⟨some 3, _, _, _, _, _⟩) (v := ?_) rfl (by kernel_rfl) (by kernel_rfl) (by decide) (by kernel_rfl) (by kernel_rfl) (fun _ _ _ h => h) (Or.inl ⟨by rfl, ?_⟩) hC0 ?_
    rotate_left
    · intro x hx
      obtain ⟨hxa, hxb⟩ := hx
      (go_simp; try with_reducible rfl)
    simp only [Act.put, List.setIfInBounds_toArray, List.set_cons_zero, List.set_cons_succ]
    change wpAnyT _ _ _ _ _ _ 10 #[true, true, true, false, false, false, false, false, false, false, false, false, false] _ _
    refine regM_take (i := 3) (oi := ⟨some 5, _, _, _, _, _⟩) (v := ?_) rfl (by kernel_rfl) (by kernel_rfl) (by decide) (by kernel_rfl) (by kernel_rfl) (fun _ _ _ h => h) (Or.inl ⟨by rfl, ?_⟩) hC0 ?_
    rotate_left
    · intro x hx
      obtain ⟨hxa, hxb⟩ := hx
      (go_simp; try with_reducible rfl)
    simp only [Act.put, List.setIfInBounds_toArray, List.set_cons_zero, List.set_cons_succ]
    change wpAnyT _ _ _ _ _ _ 9 #[true, true, true, true, false, false, false, false, false, false, false, false, false] _ _
    refine regM_take (i := 4) (oi := ⟨some 6, _, _, _, _, _⟩) (v := ?_) rfl (by kernel_rfl) (by kernel_rfl) (by decide) (by kernel_rfl) (by kernel_rfl) (fun _ _ _ h => h) (Or.inl ⟨by rfl, ?_⟩) hC0 ?_
    rotate_left
    · intro x hx
      obtain ⟨hxa, hxb⟩ := hx
      (go_simp; try with_reducible rfl)
    simp only [Act.put, List.setIfInBounds_toArray, List.set_cons_zero, List.set_cons_succ]
    change wpAnyT _ _ _ _ _ _ 8 #[true, true, true, true, true, false, false, false, false, false, false, false, false] _ _
    refine regM_take (i := 6) (oi := ⟨some 8, _, _, _, _, _⟩) (v := ?_) rfl (by kernel_rfl) (by kernel_rfl) (by decide) (by kernel_rfl) (by kernel_rfl) (fun _ _ _ h => h) (Or.inl ⟨by rfl, ?_⟩) hC0 ?_
    rotate_left
    · intro x hx
      obtain ⟨hxa, hxb⟩ := hx
      (go_simp; try with_reducible rfl)
    simp only [Act.put, List.setIfInBounds_toArray, List.set_cons_zero, List.set_cons_succ]
    change wpAnyT _ _ _ _ _ _ 7 #[true, true, true, true, true, false, true, false, false, false, false, false, false] _ _
    refine regM_all (rs := [5, 7]) (by kernel_rfl) (by simp) ?_
    intro i hi
    rcases (by simpa using hi : i = 5 ∨ i = 7) with rfl | rfl
    · refine regT_op (o := ⟨some 7, _, _, _, _, _⟩) rfl (fun K hK => ?_)
      go_simp
      refine (HVE.out _ (Upd.refl _ _) HP.out).mono ?_
      rintro e W2 ⟨hu2, rfl⟩
      go_wp2_with fail
      simp only [bodyPost, true_and]
      exact ⟨HUD.out.trans hu2, rfl⟩
    · refine regT_op (o := ⟨some 9, _, _, _, _, _⟩) rfl (fun K hK => ?_)
      go_simp
      have hU := HUB.out
      refine hK.out _ _ ⟨HCL.out _ hU, ?_⟩
      clear hK K
      simp only [Act.put, List.setIfInBounds_toArray, List.set_cons_zero, List.set_cons_succ]
      change wpAnyT _ _ _ _ _ _ 6 #[true, true, true, true, true, false, true, true, false, false, false, false, false] _ _
      refine regM_all (rs := [5]) (by kernel_rfl) (by simp) ?_
      intro i hi
      obtain rfl : i = 5 := by simpa using hi
      refine regT_op (o := ⟨some 7, _, _, _, _, _⟩) rfl (fun K hK => ?_)
      go_simp
      refine (HVE.out _ HUB.out (HP.out.below ((Below.refl _ _).alloc (Nat.le_refl _) _))).mono ?_
      rintro e W2 ⟨hu2, rfl⟩
      go_wp2_with fail
      simp only [bodyPost, true_and]
      exact ⟨HUD.out.trans (HUB.out.trans hu2), rfl⟩
  | ok ve =>
    obtain ⟨v, e1⟩ := ve
    have hve := HV.out
    rw [hvn] at hve
    have HVE := Lib.hid hve
    clear hve hvn HV
    go_enter Tryd.func39, Tryd.ntmps39
    go_wp2_with fail
    refine regM_start (n := 8) (S := fun x => x.cell? ⟨g, 5, none⟩ = some (.slice IA its.length ic) ∧ x.cell? ⟨pc, 0, none⟩ = some (.pointer (some ⟨b, 0, none⟩))) (by kernel_rfl) ?_
    rw [HWD.out]
    change wpAnyT _ _ _ _ _ _ 13 #[false, false, false, false, false, false, false, false, false, false, false, false, false] _ _
    refine regM_take (i := 0) (oi := ⟨some 2, _, _, _, _, _⟩) (v := ?_) rfl (by kernel_rfl) (by kernel_rfl) (by decide) (by kernel_rfl) (by kernel_rfl) (fun _ _ _ h => h) (Or.inl ⟨by rfl, ?_⟩) hC0 ?_
    rotate_left
    · intro x hx
      obtain ⟨hxa, hxb⟩ := hx
      (go_simp; try with_reducible rfl)
    simp only [Act.put, List.setIfInBounds_toArray, List.set_cons_zero, List.set_cons_succ]
    change wpAnyT _ _ _ _ _ _ 12 #[true, false, false, false, false, false, false, false, false, false, false, false, false] _ _
    refine regM_take (i := 2) (oi := ⟨some 4, _, _, _, _, _⟩) (v := ?_) rfl (by kernel_rfl) (by kernel_rfl) (by decide) (by kernel_rfl) (by kernel_rfl) (fun _ _ _ h => h) (Or.inl ⟨by rfl, ?_⟩) hC0 ?_
    rotate_left
    · intro x hx
      obtain ⟨hxa, hxb⟩ := hx
      (go_simp; try with_reducible rfl)
    simp only [Act.put, List.setIfInBounds_toArray, List.set_cons_zero, List.set_cons_succ]
    change wpAnyT _ _ _ _ _ _ 11 #[true, false, true, false, false, false, false, false, false, false, false, false, false] _ _
    refine regM_take (i := 1) (oi := ⟨some 3, _, _, _, _, _⟩) (v := ?_) rfl (by kernel_rfl) (by kernel_rfl) (by decide) (by kernel_rfl) (by kernel_rfl) (fun _ _ _ h => h) (Or.inl ⟨by rfl, ?_⟩) hC0 ?_
    rotate_left
    · intro x hx
      obtain ⟨hxa, hxb⟩ := hx
      (go_simp; try with_reducible rfl)
    simp only [Act.put, List.setIfInBounds_toArray, List.set_cons_zero, List.set_cons_succ]
    change wpAnyT _ _ _ _ _ _ 10 #[true, true, true, false, false, false, false, false, false, false, false, false, false] _ _
    refine regM_take (i := 3) (oi := ⟨some 5, _, _, _, _, _⟩) (v := ?_) rfl (by kernel_rfl) (by kernel_rfl) (by decide) (by kernel_rfl) (by kernel_rfl) (fun _ _ _ h => h) (Or.inl ⟨by rfl, ?_⟩) hC0 ?_
    rotate_left
    · intro x hx
      obtain ⟨hxa, hxb⟩ := hx
      (go_simp; try with_reducible rfl)
    simp only [Act.put, List.setIfInBounds_toArray, List.set_cons_zero, List.set_cons_succ]
    change wpAnyT _ _ _ _ _ _ 9 #[true, true, true, true, false, false, false, false, false, false, false, false, false] _ _
    refine regM_take (i := 4) (oi := ⟨some 6, _, _, _, _, _⟩) (v := ?_) rfl (by kernel_rfl) (by kernel_rfl) (by decide) (by kernel_rfl) (by kernel_rfl) (fun _ _ _ h => h) (Or.inl ⟨by rfl, ?_⟩) hC0 ?_
    rotate_left
    · intro x hx
      obtain ⟨hxa, hxb⟩ := hx
      (go_simp; try with_reducible rfl)
    simp only [Act.put, List.setIfInBounds_toArray, List.set_cons_zero, List.set_cons_succ]
    change wpAnyT _ _ _ _ _ _ 8 #[true, true, true, true, true, false, false, false, false, false, false, false, false] _ _
    refine regM_take (i := 6) (oi := ⟨some 8, _, _, _, _, _⟩) (v := ?_) rfl (by kernel_rfl) (by kernel_rfl) (by decide) (by kernel_rfl) (by kernel_rfl) (fun _ _ _ h => h) (Or.inl ⟨by rfl, ?_⟩) hC0 ?_
    rotate_left
    · intro x hx
      obtain ⟨hxa, hxb⟩ := hx
      (go_simp; try with_reducible rfl)
    simp only [Act.put, List.setIfInBounds_toArray, List.set_cons_zero, List.set_cons_succ]
    change wpAnyT _ _ _ _ _ _ 7 #[true, true, true, true, true, false, true, false, false, false, false, false, false] _ _
    refine regM_all (rs := [5, 7]) (by kernel_rfl) (by simp) ?_
    intro i hi
    rcases (by simpa using hi : i = 5 ∨ i = 7) with rfl | rfl
    · refine regT_op (o := ⟨some 7, _, _, _, _, _⟩) rfl (fun K hK => ?_)
      go_simp
      refine (HVE.out _ (Upd.refl _ _) HP.out).mono ?_
      rintro e W2 ⟨hu2, ⟨cs, rfl, hv2⟩, hp2⟩
      obtain ⟨IB, ib, MB, mb, hcs⟩ := hv2.cells
      subst hcs
      have hU := hu2
      refine hK.out _ _ ⟨HCL.out _ hU, ?_⟩
      clear hK K
      simp only [Act.put, List.setIfInBounds_toArray, List.set_cons_zero, List.set_cons_succ]
      change wpAnyT _ _ _ _ _ _ 6 #[true, true, true, true, true, true, true, false, false, false, false, false, false] _ _
      refine regM_all (rs := [7]) (by kernel_rfl) (by simp) ?_
      intro i hi
      obtain rfl : i = 7 := by simpa using hi
      refine regT_op (o := ⟨some 9, _, _, _, _, _⟩) rfl (fun K hK => ?_)
      go_simp
      have hU := hu2.alloc (.cells (memC ByteArray.empty (.int .i64 0) (.bool false) (.int .i64 0) (.string ByteArray.empty) (.slice none 0 0) (.slice none 0 0) (.int .i64 0) 0) 45)
      refine hK.out _ _ ⟨HCL.out _ hU, ?_⟩
      clear hK K
      simp only [Act.put, List.setIfInBounds_toArray, List.set_cons_zero, List.set_cons_succ]
      change wpAnyT _ _ _ _ _ _ 5 #[true, true, true, true, true, true, true, true, false, false, false, false, false] _ (W2.alloc (.cells (memC ByteArray.empty (.int .i64 0) (.bool false) (.int .i64 0) (.string ByteArray.empty) (.slice none 0 0) (.slice none 0 0) (.int .i64 0) 0) 45))
      have hH := heap_alloc_new W2 (.cells (memC ByteArray.empty (.int .i64 0) (.bool false) (.int .i64 0) (.string ByteArray.empty) (.slice none 0 0) (.slice none 0 0) (.int .i64 0) 0) 45)
      have hUW : Upd b WD (W2.alloc (.cells (memC ByteArray.empty (.int .i64 0) (.bool false) (.int .i64 0) (.string ByteArray.empty) (.slice none 0 0) (.slice none 0 0) (.int .i64 0) 0) 45)) := hU
      have hz2 := hu2.size
      have hHr : base ≤ W2.heap.size := by omega
      have hHo : (Value.slice IA its.length ic).ownBlock ≠ some W2.heap.size := fun e => by have := HLT.out _ e; omega
      have hvW : memE.El (W2.alloc (.cells (memC ByteArray.empty (.int .i64 0) (.bool false) (.int .i64 0) (.string ByteArray.empty) (.slice none 0 0) (.slice none 0 0) (.int .i64 0) 0) 45)) (fun j => (base ≤ j ∧ j < (W2.alloc (.cells (memC ByteArray.empty (.int .i64 0) (.bool false) (.int .i64 0) (.string ByteArray.empty) (.slice none 0 0) (.slice none 0 0) (.int .i64 0) 0) 45)).heap.size) ∧ (Value.slice IA its.length ic).ownBlock ≠ some j) v [.string (S v.key), .int .i64 v.val.kind, .bool v.val.b, .int .i64 v.val.n, .string (S v.val.s), .slice IB v.val.items.length ib, .slice MB v.val.mems.length mb, .int .i64 v.val.pos, .int .i64 v.pos] := MemP.keep (fun k hk => Below.heap_alloc W2 _ k hk.2) (fun k hk => ⟨⟨by have := hk.1; omega, by have := hk.2; simp; omega⟩, fun e => by have := HLT.out _ e; have := hk.1; omega⟩) hv2
      have hpW : Psr (W2.alloc (.cells (memC ByteArray.empty (.int .i64 0) (.bool false) (.int .i64 0) (.string ByteArray.empty) (.slice none 0 0) (.slice none 0 0) (.int .i64 0) 0) 45)) b l e1 d := hp2.below ((Below.refl _ _).alloc (Nat.le_refl _) _)
      clear hv2 hp2 hu2 hU
      generalize W2.heap.size = H at *
      generalize (W2.alloc (.cells (memC ByteArray.empty (.int .i64 0) (.bool false) (.int .i64 0) (.string ByteArray.empty) (.slice none 0 0) (.slice none 0 0) (.int .i64 0) 0) 45)) = W at *
      obtain ⟨hrW, hbW⟩ := HRN.out W hUW
      have hSW := HS.out.next hG hUW
      have hbs := hSW.size
      have HSW := Lib.hid hSW
      have HRW := Lib.hid hrW
      have HBW := Lib.hid hbW
      have HVW := Lib.hid hvW
      have HPW := Lib.hid hpW
      have hone := one_elsP (E := memE) (T := 45) (p := (fun j => (base ≤ j ∧ j < W.heap.size) ∧ (Value.slice IA its.length ic).ownBlock ≠ some j)) (t := zJM) hH ⟨⟨hHr, heap_lt hH⟩, hHo⟩ (⟨_, ValP.of_open (n := zJV) (ElsP.nil _ _ _) (ElsP.nil _ _ _), rfl⟩)
      have HONE := Lib.hid hone
      clear hrW hbW hSW hvW hpW hone hH
      refine regM_mid (by kernel_rfl) (fun i hi => ?_) ?_
      · match i, hi with
        | 0, _ => rfl
        | 1, _ => rfl
        | 2, _ => rfl
        | 3, _ => rfl
        | 4, _ => rfl
        | 5, _ => rfl
        | 6, _ => rfl
        | 7, _ => rfl
      refine regT_op (o := ⟨some 10, _, _, _, _, _⟩) rfl (fun K hK => ?_)
      refine els_append_old_step memE_ok (by rfl) (.tmp 3) (.tmp 9) (by rfl) W base _ (.slice IA its.length ic) its (by rfl) HRW.out zJM _ _ (by rfl) HONE.out (fun _ h => h.2) (fun _ h => h.1.2) hbs (by omega) ?_
      intro g8 c8 W8 hat hlt8 hrow8 hgr8 hb8
      refine hK.out _ _ ?_
      clear hK K
      simp only [Act.put, List.setIfInBounds_toArray, List.set_cons_zero, List.set_cons_succ]
      change wpAny _ _ _ _ 4 #[true, true, true, true, true, true, true, true, true, false, false, false, false] _ _
      have hg8 : g8 ≠ g := fun e => by have := hrow8.lt g8 rfl; omega
      have hk8 : ∀ k, k < W.heap.size → (Value.slice IA its.length ic).ownBlock ≠ some k → W8.heap[k]? = W.heap[k]? := fun k h1 h2 => hgr8.grown.block k h1 (fun e => h2 e.symm)
      have hz8 : W.heap.size ≤ W8.heap.size := hgr8.grown.size
      have hbox8 := (hb8.block g (by omega)).trans HBW.out
      have hpg : ∀ k, ((base ≤ k ∧ k < W.heap.size) ∧ (Value.slice IA its.length ic).ownBlock ≠ some k) → k ≠ g8 := fun k hk e => by
        rcases hat with h | h
        · exact hk.2 (by rw [e]; exact h)
        · have := hk.1.2; omega
      have hv8 : memE.El W8 (fun j => (base ≤ j ∧ j < W.heap.size) ∧ (Value.slice IA its.length ic).ownBlock ≠ some j) v [.string (S v.key), .int .i64 v.val.kind, .bool v.val.b, .int .i64 v.val.n, .string (S v.val.s), .slice IB v.val.items.length ib, .slice MB v.val.mems.length mb, .int .i64 v.val.pos, .int .i64 v.pos] := MemP.keep (fun k hk => hk8 k hk.1.2 hk.2) (fun _ h => h) HVW.out
      have hiN : (its.length : Int) < (its.length : Int) + 1 := by omega
      have hset : (its ++ [zJM]).set its.length v = its ++ [v] := by simp
      have x8f := Lib.frozen_of_heap hbox8 5
      have x8c : W8.cell? ⟨g, 5, none⟩ = some (.slice IA its.length ic) := by rw [Lib.cell_of_heap hbox8]; rfl
      have HROW8 := Lib.hid hrow8
      have HK8 := Lib.hid hk8
      have HBOX8 := Lib.hid hbox8
      have HPG := Lib.hid hpg
      have HV8 := Lib.hid hv8
      have HAT := Lib.hid hat
      have HG8 := Lib.hid hgr8
      clear hrow8 hk8 hbox8 hpg hv8 hat hgr8 hb8
      refine wpAny_take (i := 9) (oi := ⟨some 11, _, _, _, _, _⟩) (v := ?_) rfl (by kernel_rfl) (by kernel_rfl) (by kernel_rfl) (fun _ _ _ h => h) (.inl ⟨by rfl, ?_⟩) ?_
      rotate_left
      · intro x
        (go_simp; try with_reducible rfl)
      simp only [Act.put, List.setIfInBounds_toArray, List.set_cons_zero, List.set_cons_succ]
      change wpAny _ _ _ _ _ #[true, true, true, true, true, true, true, true, true, true, false, false, false] _ _
      refine wpAny_take (i := 11) (oi := ⟨some 12, _, _, _, _, _⟩) (v := ?_) rfl (by kernel_rfl) (by kernel_rfl) (by kernel_rfl) (fun _ _ _ h => h) (.inl ⟨by rfl, ?_⟩) ?_
      rotate_left
      · intro x
        (go_simp; try with_reducible rfl)
      simp only [Act.put, List.setIfInBounds_toArray, List.set_cons_zero, List.set_cons_succ]
      change wpAny _ _ _ _ _ #[true, true, true, true, true, true, true, true, true, true, false, true, false] _ _
      refine wpAny_all (rs := [10, 12]) (by kernel_rfl) (by simp) ?_
      intro i hi
      rcases (by simpa using hi : i = 10 ∨ i = 12) with rfl | rfl
      · refine regT_op (o := ⟨none, _, _, _, _, _⟩) rfl (fun K hK => ?_)
        refine step_el_store memE_ok (by rfl) (.tmp 11) (.tmp 7) (by rfl) W8 base _ g8 (its.length + 1) c8 _ HROW8.out its.length (by simp) v _ HV8.out HPG.out (by rfl) (by rfl) ?_
        intro W9 hrow9 hu9 hz9
        rw [hset] at hrow9
        refine hK.out _ _ ?_
        clear hK K
        simp only [Act.put, List.setIfInBounds_toArray, List.set_cons_zero, List.set_cons_succ]
        change wpAny _ _ _ _ _ #[true, true, true, true, true, true, true, true, true, true, true, true, false] _ _
        have hbox9 := (hu9.block g (heap_lt HBOX8.out) (Ne.symm hg8)).trans HBOX8.out
        have x9f := Lib.frozen_of_heap hbox9 5
        have x9c : W9.cell? ⟨g, 5, none⟩ = some (.slice IA its.length ic) := by rw [Lib.cell_of_heap hbox9]; rfl
        refine wpAny_all (rs := [12]) (by kernel_rfl) (by simp) ?_
        intro i hi
        obtain rfl : i = 12 := by simpa using hi
        refine regT_op (o := ⟨none, _, _, _, _, _⟩) rfl (fun K hK => ?_)
        go_simp
        refine hK.out _ _ (wpAny_done (by kernel_rfl) ?_ _)
        clear hK K
        have hbox10 : (W9.setCell ⟨g, 5, none⟩ (.slice (some ⟨g8, 0, none⟩) (its.length + 1) c8)).heap[g]? = some (.cells (vC 5 none 0 0 (some ⟨g8, 0, none⟩) (its.length + 1) (c8) a) 25 (0, 0)) := heap_set (i := 5) hbox9 _
        have hu10 := Upd.set_ g 5 W9 (.slice (some ⟨g8, 0, none⟩) (its.length + 1) c8)
        have hrow10 := hrow9.heap (w' := W9.setCell ⟨g, 5, none⟩ (.slice (some ⟨g8, 0, none⟩) (its.length + 1) c8)) memE_ok (fun k hk => Below.heap_setCell _ _ _ _ (show k ≠ g from fun e => by have := hrow9.lt k hk; omega)) (fun k hk => Below.heap_setCell _ _ _ _ (show k ≠ g from fun e => by have := hk.1.1; omega))
        have hz10 : (W9.setCell ⟨g, 5, none⟩ (.slice (some ⟨g8, 0, none⟩) (its.length + 1) c8)).heap.size = W9.heap.size := by simp [World.setCell]
        have hkeep : ∀ k, k < W8.heap.size → k ≠ g → k ≠ g8 → (W9.setCell ⟨g, 5, none⟩ (.slice (some ⟨g8, 0, none⟩) (its.length + 1) c8)).heap[k]? = W8.heap[k]? := fun k h1 h2 h3 => (Below.heap_setCell _ _ _ _ h2).trans (hu9.block k h1 h3)
        have huW : Same3 W8 (W9.setCell ⟨g, 5, none⟩ (.slice (some ⟨g8, 0, none⟩) (its.length + 1) c8)) := ⟨hu9.os, hu9.tape, hu9.output, by rw [hz10, hz9]; omega⟩
        generalize (W9.setCell ⟨g, 5, none⟩ (.slice (some ⟨g8, 0, none⟩) (its.length + 1) c8)) = W10 at *
        clear hrow9 hbox9 hu9 hu10 x9f x9c
        have hput : MeSPut g (.slice IA its.length ic) W W10 := ⟨huW.os.trans HG8.out.grown.os, huW.tape.trans HG8.out.grown.tape, huW.output.trans HG8.out.grown.output, by have := huW.size; omega, fun k h1 h2 h3 => (hkeep k (by omega) h2 (fun e => by rcases HAT.out with h | h; exact h3 (by rw [e]; exact h); omega)).trans (HK8.out k h1 h3)⟩
        have hput2 := HSW.out.put hG HRW.out hput HAT.out hbox10 hrow10
        have hps : Psr W10 b l e1 d := (hput.block b HPW.out.lt (by omega) (fun e => by have := HRW.out.lt b e; omega)).trans HPW.out
        clear HS HCL HRN
        go_wp2_with fail
        go_end0
        exact ⟨rfl, hput2, hps⟩
      · refine regT_op (o := ⟨none, _, _, _, _, _⟩) rfl (fun K hK => ?_)
        go_simp
        refine hK.out _ _ ?_
        clear hK K
        try simp only [Act.put, List.setIfInBounds_toArray, List.set_cons_zero, List.set_cons_succ]
        change wpAny _ _ _ _ _ #[true, true, true, true, true, true, true, true, true, true, false, true, true] _ _
        have hbox9 : (W8.setCell ⟨g, 5, none⟩ (.slice (some ⟨g8, 0, none⟩) (its.length + 1) c8)).heap[g]? = some (.cells (vC 5 none 0 0 (some ⟨g8, 0, none⟩) (its.length + 1) (c8) a) 25 (0, 0)) := heap_set (i := 5) HBOX8.out _
        have hrow9 := HROW8.out.heap (w' := W8.setCell ⟨g, 5, none⟩ (.slice (some ⟨g8, 0, none⟩) (its.length + 1) c8)) memE_ok (fun k hk => Below.heap_setCell _ _ _ _ (show k ≠ g from fun e => by have := HROW8.out.lt k hk; omega)) (fun k hk => Below.heap_setCell _ _ _ _ (show k ≠ g from fun e => by have := hk.1.1; omega))
        have hv9 : memE.El (W8.setCell ⟨g, 5, none⟩ (.slice (some ⟨g8, 0, none⟩) (its.length + 1) c8)) (fun j => (base ≤ j ∧ j < W.heap.size) ∧ (Value.slice IA its.length ic).ownBlock ≠ some j) v [.string (S v.key), .int .i64 v.val.kind, .bool v.val.b, .int .i64 v.val.n, .string (S v.val.s), .slice IB v.val.items.length ib, .slice MB v.val.mems.length mb, .int .i64 v.val.pos, .int .i64 v.pos] := MemP.keep (fun k hk => Below.heap_setCell _ _ _ _ (show k ≠ g from fun e => by have := hk.1.1; omega)) (fun _ h => h) HV8.out
        have hz9 : (W8.setCell ⟨g, 5, none⟩ (.slice (some ⟨g8, 0, none⟩) (its.length + 1) c8)).heap.size = W8.heap.size := by simp [World.setCell]
        have hu9 := Upd.set_ g 5 W8 (.slice (some ⟨g8, 0, none⟩) (its.length + 1) c8)
        generalize (W8.setCell ⟨g, 5, none⟩ (.slice (some ⟨g8, 0, none⟩) (its.length + 1) c8)) = W9 at *
        refine wpAny_all (rs := [10]) (by kernel_rfl) (by simp) ?_
        intro i hi
        obtain rfl : i = 10 := by simpa using hi
        refine regT_op (o := ⟨none, _, _, _, _, _⟩) rfl (fun K hK => ?_)
        refine step_el_store memE_ok (by rfl) (.tmp 11) (.tmp 7) (by rfl) W9 base _ g8 (its.length + 1) c8 _ hrow9 its.length (by simp) v _ hv9 HPG.out (by rfl) (by rfl) ?_
        intro W10 hrow10 hu10 hz10
        rw [hset] at hrow10
        refine hK.out _ _ (wpAny_done (by kernel_rfl) ?_ _)
        clear hK K
        have hbox10 := (hu10.block g (heap_lt hbox9) (Ne.symm hg8)).trans hbox9
        have hkeep : ∀ k, k < W8.heap.size → k ≠ g → k ≠ g8 → W10.heap[k]? = W8.heap[k]? := fun k h1 h2 h3 => (hu10.block k (by omega) h3).trans (hu9.block k h1 h2)
        have huW : Same3 W8 W10 := ⟨hu10.os.trans hu9.os, hu10.tape.trans hu9.tape, hu10.output.trans hu9.output, by omega⟩
        clear hrow9 hbox9 hu9 hu10 hv9
        have hput : MeSPut g (.slice IA its.length ic) W W10 := ⟨huW.os.trans HG8.out.grown.os, huW.tape.trans HG8.out.grown.tape, huW.output.trans HG8.out.grown.output, by have := huW.size; omega, fun k h1 h2 h3 => (hkeep k (by omega) h2 (fun e => by rcases HAT.out with h | h; exact h3 (by rw [e]; exact h); omega)).trans (HK8.out k h1 h3)⟩
        have hput2 := HSW.out.put hG HRW.out hput HAT.out hbox10 hrow10
        have hps : Psr W10 b l e1 d := (hput.block b HPW.out.lt (by omega) (fun e => by have := HRW.out.lt b e; omega)).trans HPW.out
        clear HS HCL HRN
        go_wp2_with fail
        go_end0
        exact ⟨rfl, hput2, hps⟩
    · refine regT_op (o := ⟨some 9, _, _, _, _, _⟩) rfl (fun K hK => ?_)
      go_simp
      have hU := HUB.out
      refine hK.out _ _ ⟨HCL.out _ hU, ?_⟩
      clear hK K
      simp only [Act.put, List.setIfInBounds_toArray, List.set_cons_zero, List.set_cons_succ]
      change wpAnyT _ _ _ _ _ _ 6 #[true, true, true, true, true, false, true, true, false, false, false, false, false] _ (WD.alloc (.cells (memC ByteArray.empty (.int .i64 0) (.bool false) (.int .i64 0) (.string ByteArray.empty) (.slice none 0 0) (.slice none 0 0) (.int .i64 0) 0) 45))
      have hH0 := heap_alloc_new WD (.cells (memC ByteArray.empty (.int .i64 0) (.bool false) (.int .i64 0) (.string ByteArray.empty) (.slice none 0 0) (.slice none 0 0) (.int .i64 0) 0) 45)
      have hP0 := HP.out.below ((Below.refl _ _).alloc (Nat.le_refl _) (.cells (memC ByteArray.empty (.int .i64 0) (.bool false) (.int .i64 0) (.string ByteArray.empty) (.slice none 0 0) (.slice none 0 0) (.int .i64 0) 0) 45))
      have hUB := HUB.out
      generalize (WD.alloc (.cells (memC ByteArray.empty (.int .i64 0) (.bool false) (.int .i64 0) (.string ByteArray.empty) (.slice none 0 0) (.slice none 0 0) (.int .i64 0) 0) 45)) = WB at *
      refine regM_all (rs := [5]) (by kernel_rfl) (by simp) ?_
      intro i hi
      obtain rfl : i = 5 := by simpa using hi
      refine regT_op (o := ⟨some 7, _, _, _, _, _⟩) rfl (fun K hK => ?_)
      go_simp
      refine (HVE.out _ hUB hP0).mono ?_
      rintro e W ⟨hu2, ⟨cs, rfl, hv2⟩, hp2⟩
      obtain ⟨IB, ib, MB, mb, hcs⟩ := hv2.cells
      subst hcs
      have hU := hUB.trans hu2
      refine hK.out _ _ ⟨HCL.out _ hU, ?_⟩
      clear hK K
      simp only [Act.put, List.setIfInBounds_toArray, List.set_cons_zero, List.set_cons_succ]
      change wpAnyT _ _ _ _ _ _ 5 #[true, true, true, true, true, true, true, true, false, false, false, false, false] _ W
      have hUW : Upd b WD W := hU
      have hz2 := hu2.size
      have hH := (hu2.block WD.heap.size (by omega) (by have := HP.out.lt; omega)).trans hH0
      have hHr : base ≤ WD.heap.size := hzd
      have hHo : (Value.slice IA its.length ic).ownBlock ≠ some WD.heap.size := fun e => by have := HLT.out _ e; omega
      have hvW : memE.El W (fun j => (base ≤ j ∧ j < W.heap.size) ∧ (Value.slice IA its.length ic).ownBlock ≠ some j) v [.string (S v.key), .int .i64 v.val.kind, .bool v.val.b, .int .i64 v.val.n, .string (S v.val.s), .slice IB v.val.items.length ib, .slice MB v.val.mems.length mb, .int .i64 v.val.pos, .int .i64 v.pos] := MemP.keep (fun _ _ => rfl) (fun k hk => ⟨⟨by have := hk.1; omega, hk.2⟩, fun e => by have := HLT.out _ e; have := hk.1; omega⟩) hv2
      have hpW : Psr W b l e1 d := hp2
      clear hv2 hp2 hu2 hU hH0 hP0
      have hzWD : WD.heap.size ≤ W.heap.size := hUW.size
      generalize hHH : WD.heap.size = H at *
      obtain ⟨hrW, hbW⟩ := HRN.out W hUW
      have hSW := HS.out.next hG hUW
      have hbs := hSW.size
      have HSW := Lib.hid hSW
      have HRW := Lib.hid hrW
      have HBW := Lib.hid hbW
      have HVW := Lib.hid hvW
      have HPW := Lib.hid hpW
      have hone := one_elsP (E := memE) (T := 45) (p := (fun j => (base ≤ j ∧ j < W.heap.size) ∧ (Value.slice IA its.length ic).ownBlock ≠ some j)) (t := zJM) hH ⟨⟨hHr, heap_lt hH⟩, hHo⟩ (⟨_, ValP.of_open (n := zJV) (ElsP.nil _ _ _) (ElsP.nil _ _ _), rfl⟩)
      have HONE := Lib.hid hone
      clear hrW hbW hSW hvW hpW hone hH
      refine regM_mid (by kernel_rfl) (fun i hi => ?_) ?_
      · match i, hi with
        | 0, _ => rfl
        | 1, _ => rfl
        | 2, _ => rfl
        | 3, _ => rfl
        | 4, _ => rfl
        | 5, _ => rfl
        | 6, _ => rfl
        | 7, _ => rfl
      refine regT_op (o := ⟨some 10, _, _, _, _, _⟩) rfl (fun K hK => ?_)
      refine els_append_old_step memE_ok (by rfl) (.tmp 3) (.tmp 9) (by rfl) W base _ (.slice IA its.length ic) its (by rfl) HRW.out zJM _ _ (by rfl) HONE.out (fun _ h => h.2) (fun _ h => h.1.2) hbs (by omega) ?_
      intro g8 c8 W8 hat hlt8 hrow8 hgr8 hb8
      refine hK.out _ _ ?_
      clear hK K
      simp only [Act.put, List.setIfInBounds_toArray, List.set_cons_zero, List.set_cons_succ]
      change wpAny _ _ _ _ 4 #[true, true, true, true, true, true, true, true, true, false, false, false, false] _ _
      have hg8 : g8 ≠ g := fun e => by have := hrow8.lt g8 rfl; omega
      have hk8 : ∀ k, k < W.heap.size → (Value.slice IA its.length ic).ownBlock ≠ some k → W8.heap[k]? = W.heap[k]? := fun k h1 h2 => hgr8.grown.block k h1 (fun e => h2 e.symm)
      have hz8 : W.heap.size ≤ W8.heap.size := hgr8.grown.size
      have hbox8 := (hb8.block g (by omega)).trans HBW.out
      have hpg : ∀ k, ((base ≤ k ∧ k < W.heap.size) ∧ (Value.slice IA its.length ic).ownBlock ≠ some k) → k ≠ g8 := fun k hk e => by
        rcases hat with h | h
        · exact hk.2 (by rw [e]; exact h)
        · have := hk.1.2; omega
      have hv8 : memE.El W8 (fun j => (base ≤ j ∧ j < W.heap.size) ∧ (Value.slice IA its.length ic).ownBlock ≠ some j) v [.string (S v.key), .int .i64 v.val.kind, .bool v.val.b, .int .i64 v.val.n, .string (S v.val.s), .slice IB v.val.items.length ib, .slice MB v.val.mems.length mb, .int .i64 v.val.pos, .int .i64 v.pos] := MemP.keep (fun k hk => hk8 k hk.1.2 hk.2) (fun _ h => h) HVW.out
      have hiN : (its.length : Int) < (its.length : Int) + 1 := by omega
      have hset : (its ++ [zJM]).set its.length v = its ++ [v] := by simp
      have x8f := Lib.frozen_of_heap hbox8 5
      have x8c : W8.cell? ⟨g, 5, none⟩ = some (.slice IA its.length ic) := by rw [Lib.cell_of_heap hbox8]; rfl
      have HROW8 := Lib.hid hrow8
      have HK8 := Lib.hid hk8
      have HBOX8 := Lib.hid hbox8
      have HPG := Lib.hid hpg
      have HV8 := Lib.hid hv8
      have HAT := Lib.hid hat
      have HG8 := Lib.hid hgr8
      clear hrow8 hk8 hbox8 hpg hv8 hat hgr8 hb8
      refine wpAny_take (i := 9) (oi := ⟨some 11, _, _, _, _, _⟩) (v := ?_) rfl (by kernel_rfl) (by kernel_rfl) (by kernel_rfl) (fun _ _ _ h => h) (.inl ⟨by rfl, ?_⟩) ?_
      rotate_left
      · intro x
        (go_simp; try with_reducible rfl)
      simp only [Act.put, List.setIfInBounds_toArray, List.set_cons_zero, List.set_cons_succ]
      change wpAny _ _ _ _ _ #[true, true, true, true, true, true, true, true, true, true, false, false, false] _ _
      refine wpAny_take (i := 11) (oi := ⟨some 12, _, _, _, _, _⟩) (v := ?_) rfl (by kernel_rfl) (by kernel_rfl) (by kernel_rfl) (fun _ _ _ h => h) (.inl ⟨by rfl, ?_⟩) ?_
      rotate_left
      · intro x
        (go_simp; try with_reducible rfl)
      simp only [Act.put, List.setIfInBounds_toArray, List.set_cons_zero, List.set_cons_succ]
      change wpAny _ _ _ _ _ #[true, true, true, true, true, true, true, true, true, true, false, true, false] _ _
      refine wpAny_all (rs := [10, 12]) (by kernel_rfl) (by simp) ?_
      intro i hi
      rcases (by simpa using hi : i = 10 ∨ i = 12) with rfl | rfl
      · refine regT_op (o := ⟨none, _, _, _, _, _⟩) rfl (fun K hK => ?_)
        refine step_el_store memE_ok (by rfl) (.tmp 11) (.tmp 7) (by rfl) W8 base _ g8 (its.length + 1) c8 _ HROW8.out its.length (by simp) v _ HV8.out HPG.out (by rfl) (by rfl) ?_
        intro W9 hrow9 hu9 hz9
        rw [hset] at hrow9
        refine hK.out _ _ ?_
        clear hK K
        simp only [Act.put, List.setIfInBounds_toArray, List.set_cons_zero, List.set_cons_succ]
        change wpAny _ _ _ _ _ #[true, true, true, true, true, true, true, true, true, true, true, true, false] _ _
        have hbox9 := (hu9.block g (heap_lt HBOX8.out) (Ne.symm hg8)).trans HBOX8.out
        have x9f := Lib.frozen_of_heap hbox9 5
        have x9c : W9.cell? ⟨g, 5, none⟩ = some (.slice IA its.length ic) := by rw [Lib.cell_of_heap hbox9]; rfl
        refine wpAny_all (rs := [12]) (by kernel_rfl) (by simp) ?_
        intro i hi
        obtain rfl : i = 12 := by simpa using hi
        refine regT_op (o := ⟨none, _, _, _, _, _⟩) rfl (fun K hK => ?_)
        go_simp
        refine hK.out _ _ (wpAny_done (by kernel_rfl) ?_ _)
        clear hK K
        have hbox10 : (W9.setCell ⟨g, 5, none⟩ (.slice (some ⟨g8, 0, none⟩) (its.length + 1) c8)).heap[g]? = some (.cells (vC 5 none 0 0 (some ⟨g8, 0, none⟩) (its.length + 1) (c8) a) 25 (0, 0)) := heap_set (i := 5) hbox9 _
        have hu10 := Upd.set_ g 5 W9 (.slice (some ⟨g8, 0, none⟩) (its.length + 1) c8)
        have hrow10 := hrow9.heap (w' := W9.setCell ⟨g, 5, none⟩ (.slice (some ⟨g8, 0, none⟩) (its.length + 1) c8)) memE_ok (fun k hk => Below.heap_setCell _ _ _ _ (show k ≠ g from fun e => by have := hrow9.lt k hk; omega)) (fun k hk => Below.heap_setCell _ _ _ _ (show k ≠ g from fun e => by have := hk.1.1; omega))
        have hz10 : (W9.setCell ⟨g, 5, none⟩ (.slice (some ⟨g8, 0, none⟩) (its.length + 1) c8)).heap.size = W9.heap.size := by simp [World.setCell]
        have hkeep : ∀ k, k < W8.heap.size → k ≠ g → k ≠ g8 → (W9.setCell ⟨g, 5, none⟩ (.slice (some ⟨g8, 0, none⟩) (its.length + 1) c8)).heap[k]? = W8.heap[k]? := fun k h1 h2 h3 => (Below.heap_setCell _ _ _ _ h2).trans (hu9.block k h1 h3)
        have huW : Same3 W8 (W9.setCell ⟨g, 5, none⟩ (.slice (some ⟨g8, 0, none⟩) (its.length + 1) c8)) := ⟨hu9.os, hu9.tape, hu9.output, by rw [hz10, hz9]; omega⟩
        generalize (W9.setCell ⟨g, 5, none⟩ (.slice (some ⟨g8, 0, none⟩) (its.length + 1) c8)) = W10 at *
        clear hrow9 hbox9 hu9 hu10 x9f x9c
        have hput : MeSPut g (.slice IA its.length ic) W W10 := ⟨huW.os.trans HG8.out.grown.os, huW.tape.trans HG8.out.grown.tape, huW.output.trans HG8.out.grown.output, by have := huW.size; omega, fun k h1 h2 h3 => (hkeep k (by omega) h2 (fun e => by rcases HAT.out with h | h; exact h3 (by rw [e]; exact h); omega)).trans (HK8.out k h1 h3)⟩
        have hput2 := HSW.out.put hG HRW.out hput HAT.out hbox10 hrow10
        have hps : Psr W10 b l e1 d := (hput.block b HPW.out.lt (by omega) (fun e => by have := HRW.out.lt b e; omega)).trans HPW.out
        clear HS HCL HRN
        go_wp2_with fail
        go_end0
        exact ⟨rfl, hput2, hps⟩
      · refine regT_op (o := ⟨none, _, _, _, _, _⟩) rfl (fun K hK => ?_)
        go_simp
        refine hK.out _ _ ?_
        clear hK K
        try simp only [Act.put, List.setIfInBounds_toArray, List.set_cons_zero, List.set_cons_succ]
        change wpAny _ _ _ _ _ #[true, true, true, true, true, true, true, true, true, true, false, true, true] _ _
        have hbox9 : (W8.setCell ⟨g, 5, none⟩ (.slice (some ⟨g8, 0, none⟩) (its.length + 1) c8)).heap[g]? = some (.cells (vC 5 none 0 0 (some ⟨g8, 0, none⟩) (its.length + 1) (c8) a) 25 (0, 0)) := heap_set (i := 5) HBOX8.out _
        have hrow9 := HROW8.out.heap (w' := W8.setCell ⟨g, 5, none⟩ (.slice (some ⟨g8, 0, none⟩) (its.length + 1) c8)) memE_ok (fun k hk => Below.heap_setCell _ _ _ _ (show k ≠ g from fun e => by have := HROW8.out.lt k hk; omega)) (fun k hk => Below.heap_setCell _ _ _ _ (show k ≠ g from fun e => by have := hk.1.1; omega))
        have hv9 : memE.El (W8.setCell ⟨g, 5, none⟩ (.slice (some ⟨g8, 0, none⟩) (its.length + 1) c8)) (fun j => (base ≤ j ∧ j < W.heap.size) ∧ (Value.slice IA its.length ic).ownBlock ≠ some j) v [.string (S v.key), .int .i64 v.val.kind, .bool v.val.b, .int .i64 v.val.n, .string (S v.val.s), .slice IB v.val.items.length ib, .slice MB v.val.mems.length mb, .int .i64 v.val.pos, .int .i64 v.pos] := MemP.keep (fun k hk => Below.heap_setCell _ _ _ _ (show k ≠ g from fun e => by have := hk.1.1; omega)) (fun _ h => h) HV8.out
        have hz9 : (W8.setCell ⟨g, 5, none⟩ (.slice (some ⟨g8, 0, none⟩) (its.length + 1) c8)).heap.size = W8.heap.size := by simp [World.setCell]
        have hu9 := Upd.set_ g 5 W8 (.slice (some ⟨g8, 0, none⟩) (its.length + 1) c8)
        generalize (W8.setCell ⟨g, 5, none⟩ (.slice (some ⟨g8, 0, none⟩) (its.length + 1) c8)) = W9 at *
        refine wpAny_all (rs := [10]) (by kernel_rfl) (by simp) ?_
        intro i hi
        obtain rfl : i = 10 := by simpa using hi
        refine regT_op (o := ⟨none, _, _, _, _, _⟩) rfl (fun K hK => ?_)
        refine step_el_store memE_ok (by rfl) (.tmp 11) (.tmp 7) (by rfl) W9 base _ g8 (its.length + 1) c8 _ hrow9 its.length (by simp) v _ hv9 HPG.out (by rfl) (by rfl) ?_
        intro W10 hrow10 hu10 hz10
        rw [hset] at hrow10
        refine hK.out _ _ (wpAny_done (by kernel_rfl) ?_ _)
        clear hK K
        have hbox10 := (hu10.block g (heap_lt hbox9) (Ne.symm hg8)).trans hbox9
        have hkeep : ∀ k, k < W8.heap.size → k ≠ g → k ≠ g8 → W10.heap[k]? = W8.heap[k]? := fun k h1 h2 h3 => (hu10.block k (by omega) h3).trans (hu9.block k h1 h2)
        have huW : Same3 W8 W10 := ⟨hu10.os.trans hu9.os, hu10.tape.trans hu9.tape, hu10.output.trans hu9.output, by omega⟩
        clear hrow9 hbox9 hu9 hu10 hv9
        have hput : MeSPut g (.slice IA its.length ic) W W10 := ⟨huW.os.trans HG8.out.grown.os, huW.tape.trans HG8.out.grown.tape, huW.output.trans HG8.out.grown.output, by have := huW.size; omega, fun k h1 h2 h3 => (hkeep k (by omega) h2 (fun e => by rcases HAT.out with h | h; exact h3 (by rw [e]; exact h); omega)).trans (HK8.out k h1 h3)⟩
        have hput2 := HSW.out.put hG HRW.out hput HAT.out hbox10 hrow10
        have hps : Psr W10 b l e1 d := (hput.block b HPW.out.lt (by omega) (fun e => by have := HRW.out.lt b e; omega)).trans HPW.out
        clear HS HCL HRN
        go_wp2_with fail
        go_end0
        exact ⟨rfl, hput2, hps⟩
end Go.Proofs.YthlppbpccldikaaDoor
set_option linter.unusedVariables false
set_option linter.unusedSimpArgs false
namespace Go.Proofs.YthlppbpccldikaaDoor
open Go.RowKit

/-- A value, with all the fuel that is wanted. -/
def pvF (l : Bytes) (d n : Nat) : Except (Nat × Nat) (JV × Nat) := pvV l (2 * l.length + 2) d n
def kI (l : Bytes) (d : Nat) (its : List JV) (n : Nat) : Except (Nat × Nat) (List JV × Nat) := pvI l (2 * l.length + 3) d n its
def kM (l : Bytes) (d : Nat) (ms : List JM) (n : Nat) : Except (Nat × Nat) (List JM × Nat) := pvM l (2 * l.length + 3) d n ms
theorem kI_eq {l : Bytes} {d n : Nat} {its : List JV} (hn : n ≤ l.length) : kI l d its n = elK l 93 (kI l d) (stepI (pvF l (d + 1)) its n) := by
  unfold kI stepI pvF elK
  rw [pvI]
  cases hv : pvV l (2 * l.length + 2) (d + 1) n with
  | error q => rfl
  | ok p =>
    obtain ⟨v, e⟩ := p
    have h1 := pvV_ok hn hv
    have h2 := spEnd_ge l e
    simp only
    split
    · rfl
    · split
      · rename_i hc
        have := hasAt_in hc
        exact pvI_fuel (by omega) (by omega) (by omega)
      · rfl
theorem kM_eq {l : Bytes} {d n : Nat} {ms : List JM} (hn : n ≤ l.length) : kM l d ms n = elK l 125 (kM l d) (stepM11 (fun n => memJ l (pvF l (d + 1)) n ms) ms n) := by
  rw [memJ_V]
  unfold kM memJ pvF elK
  rw [pvM]
  have h0 := spEnd_le hn
  cases hk : keyAt l (spEnd l n) ms with
  | error q => rfl
  | ok p =>
    obtain ⟨k, a⟩ := p
    have h0 := keyAt_ok hk
    simp only
    cases hv : pvV l (2 * l.length + 2) (d + 1) a with
    | error q => rfl
    | ok p =>
      obtain ⟨v, e⟩ := p
      have h1 := pvV_ok h0.2.1 hv
      have h2 := spEnd_ge l e
      simp only
      split
      · rfl
      · split
        · rename_i hc
          have := hasAt_in hc
          exact pvM_fuel (by omega) (by omega) (by omega)
        · rfl
/-- What value gives, by its first byte. -/
theorem pvF_eq {l : Bytes} {d n z : Nat} (hz : spEnd l n = z) (hzl : z ≤ l.length) : pvF l d n =
    if l.length ≤ z then .error (l.length, 8)
    else if l.getD z 0 = 110 then (wordN l z sNull).map fun e => (.mk 0 false 0 [] [] [] z, e)
    else if l.getD z 0 = 116 then (wordN l z sTrue).map fun e => (.mk 1 true 0 [] [] [] z, e)
    else if l.getD z 0 = 102 then (wordN l z sFalse).map fun e => (.mk 1 false 0 [] [] [] z, e)
    else if l.getD z 0 = 34 then (jstrAt l z).map fun p => (.mk 3 false 0 p.1 [] [] z, p.2)
    else if l.getD z 0 = 91 then (elG l 93 (kI l d) d z []).map fun p => (.mk 4 false 0 [] p.1 [] z, p.2)
    else if l.getD z 0 = 123 then (elG l 125 (kM l d) d z []).map fun p => (.mk 5 false 0 [] [] p.1 z, p.2)
    else if l.getD z 0 = 45 ∨ isDg (l.getD z 0) = true then (match numJ ((l.drop z).take (run isNumB (l.drop z))) with | none => .error (z, 15) | some v => .ok (.mk 2 false v [] [] [] z, numEnd l z))
    else .error (z, 7) := by
  unfold pvF
  rw [pvV, hz]
  by_cases h0 : l.length ≤ z
  · rw [if_pos h0, if_pos h0]
  rw [if_neg h0, if_neg h0]
  have hw : ∀ s v, wordJ l z s v = (wordN l z s).map fun e => (v, e) := fun s v => by unfold wordJ wordN; split <;> rfl
  rw [hw, hw, hw]
  have g2 := spEnd_le (l := l) (n := z + 1) (by omega)
  have g1 := spEnd_ge l (z + 1)
  congr 1; congr 1; congr 1; congr 1
  congr 1
  · unfold elG kI
    by_cases hd : 100 < d
    · rw [if_pos hd, if_pos hd]; rfl
    · rw [if_neg hd, if_neg hd]
      split
      · rfl
      · rw [pvI_fuel (f := 2 * l.length + 1) (g := 2 * l.length + 3) g2 (by omega) (by omega)]
        cases pvI l (2 * l.length + 3) d (spEnd l (z + 1)) [] <;> rfl
  · congr 1
    unfold elG kM
    by_cases hd : 100 < d
    · rw [if_pos hd, if_pos hd]; rfl
    · rw [if_neg hd, if_neg hd]
      split
      · rfl
      · rw [pvM_fuel (f := 2 * l.length + 1) (g := 2 * l.length + 3) g2 (by omega) (by omega)]
        cases pvM l (2 * l.length + 3) d (spEnd l (z + 1)) [] <;> rfl
end Go.Proofs.YthlppbpccldikaaDoor
