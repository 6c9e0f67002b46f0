/-
  Several texts in one file, in build order:
  - Walks of chapter 11, the program: member, over the walk of value.
  - Regions that draw their order and end in one operation that waits for all others: loads may be taken first under a condition on the world that need not hold behind that last operation. No function of the program.
  - Regions whose operations from n on wait for all ahead of n: loads ahead of n may be taken first under a condition; appending a slice of one element that lies in memory. Split out of XApp1.
-/
import Derived.Test.YthlppbpccldikaaDoorH6
import Derived.OrdersHeld
import Derived.StillTail
import Derived.Deep.RegionHeld
import Derived.Test.YthlppbpccldikaaDoorH3
set_option linter.unusedVariables false
namespace Go.Proofs.YthlppbpccldikaaDoor
open Go.RowKit

theorem TabB.beside {b c : Nat} {W W' : World} (h : TabB b W) (hu : Upd c W W') (hc : b ≤ c) : TabB b W' := by
  obtain ⟨w0, h1, h2, h3⟩ := h; exact ⟨w0, h1, h2, h3.trans (hu.below (by omega) h3.size)⟩
/-- What value does. -/
def ValR (b : Nat) (l : Bytes) (d : Int) (w w' : World) (r : Except (Nat × Nat) (JV × Nat)) (e : Ending) : Prop :=
  Upd b w w' ∧ match r with
  | .error q => e = panJ q
  | .ok (v, n) => (∃ u, e = .returned u ∧ ValV w' (fun k => w.heap.size ≤ k ∧ k < w'.heap.size) v u) ∧ Psr w' b l n d
/-- What member does. -/
def MemR (b : Nat) (l : Bytes) (d : Int) (w w' : World) (r : Except (Nat × Nat) (JM × Nat)) (e : Ending) : Prop :=
  Upd b w w' ∧ match r with
  | .error q => e = panJ q
  | .ok (m, n) => (∃ cs : List Value, e = .returned (.agg cs.toArray) ∧ MemP w' (fun k => w.heap.size ≤ k ∧ k < w'.heap.size) m cs) ∧ Psr w' b l n d
/-- A member at a place, behind white space. -/
def memJ (l : Bytes) (V : Nat → Except (Nat × Nat) (JV × Nat)) (n : Nat) (ms : List JM) : Except (Nat × Nat) (JM × Nat) :=
  match keyAt l (spEnd l n) ms with
  | .error q => .error q
  | .ok (k, a) => match V a with
    | .error q => .error q
    | .ok (v, e) => .ok (.mk k v (spEnd l n), e)
abbrev memC (s : ByteArray) (u0 u1 u2 u3 u4 u5 u6 : Value) (q : Int) : Array Value := #[.string s, u0, u1, u2, u3, u4, u5, u6, .int .i64 q]
abbrev zMem : Array Value := memC ByteArray.empty (.int .i64 0) (.bool false) (.int .i64 0) (.string ByteArray.empty) (.slice none 0 0) (.slice none 0 0) (.int .i64 0) 0
theorem wp_store_memM {ops : Array Oper} {rest : List Oper} {o : Oper} {a : Act} {w : World} {Q : Exit → Act → World → Prop} (hgd : o.guard = none) (x y : Operand) (ho : o.op = .store 45 x y)
    (g : Nat) (cur : Array Value) (cs : Array Value) (hx : a.eval x = .pointer (some ⟨g, 0, none⟩)) (hy : a.eval y = .agg cs) (hc : cs.size = 9) (h1 : cs.all (·.oneCell') = true)
    (hg : w.heap[g]? = some (.cells cur 45 (0, 0))) (hs : cur.size = 9)
    (h : ∀ w', w'.heap[g]? = some (.cells cs 45 (0, 0)) → Upd g w w' → wpList Tryd.prog ops Q rest (a.put o.dst undef) w') : wpList Tryd.prog ops Q (o :: rest) a w :=
  wp_store_whole hgd 45 x y ho g 45 cur _ hx hy hg (by rw [hs, hc]) (by rw [hc]; exact memSize) h1 h
abbrev memZ (s : ByteArray) (q : Int) : Array Value := memC s (.int .i64 0) (.bool false) (.int .i64 0) (.string ByteArray.empty) (.slice none 0 0) (.slice none 0 0) (.int .i64 0) q
set_option maxHeartbeats 4000000 in
set_option maxRecDepth 100000 in
theorem member11_any (b : Nat) (l : Bytes) (n : Nat) (d : Int) (ms : List JM) (MA : Option Addr) (mc : Nat) (p : Nat → Prop) (w : World) (V : Nat → Except (Nat × Nat) (JV × Nat)) (hC : Psr w b l n d) (hT : TabB b w) (hn : n ≤ l.length) (hl : l.length ≤ 1000000)
    (hm : ElsP memE w p (.slice MA ms.length mc) ms) (hp : ∀ k, p k → k < w.heap.size) (hpb : ¬ p b) (hml : ms.length ≤ 1000000000)
    (hV : ∀ a W, n < a → a ≤ l.length → Psr W b l a d → TabB b W → Calls Tryd.prog 25 #[.pointer (some ⟨b, 0, none⟩)] W fun e w' => ValR b l d W w' (V a) e) :
    Calls Tryd.prog 40 #[.pointer (some ⟨b, 0, none⟩), .slice MA ms.length mc] w fun e w' => MemR b l d w w' (memJ l V n ms) e := by
  have hzn := spEnd_le (l := l) (n := n) hn
  have hzg := spEnd_ge l n
  have B0 := (Below.refl w.heap.size w).alloc (Nat.le_refl _) (.cells zMem 45)
  have R0 := heap_alloc_new w (.cells zMem 45)
  have hp1 := hC.below B0
  have hpk := peek_any b l n d _ hp1 hn (by omega)
  have hbw := hC.lt
  have hS1 : (w.alloc (.cells zMem 45)).heap.size = w.heap.size + 1 := by simp
  have hbz : b ≠ w.heap.size := by omega
  have HP1 := Lib.hid hp1
  have HR0 := Lib.hid R0
  have HU0 : Hid (Upd b w (w.alloc (.cells zMem 45))) := (Upd.refl b w).alloc _
  have HT1 := Lib.hid (hT.below ((Below.refl _ w).alloc (Nat.le_refl _) (.cells zMem 45)))
  have HPK := Lib.hid hpk
  have HM := Lib.hid hm
  have HV := Lib.hid hV
  have HP := Lib.hid hp
  have HPB := Lib.hid hpb
  clear B0 R0 hp1 hpk hC hT hm hV hp hpb
  obtain ⟨z, hz⟩ : ∃ z, spEnd l n = z := ⟨_, rfl⟩
  have hpk2 : peekB l n = (l.getD z 0).toNat := by unfold peekB; rw [hz]
  have hmemJ : memJ l V n ms = match keyAt l z ms with
    | .error q => .error q
    | .ok (k, a) => match V a with
      | .error q => .error q
      | .ok (v, e) => .ok (.mk k v z, e) := by unfold memJ; rw [hz]
  obtain ⟨R, hR⟩ : ∃ R, memJ l V n ms = R := ⟨_, rfl⟩
  rw [hR] at hmemJ ⊢
  rw [hz] at hzn hzg HPK
  obtain ⟨k, hk⟩ : ∃ k, peekB l n = k := ⟨_, rfl⟩
  rw [hk] at hpk2 HPK
  clear hz hR hk
  by_cases h34 : l.length ≤ z ∨ l.getD z 0 ≠ 34
  · have hka : keyAt l z ms = .error (wrongJ l z) := by unfold keyAt; rw [if_pos h34]
    rw [hka] at hmemJ
    have hRe : R = .error (wrongJ l z) := hmemJ
    have hk34 : ((k : Int) != 34) = true := by
      rw [bne_iff_ne, hpk2]
      rcases h34 with h | h
      · rw [List.getD_eq_getElem?_getD, List.getElem?_eq_none h]; decide
      · intro e
        exact h (UInt8.toNat_inj.1 (by have h : (l.getD z 0).toNat = 34 := (by omega); rw [h]; rfl))
    have HW := Lib.hid fun W hW => wrong11_any b l z d W hW hzn (by omega)
    have HRE := Lib.hid hRe
    clear hka hmemJ h34 hpk2 hRe
    go_enter Tryd.func40, Tryd.ntmps40
    go_wp2_with (first
      | (go_at_call 33; refine HPK.out.mono ?_; rintro e w2 ⟨rfl, hp2, hu2⟩)
      | (go_at_call 41; refine (HW.out _ hp2).mono ?_; rintro e w3 ⟨rfl, hp3, hu3⟩))
    have HU := Lib.hid ((HU0.out.trans hu2).trans hu3)
    simp only [bodyPost, true_and]
    rw [HRE.out]
    exact ⟨HU.out, rfl⟩
  · have hk34 : ((k : Int) != 34) = false := by
      have h : l.getD z 0 = 34 := Decidable.byContradiction fun e => h34 (.inr e)
      rw [hpk2, h]; rfl
    have hj := fun W hW hTW => psrStr_any b l z d W hW hTW hzn (by omega)
    cases hjs : jstrAt l z with
    | error q =>
      have hka : keyAt l z ms = .error q := by unfold keyAt; rw [if_neg h34, hjs]
      rw [hka] at hmemJ
      have hRe : R = .error q := hmemJ
      rw [hjs] at hj
      have HJ := Lib.hid hj
      have HRE := Lib.hid hRe
      clear hka hmemJ h34 hpk2 hRe hj hjs
      go_enter Tryd.func40, Tryd.ntmps40
      go_wp2_with (first
        | (go_at_call 33; refine HPK.out.mono ?_; rintro e w2 ⟨rfl, hp2, hu2⟩; have q1 := hp2.c1; have hz2 : w.heap.size + 1 ≤ w2.heap.size := (by have := hu2.size; simp at this; omega); have hp3 := hp2.below ((Below.refl _ w2).alloc (Nat.le_refl _) (.cells (memZ ByteArray.empty z) 45)); have hx3 := heap_alloc_new w2 (.cells (memZ ByteArray.empty z) 45); have hr3 := alloc_old (o := .cells (memZ ByteArray.empty z) 45) ((hu2.block w.heap.size (by omega) (by omega)).trans HR0.out); have ht3 := (HT1.out.upd hu2).below ((Below.refl _ w2).alloc (Nat.le_refl _) (.cells (memZ ByteArray.empty z) 45)); have hu3 := (HU0.out.trans hu2).alloc (.cells (memZ ByteArray.empty z) 45))
        | (go_at_call 35; refine (HJ.out _ hp3 ht3.tabs).mono ?_; rintro e w4 ⟨rfl, hu4⟩))
      have HU := Lib.hid (hu3.trans hu4)
      simp only [bodyPost, true_and]
      rw [HRE.out]
      exact ⟨HU.out, rfl⟩
    | ok ke =>
      obtain ⟨k1, e0⟩ := ke
      have hje := jstrAt_ok hjs
      rw [hjs] at hj
      have hxp := fun W hW => expect_any b l e0 d 58 (by decide) W hW hje.2.1 (by omega)
      unfold expJ at hxp
      have hyg := spEnd_ge l e0
      have hyn := spEnd_le (l := l) (n := e0) hje.2.1
      have hkaD := fun (h : (ms.any fun m => m.key == k1) = true) => show keyAt l z ms = .error (z, 10) by unfold keyAt; rw [if_neg h34, hjs]; simp only; rw [if_pos h]
      have hkaN := fun (h : (ms.any fun m => m.key == k1) = false) => show keyAt l z ms = if hasAt l (spEnd l e0) [58] = true then .ok (k1, spEnd l e0 + 1) else .error (wrongJ l (spEnd l e0)) by unfold keyAt; rw [if_neg h34, hjs]; simp only; rw [h, if_neg (by decide)]
      obtain ⟨y, hy⟩ : ∃ y, spEnd l e0 = y := ⟨_, rfl⟩
      rw [hy] at hxp hyg hyn hkaN
      have hzy : z < y + 1 := by have := hje.1; omega
      have hcn := fun (g : Nat) (W : World) (h1 : W.cell? ⟨g, 0, none⟩ = some (.string (S k1))) (h2 : ElsP memE W p (.slice MA ms.length mc) ms) (h3 : ∀ j, p j → j < W.heap.size) => contains11_any ms _ g k1 p W h1 h2 h3 hml
      have HJ := Lib.hid hj
      clear h34 hpk2 hj hjs hy hje
      cases hdu : (ms.any fun m => m.key == k1) with
      | true =>
        rw [hkaD hdu] at hmemJ
        have hRe : R = .error (z, 10) := hmemJ
        have HRE := Lib.hid hRe
        rw [hdu] at hcn
        have HCN := Lib.hid hcn
        clear hkaD hkaN hmemJ hRe hdu hcn hxp
        go_enter Tryd.func40, Tryd.ntmps40
        go_wp2_with (first
          | (go_at_call 33; refine HPK.out.mono ?_; rintro e w2 ⟨rfl, hp2, hu2⟩; have q1 := hp2.c1; have hz2 : w.heap.size + 1 ≤ w2.heap.size := (by have := hu2.size; simp at this; omega); have hp3 := hp2.below ((Below.refl _ w2).alloc (Nat.le_refl _) (.cells (memZ ByteArray.empty z) 45)); have hx3 := heap_alloc_new w2 (.cells (memZ ByteArray.empty z) 45); have hr3 := alloc_old (o := .cells (memZ ByteArray.empty z) 45) ((hu2.block w.heap.size (by omega) (by omega)).trans HR0.out); have ht3 := (HT1.out.upd hu2).below ((Below.refl _ w2).alloc (Nat.le_refl _) (.cells (memZ ByteArray.empty z) 45)); have hu3 := (HU0.out.trans hu2).alloc (.cells (memZ ByteArray.empty z) 45))
          | (go_at_call 35; refine (HJ.out _ hp3 ht3.tabs).mono ?_; rintro e w4 ⟨⟨rfl, hp4⟩, hu4⟩; have hz4 := hu4.size; have hs4 : w2.heap.size < w4.heap.size := (by simp at hz4; omega); have hx4 := (hu4.block w2.heap.size (by simp) (by omega)).trans hx3; have x40 : w4.cell? ⟨w2.heap.size, 0, none⟩ = some (.string ByteArray.empty) := (by rw [Lib.cell_of_heap hx4]; rfl); have x4f := Lib.frozen_of_heap hx4 0; have hx5 : (w4.setCell ⟨w2.heap.size, 0, none⟩ (.string (S k1))).heap[w2.heap.size]? = some (.cells (memZ (S k1) z) 45 (0, 0)) := heap_set (i := 0) hx4 (.string (S k1)); have hu5 := (hu3.trans hu4).nextC (Upd.set_ w2.heap.size 0 w4 (.string (S k1))) (by omega); have hp5 := hp4.beside (Upd.set_ w2.heap.size 0 w4 (.string (S k1))) (by omega); have ht5 := (ht3.upd hu4).beside (Upd.set_ w2.heap.size 0 w4 (.string (S k1))) (by omega); have hr5 := (Below.heap_setCell w4 ⟨w2.heap.size, 0, none⟩ (.string (S k1)) w.heap.size (show w.heap.size ≠ w2.heap.size by omega)).trans ((hu4.block w.heap.size (by simp; omega) (by omega)).trans hr3))
          | (go_at_call 52; refine (HCN.out w2.heap.size _ (by rw [Lib.cell_of_heap hx5]; rfl) (HM.out.keep memE_ok (fun j hj => hu5.block j (HP.out j hj) (fun e => HPB.out (e ▸ hj))) (fun _ h => h)) (fun j hj => Nat.lt_of_lt_of_le (HP.out j hj) hu5.size)).mono ?_; rintro e w6 ⟨rfl, hb6⟩; have hu6 := hu5.next hb6; have hp6 := hp5.below hb6; have hx6 := (hb6.block w2.heap.size (heap_lt hx5)).trans hx5; have hr6 := (hb6.block w.heap.size (heap_lt hr5)).trans hr5; have ht6 := ht5.below hb6; have x68 : w6.cell? ⟨w2.heap.size, 8, none⟩ = some (.int .i64 z) := (by rw [Lib.cell_of_heap hx6]; rfl)))
        have HU := Lib.hid hu6
        simp only [bodyPost, true_and]
        rw [HRE.out]
        exact ⟨HU.out, rfl⟩
      | false =>
        rw [hkaN hdu] at hmemJ
        rw [hdu] at hcn
        have HCN := Lib.hid hcn
        clear hkaD hkaN hdu hcn
        cases hcol : hasAt l y [58] with
        | false =>
          rw [hcol, if_neg (by decide)] at hmemJ hxp
          have hRe : R = .error (wrongJ l y) := hmemJ
          have HRE := Lib.hid hRe
          have HXP := Lib.hid hxp
          clear hmemJ hRe hxp hcol
          go_enter Tryd.func40, Tryd.ntmps40
          go_wp2_with (first
            | (go_at_call 33; refine HPK.out.mono ?_; rintro e w2 ⟨rfl, hp2, hu2⟩; have q1 := hp2.c1; have hz2 : w.heap.size + 1 ≤ w2.heap.size := (by have := hu2.size; simp at this; omega); have hp3 := hp2.below ((Below.refl _ w2).alloc (Nat.le_refl _) (.cells (memZ ByteArray.empty z) 45)); have hx3 := heap_alloc_new w2 (.cells (memZ ByteArray.empty z) 45); have hr3 := alloc_old (o := .cells (memZ ByteArray.empty z) 45) ((hu2.block w.heap.size (by omega) (by omega)).trans HR0.out); have ht3 := (HT1.out.upd hu2).below ((Below.refl _ w2).alloc (Nat.le_refl _) (.cells (memZ ByteArray.empty z) 45)); have hu3 := (HU0.out.trans hu2).alloc (.cells (memZ ByteArray.empty z) 45))
            | (go_at_call 35; refine (HJ.out _ hp3 ht3.tabs).mono ?_; rintro e w4 ⟨⟨rfl, hp4⟩, hu4⟩; have hz4 := hu4.size; have hs4 : w2.heap.size < w4.heap.size := (by simp at hz4; omega); have hx4 := (hu4.block w2.heap.size (by simp) (by omega)).trans hx3; have x40 : w4.cell? ⟨w2.heap.size, 0, none⟩ = some (.string ByteArray.empty) := (by rw [Lib.cell_of_heap hx4]; rfl); have x4f := Lib.frozen_of_heap hx4 0; have hx5 : (w4.setCell ⟨w2.heap.size, 0, none⟩ (.string (S k1))).heap[w2.heap.size]? = some (.cells (memZ (S k1) z) 45 (0, 0)) := heap_set (i := 0) hx4 (.string (S k1)); have hu5 := (hu3.trans hu4).nextC (Upd.set_ w2.heap.size 0 w4 (.string (S k1))) (by omega); have hp5 := hp4.beside (Upd.set_ w2.heap.size 0 w4 (.string (S k1))) (by omega); have ht5 := (ht3.upd hu4).beside (Upd.set_ w2.heap.size 0 w4 (.string (S k1))) (by omega); have hr5 := (Below.heap_setCell w4 ⟨w2.heap.size, 0, none⟩ (.string (S k1)) w.heap.size (show w.heap.size ≠ w2.heap.size by omega)).trans ((hu4.block w.heap.size (by simp; omega) (by omega)).trans hr3))
            | (go_at_call 52; refine (HCN.out w2.heap.size _ (by rw [Lib.cell_of_heap hx5]; rfl) (HM.out.keep memE_ok (fun j hj => hu5.block j (HP.out j hj) (fun e => HPB.out (e ▸ hj))) (fun _ h => h)) (fun j hj => Nat.lt_of_lt_of_le (HP.out j hj) hu5.size)).mono ?_; rintro e w6 ⟨rfl, hb6⟩; have hu6 := hu5.next hb6; have hp6 := hp5.below hb6; have hx6 := (hb6.block w2.heap.size (heap_lt hx5)).trans hx5; have hr6 := (hb6.block w.heap.size (heap_lt hr5)).trans hr5; have ht6 := ht5.below hb6; have x68 : w6.cell? ⟨w2.heap.size, 8, none⟩ = some (.int .i64 z) := (by rw [Lib.cell_of_heap hx6]; rfl))
            | (go_at_call 51; refine (HXP.out _ hp6).mono ?_; rintro e w7 ⟨hu7, rfl⟩))
          have HU := Lib.hid (hu6.trans hu7)
          simp only [bodyPost, true_and]
          rw [HRE.out]
          exact ⟨HU.out, rfl⟩
        | true =>
          have hyl := hasAt_in hcol
          rw [hcol, if_pos rfl] at hmemJ hxp
          have hvv := fun W hW hTW => HV.out (y + 1) W (by omega) (by omega) hW hTW
          have HXP := Lib.hid hxp
          clear hxp hcol
          have hm2 : R = match V (y + 1) with | .error q => .error q | .ok (v, e) => .ok (.mk k1 v z, e) := hmemJ
          clear hmemJ
          cases hva : V (y + 1) with
          | error q =>
            rw [hva] at hm2 hvv
            have hRe : R = .error q := hm2
            have HRE := Lib.hid hRe
            have HVV := Lib.hid hvv
            clear hm2 hRe hva hvv
            go_enter Tryd.func40, Tryd.ntmps40
            go_wp2_with (first
              | (go_at_call 33; refine HPK.out.mono ?_; rintro e w2 ⟨rfl, hp2, hu2⟩; have q1 := hp2.c1; have hz2 : w.heap.size + 1 ≤ w2.heap.size := (by have := hu2.size; simp at this; omega); have hp3 := hp2.below ((Below.refl _ w2).alloc (Nat.le_refl _) (.cells (memZ ByteArray.empty z) 45)); have hx3 := heap_alloc_new w2 (.cells (memZ ByteArray.empty z) 45); have hr3 := alloc_old (o := .cells (memZ ByteArray.empty z) 45) ((hu2.block w.heap.size (by omega) (by omega)).trans HR0.out); have ht3 := (HT1.out.upd hu2).below ((Below.refl _ w2).alloc (Nat.le_refl _) (.cells (memZ ByteArray.empty z) 45)); have hu3 := (HU0.out.trans hu2).alloc (.cells (memZ ByteArray.empty z) 45))
              | (go_at_call 35; refine (HJ.out _ hp3 ht3.tabs).mono ?_; rintro e w4 ⟨⟨rfl, hp4⟩, hu4⟩; have hz4 := hu4.size; have hs4 : w2.heap.size < w4.heap.size := (by simp at hz4; omega); have hx4 := (hu4.block w2.heap.size (by simp) (by omega)).trans hx3; have x40 : w4.cell? ⟨w2.heap.size, 0, none⟩ = some (.string ByteArray.empty) := (by rw [Lib.cell_of_heap hx4]; rfl); have x4f := Lib.frozen_of_heap hx4 0; have hx5 : (w4.setCell ⟨w2.heap.size, 0, none⟩ (.string (S k1))).heap[w2.heap.size]? = some (.cells (memZ (S k1) z) 45 (0, 0)) := heap_set (i := 0) hx4 (.string (S k1)); have hu5 := (hu3.trans hu4).nextC (Upd.set_ w2.heap.size 0 w4 (.string (S k1))) (by omega); have hp5 := hp4.beside (Upd.set_ w2.heap.size 0 w4 (.string (S k1))) (by omega); have ht5 := (ht3.upd hu4).beside (Upd.set_ w2.heap.size 0 w4 (.string (S k1))) (by omega); have hr5 := (Below.heap_setCell w4 ⟨w2.heap.size, 0, none⟩ (.string (S k1)) w.heap.size (show w.heap.size ≠ w2.heap.size by omega)).trans ((hu4.block w.heap.size (by simp; omega) (by omega)).trans hr3))
              | (go_at_call 52; refine (HCN.out w2.heap.size _ (by rw [Lib.cell_of_heap hx5]; rfl) (HM.out.keep memE_ok (fun j hj => hu5.block j (HP.out j hj) (fun e => HPB.out (e ▸ hj))) (fun _ h => h)) (fun j hj => Nat.lt_of_lt_of_le (HP.out j hj) hu5.size)).mono ?_; rintro e w6 ⟨rfl, hb6⟩; have hu6 := hu5.next hb6; have hp6 := hp5.below hb6; have hx6 := (hb6.block w2.heap.size (heap_lt hx5)).trans hx5; have hr6 := (hb6.block w.heap.size (heap_lt hr5)).trans hr5; have ht6 := ht5.below hb6; have x68 : w6.cell? ⟨w2.heap.size, 8, none⟩ = some (.int .i64 z) := (by rw [Lib.cell_of_heap hx6]; rfl))
              | (go_at_call 51; refine (HXP.out _ hp6).mono ?_; rintro e w7 ⟨hu7, rfl, hp7⟩)
              | (go_at_call 25; refine (HVV.out _ hp7 (ht6.upd hu7)).mono ?_; rintro e w8 ⟨hu8, rfl⟩))
            have HU := Lib.hid ((hu6.trans hu7).trans hu8)
            simp only [bodyPost, true_and]
            rw [HRE.out]
            exact ⟨HU.out, rfl⟩
          | ok ve =>
            obtain ⟨v, e1⟩ := ve
            rw [hva] at hm2 hvv
            have hRe : R = .ok (.mk k1 v z, e1) := hm2
            have HRE := Lib.hid hRe
            have HVV := Lib.hid hvv
            clear hm2 hRe hva hvv
            go_enter Tryd.func40, Tryd.ntmps40
            go_wp2_with (first
              | (go_at_call 33; refine HPK.out.mono ?_; rintro e w2 ⟨rfl, hp2, hu2⟩; have q1 := hp2.c1; have hz2 : w.heap.size + 1 ≤ w2.heap.size := (by have := hu2.size; simp at this; omega); have hp3 := hp2.below ((Below.refl _ w2).alloc (Nat.le_refl _) (.cells (memZ ByteArray.empty z) 45)); have hx3 := heap_alloc_new w2 (.cells (memZ ByteArray.empty z) 45); have hr3 := alloc_old (o := .cells (memZ ByteArray.empty z) 45) ((hu2.block w.heap.size (by omega) (by omega)).trans HR0.out); have ht3 := (HT1.out.upd hu2).below ((Below.refl _ w2).alloc (Nat.le_refl _) (.cells (memZ ByteArray.empty z) 45)); have hu3 := (HU0.out.trans hu2).alloc (.cells (memZ ByteArray.empty z) 45))
              | (go_at_call 35; refine (HJ.out _ hp3 ht3.tabs).mono ?_; rintro e w4 ⟨⟨rfl, hp4⟩, hu4⟩; have hz4 := hu4.size; have hs4 : w2.heap.size < w4.heap.size := (by simp at hz4; omega); have hx4 := (hu4.block w2.heap.size (by simp) (by omega)).trans hx3; have x40 : w4.cell? ⟨w2.heap.size, 0, none⟩ = some (.string ByteArray.empty) := (by rw [Lib.cell_of_heap hx4]; rfl); have x4f := Lib.frozen_of_heap hx4 0; have hx5 : (w4.setCell ⟨w2.heap.size, 0, none⟩ (.string (S k1))).heap[w2.heap.size]? = some (.cells (memZ (S k1) z) 45 (0, 0)) := heap_set (i := 0) hx4 (.string (S k1)); have hu5 := (hu3.trans hu4).nextC (Upd.set_ w2.heap.size 0 w4 (.string (S k1))) (by omega); have hp5 := hp4.beside (Upd.set_ w2.heap.size 0 w4 (.string (S k1))) (by omega); have ht5 := (ht3.upd hu4).beside (Upd.set_ w2.heap.size 0 w4 (.string (S k1))) (by omega); have hr5 := (Below.heap_setCell w4 ⟨w2.heap.size, 0, none⟩ (.string (S k1)) w.heap.size (show w.heap.size ≠ w2.heap.size by omega)).trans ((hu4.block w.heap.size (by simp; omega) (by omega)).trans hr3))
              | (go_at_call 52; refine (HCN.out w2.heap.size _ (by rw [Lib.cell_of_heap hx5]; rfl) (HM.out.keep memE_ok (fun j hj => hu5.block j (HP.out j hj) (fun e => HPB.out (e ▸ hj))) (fun _ h => h)) (fun j hj => Nat.lt_of_lt_of_le (HP.out j hj) hu5.size)).mono ?_; rintro e w6 ⟨rfl, hb6⟩; have hu6 := hu5.next hb6; have hp6 := hp5.below hb6; have hx6 := (hb6.block w2.heap.size (heap_lt hx5)).trans hx5; have hr6 := (hb6.block w.heap.size (heap_lt hr5)).trans hr5; have ht6 := ht5.below hb6; have x68 : w6.cell? ⟨w2.heap.size, 8, none⟩ = some (.int .i64 z) := (by rw [Lib.cell_of_heap hx6]; rfl))
              | (go_at_call 51; refine (HXP.out _ hp6).mono ?_; rintro e w7 ⟨hu7, rfl, hp7⟩)
              | (go_at_call 25; refine (HVV.out _ hp7 (ht6.upd hu7)).mono ?_; rintro e w8 ⟨hu8, ⟨u, rfl, ⟨cs, rfl, hv⟩⟩, hp8⟩; have hz7 := hu7.size; have hz8 := hu8.size; have hx7 := (hu7.block w2.heap.size (heap_lt hx6) (by omega)).trans hx6; have hx8 := (hu8.block w2.heap.size (heap_lt hx7) (by omega)).trans hx7; have hr7 := (hu7.block w.heap.size (heap_lt hr6) (by omega)).trans hr6; have hr8 := (hu8.block w.heap.size (heap_lt hr7) (by omega)).trans hr7; obtain ⟨IA, ic, MB, mb, hcs⟩ := hv.cells; subst hcs)
              | ((with_reducible refine gate ?_); refine wp_store_midJ rfl _ _ _ rfl w2.heap.size 1 _ _ [.int .i64 v.kind, .bool v.b, .int .i64 v.n, .string (S v.s), .slice IA v.items.length ic, .slice MB v.mems.length mb, .int .i64 v.pos] rfl rfl hx8 valSize (show 8 ≤ 9 by omega) hv.one ?_; intro w9 hx9' hu9; have hx9 : w9.heap[w2.heap.size]? = some (.cells (memC (S k1) (.int .i64 v.kind) (.bool v.b) (.int .i64 v.n) (.string (S v.s)) (.slice IA v.items.length ic) (.slice MB v.mems.length mb) (.int .i64 v.pos) z) 45 (0, 0)) := hx9'; clear hx9'; have hr9 := (hu9.block w.heap.size (heap_lt hr8) (by omega)).trans hr8)
              | (with_reducible refine gate ?_; refine wp_load_mem rfl _ rfl w2.heap.size 0 rfl [.string (S k1), .int .i64 v.kind, .bool v.b, .int .i64 v.n, .string (S v.s), .slice IA v.items.length ic, .slice MB v.mems.length mb, .int .i64 v.pos, .int .i64 z] rfl (range_of_heap hx9) ?_)
              | ((with_reducible refine gate ?_); refine wp_store_memM rfl _ _ rfl w.heap.size _ (memC (S k1) (.int .i64 v.kind) (.bool v.b) (.int .i64 v.n) (.string (S v.s)) (.slice IA v.items.length ic) (.slice MB v.mems.length mb) (.int .i64 v.pos) z) rfl rfl rfl (by simp [Value.oneCell']) hr9 rfl ?_; intro w10 hx10 hu10))
            have g7 := heap_lt hx7
            have g7' := heap_lt hr7
            have z9 := hu9.size
            have z10 := hu10.size
            have z06 := hu6.size
            refine bodyPost_ret (v := .agg _) (res_whole Tryd.results40 _ _ w.heap.size rfl 45 _ hx10 Tryd.underlying45 rfl memSize) rfl ?_
            rw [HRE.out]
            refine ⟨((((hu6.trans hu7).trans hu8).nextC hu9 (by omega)).nextC hu10 (Nat.le_refl _)), ⟨_, rfl, _, ValP.keep (fun j hj => (hu10.block j (by omega) (by omega)).trans (hu9.block j hj.2 (by omega))) (fun j hj => ⟨by omega, by omega⟩) v _ hv, rfl⟩, ((hp8.beside hu9 (by omega)).beside hu10 (by omega))⟩
end Go.Proofs.YthlppbpccldikaaDoor
set_option linter.unusedVariables false
namespace Go.Proofs.YthlppbpccldikaaDoor
open Go

section
variable {P : Program} {ops : Array Oper} {Q : Exit → Act → World → Prop} {md : Region.Mode} {S : World → Prop} {n : Nat}

/-- Whatever order is picked; behind each operation but the last the condition holds. -/
def wpAnyT (P : Program) (md : Region.Mode) (ops : Array Oper) (Q : Exit → Act → World → Prop) (S : World → Prop) (n : Nat) : Nat → Array Bool → Act → World → Prop
  | 0, listed, a, w => Region.ready md ops listed = [] ∧ Q .normal a w
  | fuel + 1, listed, a, w =>
    (Region.ready md ops listed = [] → Q .normal a w) ∧
    ∀ i ∈ Region.ready md ops listed, wpOp P ops Q i (fun a' w' => (i < n → S w') ∧ wpAnyT P md ops Q S n fuel (listed.setIfInBounds i true) a' w') a w
theorem wpAny_of_T : ∀ (fuel : Nat) (listed : Array Bool) (a : Act) (w : World), wpAnyT P md ops Q S n fuel listed a w → wpAny P md ops Q fuel listed a w
  | 0, _, _, _, h => h
  | fuel + 1, _, _, _, h => ⟨h.1, fun i hi => wpOp_mono (fun a' w' h' => wpAny_of_T fuel _ a' w' h'.2) (h.2 i hi)⟩
theorem wpAnyT_first {i : Nat} {oi : Oper} {v : Value} (hi : ops[i]? = some oi) (hsel : ∀ (j : Nat) (o : Oper) cs b, ops[j]? = some o → o.op ≠ .select cs b)
    (hQ : ∀ c a w, Q (.panic c) (a.put oi.dst v) w → Q (.panic c) a w)
    (hs : Region.sinkB md ops n = true) (hc : Region.chainB md ops n = true) (hn : n < ops.size) (hin : i < n) :
    ∀ (fuel : Nat) (listed : Array Bool) (a : Act) (w : World), HeadInv md ops n listed →
      (∀ j oj, ops[j]? = some oj → j ≠ i → listed.getD j true = false → (∀ e ∈ oj.after, Region.binds md e = true → e.on ≠ i) → oi.apart ops oj = true) →
      i ∈ Region.ready md ops listed → YieldsIf P ops S oi v a → S w →
      wpAnyT P md ops Q S n fuel (listed.setIfInBounds i true) (a.put oi.dst v) w → wpAnyT P md ops Q S n (fuel + 1) listed a w := by
  intro fuel
  induction fuel with
  | zero =>
    intro listed a w _ _ hr hy hS H
    refine ⟨fun h => (by rw [h] at hr; cases hr), fun j hj => ?_⟩
    by_cases hji : j = i
    · subst hji; exact hy.wpOp hi hS ⟨fun _ => hS, H⟩
    · have := ready_mono hj hji
      rw [H.1] at this
      cases this
  | succ fuel ih =>
    intro listed a w inv hfree hr hy hS H
    refine ⟨fun h => (by rw [h] at hr; cases hr), fun j hj => ?_⟩
    by_cases hji : j = i
    · subst hji; exact hy.wpOp hi hS ⟨fun _ => hS, H⟩
    · have hjn : j < n := by
        rcases Nat.lt_or_ge j n with h | h
        · exact h
        · exact absurd hj (tail_waits hs hc hn inv _ i rfl hin (mem_ready.1 hr).1 j h)
      have h1 := H.2 j (ready_mono hj hji)
      obtain ⟨hjun, oj, hoj, hall⟩ := mem_ready.1 hj
      have hnot : ∀ e ∈ oj.after, Region.binds md e = true → e.on ≠ i := fun e he hb heq => by
        have h1 := hall e he hb
        have h0 := (mem_ready.1 hr).1
        rw [heq] at h1
        rcases Nat.lt_or_ge i listed.size with h' | h'
        · simp [h'] at h0 h1; rw [h0] at h1; cases h1
        · simp [Array.getElem?_eq_none h'] at h1
      have h2 := wpOp_putIf hoj (hfree j oj hoj hji hjun hnot) (fun cs b => hsel i oi cs b hi) (fun cs b => hsel j oj cs b hoj) hQ hy h1
      have hfree' : ∀ k ok, ops[k]? = some ok → k ≠ i → (listed.setIfInBounds j true).getD k true = false →
          (∀ e ∈ ok.after, Region.binds md e = true → e.on ≠ i) → oi.apart ops ok = true := fun k ok hk hki hun hno => by
        refine hfree k ok hk hki ?_ hno
        by_cases hjk : j = k
        · subst hjk; exact hjun
        · rw [getD_set_ne true hjk] at hun; exact hun
      refine wpOp_mono (fun a' w' h3 => ⟨h3.2.1, ih (listed.setIfInBounds j true) a' w' (inv.set hj hjn) hfree' (ready_mono hr (Ne.symm hji)) h3.1 (h3.2.1 hjn) ?_⟩) h2
      rw [Array.setIfInBounds_comm _ _ hji]
      exact h3.2.2

/-- The moves. -/
def RegT (P : Program) (ops : Array Oper) (Q : Exit → Act → World → Prop) (S : World → Prop) (n fuel : Nat) (listed : Array Bool) (a : Act) (w : World) : Prop :=
  HeadInv .any ops n listed → wpAnyT P .any ops Q S n fuel listed a w
theorem headInv_start (hn : n < ops.size) : HeadInv md ops n (Array.replicate ops.size false) := by
  refine ⟨by simp, fun j oj _ h => ?_, fun t _ ht => ?_⟩
  · rw [getD_replicate_false] at h; cases h
  · simp [ht]
theorem regT_start {id : Nat} {a : Act} {w : World} (hm : P.follows .mixedOrders = true) (hn : n < ops.size) (hS : S w.drew)
    (h : S w.drew → RegT P ops Q S n ops.size (Array.replicate ops.size false) a w.drew) : (Code.region id ops true).wp P Q a w :=
  wp_region_any hm (wpAny_of_T _ _ _ _ (h hS (headInv_start hn)))
theorem regT_take {i : Nat} {oi : Oper} {v : Value} {fuel : Nat} {listed : Array Bool} {a : Act} {w : World} (hi : ops[i]? = some oi)
    (hs : Region.noSelect ops = true) (hb : (Region.sinkB .any ops n && Region.chainB .any ops n && decide (n < ops.size) && decide (i < n)) = true) (hf : Region.free .any ops listed i = true) (hr : (Region.ready .any ops listed).contains i = true)
    (hQ : ∀ c a w, Q (.panic c) (a.put oi.dst v) w → Q (.panic c) a w) (hy : YieldsIf P ops S oi v a) (hS : S w)
    (h : RegT P ops Q S n fuel (listed.setIfInBounds i true) (a.put oi.dst v) w) : RegT P ops Q S n (fuel + 1) listed a w := by
  simp only [Bool.and_eq_true, decide_eq_true_eq] at hb
  intro inv
  have hr' : i ∈ Region.ready .any ops listed := by simpa using hr
  exact wpAnyT_first hi (Region.noSelect_spec hs) hQ hb.1.1.1 hb.1.1.2 hb.1.2 hb.2 fuel listed a w inv (Region.free_spec hi hf) hr' hy hS (h (inv.set hr' hb.2))
theorem regT_all {rs : List Nat} {fuel : Nat} {listed : Array Bool} {a : Act} {w : World} (hr : Region.ready .any ops listed = rs) (hne : rs ≠ []) (hlt : rs.all (fun i => decide (i < n)) = true)
    (h : ∀ i ∈ rs, wpOp P ops Q i (fun a' w' => S w' ∧ RegT P ops Q S n fuel (listed.setIfInBounds i true) a' w') a w) : RegT P ops Q S n (fuel + 1) listed a w := by
  intro inv
  refine ⟨fun h0 => absurd (hr ▸ h0) hne, fun i hi => ?_⟩
  have hi' : i ∈ rs := hr ▸ hi
  have hin : i < n := by simpa using List.all_eq_true.1 hlt i hi'
  exact wpOp_mono (fun a' w' h' => ⟨fun _ => h'.1, h'.2 (inv.set hi hin)⟩) (h i hi')
theorem regT_last {fuel : Nat} {listed : Array Bool} {a : Act} {w : World} (hr : Region.ready .any ops listed = [n]) (hr2 : Region.ready .any ops (listed.setIfInBounds n true) = [])
    (h : wpOp P ops Q n (Q .normal) a w) : RegT P ops Q S n (fuel + 1) listed a w := by
  intro _
  refine ⟨fun h0 => (by rw [hr] at h0; cases h0), fun i hi => ?_⟩
  rw [hr] at hi
  obtain rfl : i = n := by simpa using hi
  refine wpOp_mono (fun a' w' h' => ⟨fun h0 => absurd h0 (Nat.lt_irrefl _), ?_⟩) h
  cases fuel with
  | zero => exact ⟨hr2, h'⟩
  | succ f => exact ⟨fun _ => h', by rw [hr2]; simp⟩
/-- One operation of the region, its continuation behind a letter. -/
theorem regT_op {i : Nat} {o : Oper} {K : Act → World → Prop} {a : Act} {w : World} (ho : ops[i]? = some o)
    (h : ∀ K' : Act → World → Prop, Shut (∀ a w, K a w → K' a w) → if Region.wanted o (yielded ops a.tmps) = true then Oper.wp P o a w K' Q else K' (a.put o.dst undef) w) : wpOp P ops Q i K a w := by
  unfold wpOp
  simp only [ho]
  have := h K (fun _ _ h => h)
  split
  · rename_i hw; rw [if_pos hw] at this; exact .inl this
  · rename_i hw; rw [if_neg hw] at this; exact this
/-- Ways that meet again: what is to be shown there is shown once. -/
theorem meet3 {A B C : Type} {F G : A → B → C → Prop} {Z : Prop} (h1 : (∀ x y z, F x y z → G x y z) → Z) (h2 : ∀ x y z, F x y z → G x y z) : Z := h1 h2
theorem meet4 {A B C D : Type} {F G : A → B → C → D → Prop} {Z : Prop} (h1 : (∀ x y z u, F x y z u → G x y z u) → Z) (h2 : ∀ x y z u, F x y z u → G x y z u) : Z := h1 h2
end
end Go.Proofs.YthlppbpccldikaaDoor
set_option linter.unusedVariables false
namespace Go.Proofs.YthlppbpccldikaaDoor
open Go.RowKit

section
variable {P : Program} {ops : Array Oper} {Q : Exit → Act → World → Prop} {S : World → Prop} {n : Nat}
theorem wpAnyT_of_any : ∀ (fuel : Nat) (listed : Array Bool) (a : Act) (w : World), (∀ i, i < n → listed.getD i true = true) → wpAny P .any ops Q fuel listed a w → wpAnyT P .any ops Q S n fuel listed a w
  | 0, _, _, _, _, h => h
  | fuel + 1, listed, a, w, hl, h => ⟨h.1, fun i hi => wpOp_mono (fun a' w' h' => ⟨fun hin => by
      have h1 := (mem_ready.1 hi).1
      have h2 := hl i hin
      rcases Nat.lt_or_ge i listed.size with h3 | h3
      · simp [h3] at h1 h2; rw [h1] at h2; cases h2
      · simp [Array.getElem?_eq_none h3] at h1, wpAnyT_of_any fuel _ a' w' (fun j hj => by
      by_cases hij : i = j
      · subst hij
        rcases Nat.lt_or_ge i listed.size with h3 | h3
        · simp [h3]
        · simp [h3]
      · rw [getD_set_ne true hij]; exact hl j hj) h'⟩) (h.2 i hi)⟩
/-- Each operation from n on waits for each one ahead of n. -/
def midB (ops : Array Oper) (n : Nat) : Bool := (List.range ops.size).all fun t => decide (t < n) || (List.range n).all fun i => Region.waitsFor .any ops t i
theorem mid_waits {n : Nat} {listed : Array Bool} (hm : midB ops n = true) {i t : Nat} (hi : i < n) (hun : listed.getD i true = false) (ht : n ≤ t) : t ∉ Region.ready .any ops listed := by
  intro hr
  obtain ⟨_, ot, hot, hall⟩ := mem_ready.1 hr
  have htlt : t < ops.size := (Array.getElem?_eq_some_iff.1 hot).1
  have h1 := List.all_eq_true.1 hm t (List.mem_range.2 htlt)
  have hnt : decide (t < n) = false := by simp; omega
  rw [hnt, Bool.false_or] at h1
  have h2 := List.all_eq_true.1 h1 i (List.mem_range.2 hi)
  obtain ⟨oj, hoj, e, he, hb, hon⟩ := Region.waitsFor_spec h2
  have : oj = ot := Option.some.inj (hoj.symm.trans hot)
  subst this
  have h3 := hall e he hb
  rw [hon, getD_both hun] at h3
  cases h3
theorem wpAnyM_first {i : Nat} {oi : Oper} {v : Value} (hi : ops[i]? = some oi) (hsel : ∀ (j : Nat) (o : Oper) cs b, ops[j]? = some o → o.op ≠ .select cs b)
    (hQ : ∀ c a w, Q (.panic c) (a.put oi.dst v) w → Q (.panic c) a w) (hm : midB ops n = true) (hin : i < n) :
    ∀ (fuel : Nat) (listed : Array Bool) (a : Act) (w : World),
      (∀ j oj, ops[j]? = some oj → j ≠ i → listed.getD j true = false → (∀ e ∈ oj.after, Region.binds .any e = true → e.on ≠ i) → oi.apart ops oj = true) →
      i ∈ Region.ready .any ops listed → YieldsIf P ops S oi v a → S w →
      wpAnyT P .any ops Q S n fuel (listed.setIfInBounds i true) (a.put oi.dst v) w → wpAnyT P .any ops Q S n (fuel + 1) listed a w := by
  intro fuel
  induction fuel with
  | zero =>
    intro listed a w _ hr hy hS H
    refine ⟨fun h => (by rw [h] at hr; cases hr), fun j hj => ?_⟩
    by_cases hji : j = i
    · subst hji; exact hy.wpOp hi hS ⟨fun _ => hS, H⟩
    · have := ready_mono hj hji
      rw [H.1] at this
      cases this
  | succ fuel ih =>
    intro listed a w hfree hr hy hS H
    refine ⟨fun h => (by rw [h] at hr; cases hr), fun j hj => ?_⟩
    by_cases hji : j = i
    · subst hji; exact hy.wpOp hi hS ⟨fun _ => hS, H⟩
    · have hjn : j < n := by
        rcases Nat.lt_or_ge j n with h | h
        · exact h
        · exact absurd hj (mid_waits hm hin (mem_ready.1 hr).1 h)
      have h1 := H.2 j (ready_mono hj hji)
      obtain ⟨hjun, oj, hoj, hall⟩ := mem_ready.1 hj
      have hnot : ∀ e ∈ oj.after, Region.binds .any e = true → e.on ≠ i := fun e he hb heq => by
        have h1 := hall e he hb
        have h0 := (mem_ready.1 hr).1
        rw [heq] at h1
        rcases Nat.lt_or_ge i listed.size with h' | h'
        · simp [h'] at h0 h1; rw [h0] at h1; cases h1
        · simp [Array.getElem?_eq_none h'] at h1
      have h2 := wpOp_putIf hoj (hfree j oj hoj hji hjun hnot) (fun cs b => hsel i oi cs b hi) (fun cs b => hsel j oj cs b hoj) hQ hy h1
      have hfree' : ∀ k ok, ops[k]? = some ok → k ≠ i → (listed.setIfInBounds j true).getD k true = false →
          (∀ e ∈ ok.after, Region.binds .any e = true → e.on ≠ i) → oi.apart ops ok = true := fun k ok hk hki hun hno => by
        refine hfree k ok hk hki ?_ hno
        by_cases hjk : j = k
        · subst hjk; exact hjun
        · rw [getD_set_ne true hjk] at hun; exact hun
      refine wpOp_mono (fun a' w' h3 => ⟨h3.2.1, ih (listed.setIfInBounds j true) a' w' hfree' (ready_mono hr (Ne.symm hji)) h3.1 (h3.2.1 hjn) ?_⟩) h2
      rw [Array.setIfInBounds_comm _ _ hji]
      exact h3.2.2
theorem regM_start {id : Nat} {a : Act} {w : World} (hm : P.follows .mixedOrders = true) (h : wpAnyT P .any ops Q S n ops.size (Array.replicate ops.size false) a w.drew) : (Code.region id ops true).wp P Q a w :=
  wp_region_any hm (wpAny_of_T _ _ _ _ h)
theorem regM_take {i : Nat} {oi : Oper} {v : Value} {fuel : Nat} {listed : Array Bool} {a : Act} {w : World} (hi : ops[i]? = some oi)
    (hs : Region.noSelect ops = true) (hb : midB ops n = true) (hin : i < n) (hf : Region.free .any ops listed i = true) (hr : (Region.ready .any ops listed).contains i = true)
    (hQ : ∀ c a w, Q (.panic c) (a.put oi.dst v) w → Q (.panic c) a w) (hy : YieldsIf P ops S oi v a) (hS : S w)
    (h : wpAnyT P .any ops Q S n fuel (listed.setIfInBounds i true) (a.put oi.dst v) w) : wpAnyT P .any ops Q S n (fuel + 1) listed a w :=
  wpAnyM_first hi (Region.noSelect_spec hs) hQ hb hin fuel listed a w (Region.free_spec hi hf) (by simpa using hr) hy hS h
theorem regM_all {rs : List Nat} {fuel : Nat} {listed : Array Bool} {a : Act} {w : World} (hr : Region.ready .any ops listed = rs) (hne : rs ≠ [])
    (h : ∀ i ∈ rs, wpOp P ops Q i (fun a' w' => S w' ∧ wpAnyT P .any ops Q S n fuel (listed.setIfInBounds i true) a' w') a w) : wpAnyT P .any ops Q S n (fuel + 1) listed a w :=
  ⟨fun h0 => absurd (hr ▸ h0) hne, fun i hi => wpOp_mono (fun a' w' h' => ⟨fun _ => h'.1, h'.2⟩) (h i (hr ▸ hi))⟩
/-- The operation that waits for all ahead of it, and lets the others wait. -/
theorem regM_mid {fuel : Nat} {listed : Array Bool} {a : Act} {w : World} (hr : Region.ready .any ops listed = [n]) (hl : ∀ i, i < n → (listed.setIfInBounds n true).getD i true = true)
    (h : wpOp P ops Q n (fun a' w' => wpAny P .any ops Q fuel (listed.setIfInBounds n true) a' w') a w) : wpAnyT P .any ops Q S n (fuel + 1) listed a w := by
  refine ⟨fun h0 => (by rw [hr] at h0; cases h0), fun i hi => ?_⟩
  rw [hr] at hi
  obtain rfl : i = n := by simpa using hi
  exact wpOp_mono (fun a' w' h' => ⟨fun h0 => absurd h0 (Nat.lt_irrefl _), wpAnyT_of_any _ _ _ _ hl h'⟩) h
end


/-- Appending one element that lies somewhere in the call's own memory: at a step of a region. -/
theorem els_append_old_step {α : Type} {E : Elt α} (hE : E.Ok) {ops : Array Oper} {o : Oper} {a : Act} {K : Act → World → Prop} {Q : Exit → Act → World → Prop} {Z : Prop} (hgd : o.guard = none) (s x : Operand)
    (ho : o.op = .call { callee := .builtin .append, args := #[s, x], argTypes := #[E.TS, E.TS] })
    (w : World) (base : Nat) (p : Nat → Prop) (v : Value) (l : List α) (hs : a.eval s = v) (h : ElRow E w base p v l) (t : α) (A : Option Addr) (c : Nat) (hx : a.eval x = .slice A 1 c) (ht : ElsP E w p (.slice A 1 c) [t]) (hB : ∀ j, p j → v.ownBlock ≠ some j) (hB2 : ∀ j, p j → j < w.heap.size) (hbase : base ≤ w.heap.size) (hlen : l.length < 1000000000)
    (hK : ∀ g cap w', (v.ownBlock = some g ∨ w.heap.size ≤ g) → g < w'.heap.size → ElRow E w' base p (.slice (some ⟨g, 0, none⟩) (l.length + 1) cap) (l ++ [t]) → Grew w v (.slice (some ⟨g, 0, none⟩) (l.length + 1) cap) w' → Below base w w' → K (a.put o.dst (.slice (some ⟨g, 0, none⟩) (l.length + 1) cap)) w') :
    if Region.wanted o (yielded ops a.tmps) = true then Oper.wp Tryd.prog o a w K Q else Z := by
  have hw : Region.wanted o (yielded ops a.tmps) = true := by simp [Region.wanted, hgd]
  rw [if_pos hw]
  obtain ⟨v', w', hrun, h1, h2, h3, h4⟩ := run_append_els hE w o.type base p v l h A 1 c [t] ht hbase (by simp; omega) hB hB2
  have hl1 : (l ++ [t]).length = l.length + 1 := by simp
  obtain ⟨A', cap, hv', _⟩ := h1.slice
  rw [hl1] at hv'
  subst hv'
  obtain ⟨g, rfl, hg1, hg2⟩ := h1.ptr (by rw [hl1]; omega)
  unfold Oper.wp
  simp [execOp, ho, resolve, invoke, builtin, hs, hx, hrun, Result.andThen]
  refine hK g cap w' ?_ hg2 h1 h2 h3
  rcases h4 with h4 | h4
  · exact .inl (h4.symm.trans rfl)
  · refine .inr ?_
    have : g = w.heap.size := by simpa [Value.ownBlock] using h4
    omega
end Go.Proofs.YthlppbpccldikaaDoor
