/-
  Walk of chapter 9's statements: Depth.
-/
import Derived.Test.YthilaolkkamedaaDoorAlive9
set_option linter.unusedVariables false
namespace Go.Proofs.YthilaolkkamedaaDoor
open Go.RowKit

def nest : Nat → Node
  | 0 => elemNode [97] []
  | i + 1 => elemNode [97] [nest i]
theorem nest_kind (i : Nat) : (nest i).kind = 0 := by cases i <;> rfl
theorem nest_succ (i : Nat) : nest (i + 1) = .mk 0 [] [97] [] [nest i] [] 0 := by
  have : keepKid (nest i) = true := by unfold keepKid; rw [nest_kind]; rfl
  rw [nest, elemNode]
  simp [this]
theorem nest_depth : ∀ i, depth (nest i) = i + 1
  | 0 => rfl
  | i + 1 => by
    rw [nest_succ, depth, if_neg (by decide), depthL, depthL, nest_depth i]; omega
theorem nest_full : ∀ i, full (nest i) = 2 * (i + 1)
  | 0 => rfl
  | i + 1 => by
    rw [nest_succ, full, fullL, fullL, nest_full i]; simp [attsF]; omega
theorem nest_head (ks : List Node) : headOk (.mk 0 [] [97] [] ks [] 0) = true := by
  have h : isQName [97] = true := by decide
  simp [headOk, Node.kind, Node.space, Node.text, Node.name, Node.attrs, h, attsOk, attsOkS]
theorem nest_vld : ∀ i d, vld false (nest i) d = true
  | 0, d => by
    show vld false (.mk 0 [] [97] [] [] [] 0) d = true
    rw [vld, nest_head, vldL]; rfl
  | i + 1, d => by
    rw [nest_succ, vld, nest_head, vldL, vldL, nest_kind, nest_vld i]; rfl
theorem nest_ok (i : Nat) : vld true (nest i) 1 = decide (i + 1 ≤ 100) := by
  rw [vld_depth _ _ (by rw [nest_kind]; decide), nest_vld, nest_depth, Bool.true_and]
  rw [Bool.eq_iff_iff]; simp; omega

theorem NodesP.one {w : World} {q q' : Nat → Prop} {n : Node} {A K : Option Addr} {c d : Nat} (h : NodePV w q n (.agg #[.int .i64 n.kind, .string (S n.space), .string (S n.name), .slice A n.attrs.length c, .slice K n.kids.length d, .string (S n.text), .int .i64 n.pos]))
    (hq : ∀ k, q k → q' k ∧ k < w.heap.size) (hn : q' w.heap.size) : NodesP (w.alloc (nodeBox n A c K d)) q' (.slice (some ⟨w.heap.size, 0, none⟩) 1 1) [n] := by
  obtain ⟨cs, hv, hh⟩ := h
  have hcs : cs = [.int .i64 n.kind, .string (S n.space), .string (S n.name), .slice A n.attrs.length c, .slice K n.kids.length d, .string (S n.text), .int .i64 n.pos] := by
    have := congrArg (fun v => match v with | Value.agg a => a.toList | _ => []) hv
    simpa using this.symm
  refine ⟨_, 1, rfl, Nat.le_refl _, .inr ⟨w.heap.size, 0, rfl, hn, ?_⟩⟩
  rw [KidsP, KidsP]
  refine ⟨⟨cs, NodeP.keep (fun j hj => Below.heap_alloc w _ j (hq j hj).2) (fun j hj => (hq j hj).1) n cs hh, ?_⟩, trivial⟩
  rw [hcs]
  exact range_of_heap (heap_alloc_new w _)
/-- Block b holds a node, and what it leads to lies elsewhere. -/
def Holds (w : World) (b : Nat) (n : Node) : Prop :=
  ∃ A c K d, w.heap[b]? = some (nodeBox n A c K d) ∧ NodePV w (fun j => j ≠ b ∧ j < w.heap.size) n (.agg #[.int .i64 n.kind, .string (S n.space), .string (S n.name), .slice A n.attrs.length c, .slice K n.kids.length d, .string (S n.text), .int .i64 n.pos])

set_option maxHeartbeats 4000000 in
set_option maxRecDepth 100000 in
theorem law9depth_any (x : Nat) (w : World) (hT : Tabs w) (hx : x ≤ 255) :
    Calls Tryd.prog 6 #[.int .u8 x] w fun e w' => e = .returned (.bool true) ∧ Below w.heap.size w w' := by
  have hal := fun W => fun (hW : Below w.heap.size w W) => alive9_any W (hT.next hW)
  have hck := fun W v => fun (hW : Below w.heap.size w W) (hv : NodeV W W.heap.size (nest (x % 120)) v) => check9_any (nest (x % 120)) v W (by rw [nest_full]; omega) (hT.next hW) hv
  rw [nest_ok] at hck
  have HAL := Lib.hid hal
  have HCK := Lib.hid hck
  clear hal hck hT
  have hxi : (x : Int) ≤ 255 := by omega
  go_enter Tryd.func6, Tryd.ntmps6
  go_wp2_with fail
  refine (elem9P_any [97] [] _ _ (fun _ => False) (fun _ h => h.elim) (by decide) ⟨none, 0, rfl, Nat.le_refl _, .inl rfl⟩).mono ?_
  rintro e w1 ⟨v1, rfl, hn1, hb1⟩
  obtain ⟨A1, c1, K1, d1, hv1, _, _, _, _⟩ := hn1.open_
  subst hv1
  have hb1' := hb1.alloc hb1.size (nodeBox (elemNode [97] []) A1 c1 K1 d1)
  have hh : Holds (w1.alloc (nodeBox (elemNode [97] []) A1 c1 K1 d1)) w1.heap.size (nest 0) :=
    ⟨A1, c1, K1, d1, heap_alloc_new w1 _, hn1.keep (fun j hj => Below.heap_alloc w1 _ j (by rcases hj with h | h; exact h.elim; exact h.2)) (fun j hj => by rcases hj with h | h; exact h.elim; rw [World.size_alloc]; omega)⟩
  have HH := Lib.hid hh
  have HB1 := Lib.hid hb1'
  have hs1 := hb1.size
  clear hn1 hb1 hb1' hh
  go_wp2_with fail
  go_loopw [11] (fun i11 wr => ∃ i : Nat, i ≤ x % 120 ∧ i11 = .int .i64 i ∧ Holds wr w1.heap.size (nest i) ∧ Below w.heap.size w wr) (fun i11 _ => x % 120 - (intOf i11).toNat)
  case atStart => exact ⟨0, Nat.zero_le _, rfl, HH.out, HB1.out⟩
  case round =>
    obtain ⟨i, hi, rfl, ⟨A, c, K, d, hbx, hn⟩, hb⟩ := hrel
    have hlt0 := heap_lt hbx
    have HN := Lib.hid hn
    have HBX := Lib.hid hbx
    have HB := Lib.hid hb
    obtain ⟨k0, k1, k2, k3, k4, k5, k6⟩ := cells7 hbx
    clear HH HB1 hn hbx
    by_cases hlt : i < x % 120
    · have hlt' : (i : Int) < (x : Int) % 120 := by omega
      have hks := NodesP.one (q' := fun j => j ≠ w1.heap.size ∧ j < wr.heap.size + 1) HN.out (fun k hk => by omega) (by omega)
      have HKS := Lib.hid hks
      clear hks hb
      go_wp2_with fail
      refine (elem9P_any [97] [nest i] _ _ (fun j => j ≠ w1.heap.size ∧ j < wr.heap.size + 1) (fun j hj => by rw [World.size_alloc]; exact hj.2) (by simp) HKS.out).mono ?_
      rintro e w2 ⟨v2, rfl, hn2, hb2⟩
      obtain ⟨A2, c2, K2, d2, hv2, _, _, _, _⟩ := hn2.open_
      have hbx2 := (hb2.block w1.heap.size (by rw [World.size_alloc]; omega)).trans ((Below.heap_alloc wr (nodeBox (nest i) A c K d) _ hlt0).trans HBX.out)
      have hb2' := (HB.out.alloc HB.out.size (nodeBox (nest i) A c K d)).trans (hb2.mono (by rw [World.size_alloc]; have := HB.out.size; omega))
      have hs2 : wr.heap.size + 1 ≤ w2.heap.size := by have := hb2.size; rw [World.size_alloc] at this; exact this
      have hn3 : NodePV w2 (fun j => j ≠ w1.heap.size ∧ j < w2.heap.size) (nest (i + 1)) v2 := hn2.keep (fun _ _ => rfl) (fun j hj => by rw [World.size_alloc] at hj; omega)
      rw [hv2] at hn3
      subst hv2
      have HN3 := Lib.hid hn3
      have HB2 := Lib.hid hb2'
      clear hn2 hb2 hn3 hb2' k0 k1 k2 k3 k4 k5 k6
      go_wp2_with (with_reducible refine gate ?_; refine wp_store_node rfl _ _ rfl w1.heap.size _ _ _ _ _ _ _ _ _ _ _ _ rfl rfl hbx2 rfl ?_; intro w3 hw3 hu3)
      have hs3 := hu3.size
      have hh3 : Holds w3 w1.heap.size (nest (i + 1)) := ⟨A2, c2, K2, d2, hw3, HN3.out.keep (fun j hj => hu3.block j hj.2 hj.1) (fun j hj => by omega)⟩
      have HH3 := Lib.hid hh3
      have HB3 := Lib.hid (HB2.out.trans (hu3.below (by omega) HB2.out.size))
      clear hh3 hw3 hu3 hbx2
      go_roundw
      case rel => exact ⟨i + 1, by omega, by go_num, HH3.out, HB3.out⟩
      case measure => simp [intOf]; omega
    · obtain rfl : i = x % 120 := by omega
      have HV := Lib.hid (HN.out.toV (B := wr.heap.size) (fun k hk => hk.2))
      clear HN
      have hge : ¬ ((((x % 120 : Nat) : Int)) < (x : Int) % 120) := by omega
      by_cases h100 : x % 120 + 1 ≤ 100
      · have hk1 : (x : Int) % 120 + 1 ≤ 100 := by omega
        rw [show decide (x % 120 + 1 ≤ 100) = true from by simpa using h100] at HCK
        go_wp2_with fail
        refine (HAL.out _ HB.out).mono ?_
        rintro e w4 ⟨rfl, hb4⟩
        have hb4' := HB.out.trans (hb4.mono HB.out.size)
        clear k0 k1 k2 k3 k4 k5 k6
        obtain ⟨k0, k1, k2, k3, k4, k5, k6⟩ := cells7 ((hb4.block _ hlt0).trans HBX.out)
        go_wp2_with (go_at_call 11; refine (HCK.out _ _ hb4' (HV.out.keep hb4.block hb4.size)).mono ?_; rintro e w5 ⟨rfl, hb5⟩)
        go_ret
        exact ⟨rfl, hb4'.trans (hb5.mono hb4'.size)⟩
      · have hk1 : 100 < (x : Int) % 120 + 1 := by omega
        rw [show decide (x % 120 + 1 ≤ 100) = false from by simpa using h100] at HCK
        go_wp2_with fail
        refine (HAL.out _ HB.out).mono ?_
        rintro e w4 ⟨rfl, hb4⟩
        have hb4' := HB.out.trans (hb4.mono HB.out.size)
        clear k0 k1 k2 k3 k4 k5 k6
        obtain ⟨k0, k1, k2, k3, k4, k5, k6⟩ := cells7 ((hb4.block _ hlt0).trans HBX.out)
        go_wp2_with (go_at_call 11; refine (HCK.out _ _ hb4' (HV.out.keep hb4.block hb4.size)).mono ?_; rintro e w5 ⟨rfl, hb5⟩)
        go_ret
        exact ⟨rfl, hb4'.trans (hb5.mono hb4'.size)⟩
end Go.Proofs.YthilaolkkamedaaDoor
