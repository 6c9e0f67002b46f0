/-
  Several texts in one file, in build order:
  - Walk of chapter 7's reference: the depth of a tree.
-/
import Derived.Test.YtclhdppppgjgfaaGreatDoorH4
import Derived.WalkSpells
import Derived.WalkLawsBesides
set_option linter.unusedVariables false
namespace Go.Proofs.YtclhdppppgjgfaaGreatDoor
open Go.RowKit

set_option maxHeartbeats 2000000 in
theorem refDepth_any (m : Nat) : ∀ (n : Node) (v : Value) (w : World), nsz n ≤ m → m ≤ 4611686018427387904 → NodeV w w.heap.size n v →
    Calls Tryz.prog 20 #[v] w fun e w' => e = .returned (.int .i64 (depth n : Nat)) ∧ Below w.heap.size w w' := by
  induction m with
  | zero => intro n v w h; cases n; rw [nsz] at h; omega
  | succ m ih =>
    intro n v w hm hbig hv
    obtain ⟨A, cap, K, kcap, rfl, ha, hk, hcap, hkcap⟩ := hv.open_
    have hdep := depth_nsz _ n (Nat.le_refl _)
    have hkl : n.kids.length ≤ 4611686018427387904 := by
      have h1 : n.kids.length ≤ nszL n.kids := by
        generalize n.kids = ks
        induction ks with
        | nil => simp
        | cons x ks ih => rw [nszL]; have : 1 ≤ nsz x := by cases x; rw [nsz]; omega
                          simp only [List.length_cons]; omega
      have h2 : nszL n.kids < nsz n := by cases n; simp only [Node.kids]; rw [nsz]; omega
      omega
    have HIH := Lib.hid ih
    have HK := Lib.hid hk
    have HM := Lib.hid hm
    clear ih ha hk hv hm
    by_cases h1 : n.kind = 1
    · have hd : depth n = 0 := by rw [depth_eq, if_pos h1]
      have t : (n.kind == 1) = true := by rw [h1]; rfl
      have HD := Lib.hid hd
      clear hd h1 hdep
      go_enter Tryz.func20, Tryz.ntmps20
      go_wp2_with fail
      go_ret
      exact ⟨ret_int (by rw [HD.out]; rfl), (Below.refl _ _).alloc (Nat.le_refl _) _⟩
    · have hd : depth n = depthL n.kids 0 + 1 := by rw [depth_eq, if_neg h1]
      have t : (n.kind == 1) = false := by rw [beq_eq_false_iff_ne]; exact h1
      rw [hd] at hdep ⊢
      generalize hD : depthL n.kids 0 = D at *
      have HD := Lib.hid hD
      clear hd h1 hD
      go_enter Tryz.func20, Tryz.ntmps20
      go_wp2_with fail
      go_loopw [3, 4] (fun s3 i4 wr => ∃ (i a : Nat), i ≤ n.kids.length ∧ i4 = .int .i64 i ∧ s3 = .int .i64 a ∧ depthL (n.kids.drop i) a = D ∧ Below (w.heap.size + 1) (w.alloc (nodeBox n A cap K kcap)) wr) (fun _ i4 _ => n.kids.length - (intOf i4).toNat)
      case atStart => exact ⟨0, 0, Nat.zero_le _, rfl, rfl, by rw [List.drop_zero]; exact HD.out, Below.refl _ _⟩
      case round =>
        obtain ⟨i, a, hi, rfl, rfl, hrem, hb⟩ := hrel
        have hbw : Below w.heap.size w wr := ((Below.refl _ _).alloc (Nat.le_refl _) _).trans (hb.mono (by omega))
        have hbox : wr.heap[w.heap.size]? = some (nodeBox n A cap K kcap) := (hb.block _ (by omega)).trans (heap_alloc_new w _)
        have c4 := (box_cells hbox).2.2.2.2.1
        have hsz := hb.size
        simp only [World.size_alloc] at hsz
        have HB := Lib.hid hb
        have HBW := Lib.hid hbw
        have HR := Lib.hid hrem
        clear hb hbw hrem hbox
        by_cases hlt : i < n.kids.length
        · have hfin := depthL_step (a := a) hlt
          rw [HR.out] at hfin
          obtain ⟨b, off, cs, rfl, hbl, hr, hcs⟩ := HK.out.at_ hlt
          have hr' : wr.rangeAt b (off + i * 7) cs := rangeAt_keep hr (HBW.out.block b hbl)
          have hnv : NodeV w w.heap.size n.kids[i] (.agg cs.toArray) := ⟨cs, rfl, hcs⟩
          obtain ⟨A', c', K', d', rfl, ha', hk', _, _⟩ := hcs.open_
          have hsn : nsz n.kids[i] ≤ m := by have := nsz_get n hlt; have := HM.out; omega
          have hcall := HIH.out n.kids[i] _ wr hsn (by omega) (hnv.keep HBW.out.block HBW.out.size)
          have HC := Lib.hid hcall
          have HRR := Lib.hid hr'
          have HF := Lib.hid hfin
          clear hr hr' hcs ha' hk' hfin hnv hsn hcall
          generalize depth n.kids[i] = dk at *
          go_wp2_with (first
            | (refine wp_load_node rfl _ rfl b (off + i * 7) rfl _ rfl HRR.out ?_)
            | (go_at_call 20; refine HC.out.mono ?_; rintro e w' ⟨rfl, hb'⟩))
          go_roundw
          case rel =>
            exact ⟨i + 1, max a dk, by omega, by go_num, val_int (by omega), HF.out.symm, HB.out.trans (hb'.mono (by omega))⟩
          case measure => simp [intOf]; omega
        · obtain rfl : i = n.kids.length := by omega
          have hfin := HR.out
          rw [List.drop_length, depthL] at hfin
          have hab : (a : Int) ≤ 4611686018427387904 := by have := HM.out; omega
          have HF := Lib.hid hfin
          clear hfin
          go_wp2_with fail
          go_ret
          exact ⟨ret_int (by rw [← HF.out]; omega), HBW.out⟩
end Go.Proofs.YtclhdppppgjgfaaGreatDoor
