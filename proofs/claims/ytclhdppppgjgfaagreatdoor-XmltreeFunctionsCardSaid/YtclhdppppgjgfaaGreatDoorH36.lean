/-
  Several texts in one file, in build order:
  - Walk of chapter 7's reference: the text of a tree.
  - Walks of chapter 7's statements: zero (all offsets are 0) and normal.
  - Walk of chapter 7's statement Functions.
-/
import Derived.Test.YtclhdppppgjgfaaGreatDoorH4
import Derived.Test.YtclhdppppgjgfaaGreatDoorH19
import Derived.Test.YtclhdppppgjgfaaGreatDoorH17
import Derived.Test.YtclhdppppgjgfaaGreatDoorH20
import Derived.Test.YtclhdppppgjgfaaGreatDoorH21
import Derived.Test.YtclhdppppgjgfaaGreatDoorH24
import Derived.Test.YtclhdppppgjgfaaGreatDoorH26
import Derived.Test.YtclhdppppgjgfaaGreatDoorH35
set_option linter.unusedVariables false
namespace Go.Proofs.YtclhdppppgjgfaaGreatDoor
open Go.RowKit

set_option maxHeartbeats 2000000 in
theorem refText_any (m : Nat) : ∀ (n : Node) (v : Value) (w : World), nsz n ≤ m → full n ≤ 1000000000000 → NodeV w w.heap.size n v →
    Calls Tryz.prog 18 #[v] w fun e w' => e = .returned (.string (S (txtN n))) ∧ Below w.heap.size w w' := by
  induction m with
  | zero => intro n v w h; cases n; rw [nsz] at h; omega
  | succ m ih =>
    intro n v w hm hbig hv
    obtain ⟨A, cap, K, kcap, rfl, ha, hk, hcap, hkcap⟩ := hv.open_
    have hkl : n.kids.length ≤ 1000000000000 := by have := parts n hbig; have := this.kids; omega
    have htl : (txtL n.kids).length ≤ 1000000000000 := by
      have h1 := txtL_len n.kids
      have h2 := full_form n
      omega
    have HIH := Lib.hid ih
    have HK := Lib.hid hk
    have HM := Lib.hid hm
    clear ih ha hk hv hm
    by_cases h1 : n.kind = 1
    · have hd : txtN n = n.text := by rw [txtN_eq, if_pos h1]
      have t : (n.kind == 1) = true := by rw [h1]; rfl
      rw [hd]
      clear hd h1 htl
      go_enter Tryz.func18, Tryz.ntmps18
      go_wp2_with fail
      go_ret
      exact ⟨rfl, (Below.refl _ _).alloc (Nat.le_refl _) _⟩
    · have hd : txtN n = txtL n.kids := by rw [txtN_eq, if_neg h1]
      have t : (n.kind == 1) = false := by rw [beq_eq_false_iff_ne]; exact h1
      rw [hd]
      generalize hD : txtL n.kids = D at *
      have HD := Lib.hid hD
      clear hd h1 hD
      go_enter Tryz.func18, Tryz.ntmps18
      go_wp2_with fail
      go_loopw [3, 4] (fun s3 i4 wr => ∃ (i : Nat) (a : Bytes), i ≤ n.kids.length ∧ i4 = .int .i64 i ∧ s3 = .string (S a) ∧ a ++ txtL (n.kids.drop i) = D ∧ Below (w.heap.size + 1) (w.alloc (nodeBox n A cap K kcap)) wr) (fun _ i4 _ => n.kids.length - (intOf i4).toNat)
      case atStart => exact ⟨0, [], Nat.zero_le _, rfl, rfl, by rw [List.drop_zero]; exact HD.out, Below.refl _ _⟩
      case round =>
        obtain ⟨i, a, hi, rfl, rfl, hrem, hb⟩ := hrel
        have hbw : Below w.heap.size w wr := ((Below.refl _ _).alloc (Nat.le_refl _) _).trans (hb.mono (by omega))
        have hbox : wr.heap[w.heap.size]? = some (nodeBox n A cap K kcap) := (hb.block _ (by omega)).trans (heap_alloc_new w _)
        have c4 := (box_cells hbox).2.2.2.2.1
        have hsz := hb.size
        simp only [World.size_alloc] at hsz
        have HB := Lib.hid hb
        have HBW := Lib.hid hbw
        have HR := Lib.hid hrem
        clear hb hbw hrem hbox
        by_cases hlt : i < n.kids.length
        · have hfin := txtL_step hlt
          obtain ⟨b, off, cs, rfl, hbl, hr, hcs⟩ := HK.out.at_ hlt
          have hr' : wr.rangeAt b (off + i * 7) cs := rangeAt_keep hr (HBW.out.block b hbl)
          have hnv : NodeV w w.heap.size n.kids[i] (.agg cs.toArray) := ⟨cs, rfl, hcs⟩
          obtain ⟨A', c', K', d', rfl, ha', hk', _, _⟩ := hcs.open_
          have hsn : nsz n.kids[i] ≤ m := by have := nsz_get n hlt; have := HM.out; omega
          have hfu : full n.kids[i] ≤ 1000000000000 := by
            have h1 := full_form n
            have h2 := fullL_mem (List.getElem_mem hlt)
            omega
          have hcall := HIH.out n.kids[i] _ wr hsn hfu (hnv.keep HBW.out.block HBW.out.size)
          have hap : a ++ txtN n.kids[i] ++ txtL (n.kids.drop (i + 1)) = D := by rw [List.append_assoc, ← hfin]; exact HR.out
          have hsize : a.length + (txtN n.kids[i]).length ≤ 1000000000000 := by
            have := congrArg List.length hap
            simp only [List.length_append] at this
            omega
          have HC := Lib.hid hcall
          have HRR := Lib.hid hr'
          have HF := Lib.hid hap
          clear hr hr' hcs ha' hk' hfin hnv hsn hcall hfu hap
          generalize txtN n.kids[i] = dk at *
          go_wp2_with (first
            | (refine wp_load_node rfl _ rfl b (off + i * 7) rfl _ rfl HRR.out ?_)
            | (go_at_call 18; refine HC.out.mono ?_; rintro e w' ⟨rfl, hb'⟩))
          go_roundw
          case rel =>
            exact ⟨i + 1, a ++ dk, by omega, by go_num, rfl, HF.out, HB.out.trans (hb'.mono (by omega))⟩
          case measure => simp [intOf]; omega
        · obtain rfl : i = n.kids.length := by omega
          have hfin := HR.out
          rw [List.drop_length, txtL, List.append_nil] at hfin
          subst hfin
          go_wp2_with fail
          go_ret
          exact ⟨rfl, HBW.out⟩
end Go.Proofs.YtclhdppppgjgfaaGreatDoor
set_option linter.unusedVariables false
namespace Go.Proofs.YtclhdppppgjgfaaGreatDoor
open Go.RowKit

/-- A tree whose offsets are 0. -/
inductive Zer : Node → Prop
  | mk {n : Node} (hp : n.pos = 0) (ha : ∀ a ∈ n.attrs, a.pos = 0) (hk : ∀ k ∈ n.kids, Zer k) : Zer n
theorem Zer.form {n : Node} (h : Zer n) : n.pos = 0 ∧ (∀ a ∈ n.attrs, a.pos = 0) ∧ ∀ k ∈ n.kids, Zer k := by cases h with | mk a b c => exact ⟨a, b, c⟩
theorem zer_strip (g : Nat) : ∀ n : Node, nsz n ≤ g → Zer (stripN n) := by
  induction g with
  | zero => intro n h; cases n; rw [nsz] at h; omega
  | succ g ih =>
    intro n h
    rw [stripN_eq]
    refine .mk rfl (fun a ha => ?_) (fun k hk => ?_)
    · simp only [Node.attrs, List.mem_map] at ha
      obtain ⟨x, _, rfl⟩ := ha
      rfl
    · simp only [Node.kids, List.mem_map] at hk
      obtain ⟨x, hx, rfl⟩ := hk
      exact ih x (by have := nsz_lt n hx; omega)

set_option maxHeartbeats 4000000 in
theorem zero7_any (m : Nat) : ∀ (n : Node) (v : Value) (w : World), nsz n ≤ m → Fit n → Zer n → NodeV w w.heap.size n v →
    Calls Tryz.prog 22 #[v] w fun e w' => e = .returned (.int .i64 1) ∧ Below w.heap.size w w' := by
  induction m with
  | zero => intro n v w h; cases n; rw [nsz] at h; omega
  | succ m ih =>
    intro n v w hm hfit hz hv
    obtain ⟨A, cap, K, kcap, rfl, ha, hk, hcap, hkcap⟩ := hv.open_
    obtain ⟨hal, hkl, hfk⟩ := hfit.form
    obtain ⟨hp, hza, hzk⟩ := hz.form
    have HIH := Lib.hid ih
    have HA := Lib.hid ha
    have HK := Lib.hid hk
    have HM := Lib.hid hm
    have HZA := Lib.hid hza
    have HZK := Lib.hid hzk
    have HFK := Lib.hid hfk
    have t0 : (n.pos == 0) = true := by rw [hp]; rfl
    clear ih ha hk hv hm hza hzk hfk hz hfit hp
    go_enter Tryz.func22, Tryz.ntmps22
    go_wp2_with fail
    go_loopw [3, 14] (fun s3 i14 wr => ∃ i : Nat, i ≤ n.attrs.length ∧ i14 = .int .i64 i ∧ s3 = .bool true ∧ Below (w.heap.size + 1) (w.alloc (nodeBox n A cap K kcap)) wr) (fun _ i14 _ => n.attrs.length - (intOf i14).toNat)
    case atStart => exact ⟨0, Nat.zero_le _, rfl, rfl, Below.refl _ _⟩
    case round =>
      obtain ⟨i, hi, rfl, rfl, hb⟩ := hrel
      have hbw : Below w.heap.size w wr := ((Below.refl _ _).alloc (Nat.le_refl _) _).trans (hb.mono (by omega))
      have hbox : wr.heap[w.heap.size]? = some (nodeBox n A cap K kcap) := (hb.block _ (by omega)).trans (heap_alloc_new w _)
      have c3 := (box_cells hbox).2.2.2.1
      have c4 := (box_cells hbox).2.2.2.2.1
      have hsz := hb.size
      simp only [World.size_alloc] at hsz
      have HB := Lib.hid hb
      have HBW := Lib.hid hbw
      clear hb hbw hbox
      by_cases hlt : i < n.attrs.length
      · obtain ⟨b, off, rfl, hbl, hr⟩ := HA.out.at_ hlt
        have hr' := rangeAt_keep hr (HBW.out.block b hbl)
        have t1 : (n.attrs[i].pos == 0) = true := by rw [HZA.out _ (List.getElem_mem hlt)]; rfl
        generalize n.attrs[i] = a at *
        obtain ⟨W5, hW5⟩ : ∃ W5, wr.alloc (.cells #[.string (S a.space), .string (S a.name), .string (S a.value), .int .i64 a.pos] 39) = W5 := ⟨_, rfl⟩
        have hb5 : Below wr.heap.size wr W5 := by rw [← hW5]; exact (Below.refl _ _).alloc (Nat.le_refl _) _
        have hg5 : W5.heap[wr.heap.size]? = some (.cells #[.string (S a.space), .string (S a.name), .string (S a.value), .int .i64 a.pos] 39 (0, 0)) := by rw [← hW5]; exact heap_alloc_new _ _
        have c53 : W5.cell? ⟨wr.heap.size, 3, none⟩ = some (.int .i64 a.pos) := by rw [Lib.cell_of_heap hg5]; rfl
        have HB5 := Lib.hid (HB.out.trans (hb5.mono (by omega)))
        have HRR := Lib.hid hr'
        clear hr hr' hg5 hb5
        go_wp2_with (first
          | (with_reducible refine gate ?_; refine wp_load_att rfl _ rfl b (off + i * 4) rfl _ HRR.out ?_))
        go_roundw
        case rel => exact ⟨i + 1, by omega, by go_num, rfl, HB5.out⟩
        case measure => simp [intOf]; omega
      · obtain rfl : i = n.attrs.length := by omega
        go_wp2_with fail
        obtain ⟨W1, hW1⟩ : ∃ W1, wr = W1 := ⟨_, rfl⟩
        subst hW1
        go_loopw [3, 28] (fun s3 i28 wq => ∃ i : Nat, i ≤ n.kids.length ∧ i28 = .int .i64 i ∧ s3 = .bool true ∧ Below (w.heap.size + 1) (w.alloc (nodeBox n A cap K kcap)) wq) (fun _ i28 _ => n.kids.length - (intOf i28).toNat)
        case atStart => exact ⟨0, Nat.zero_le _, rfl, rfl, HB.out⟩
        case round =>
          obtain ⟨i, hi, rfl, rfl, hb⟩ := hrel
          have hbw : Below w.heap.size w wr := ((Below.refl _ _).alloc (Nat.le_refl _) _).trans (hb.mono (by omega))
          have hbox : wr.heap[w.heap.size]? = some (nodeBox n A cap K kcap) := (hb.block _ (by omega)).trans (heap_alloc_new w _)
          have d4 := (box_cells hbox).2.2.2.2.1
          have hsz2 := hb.size
          simp only [World.size_alloc] at hsz2
          have HB2 := Lib.hid hb
          have HBW2 := Lib.hid hbw
          clear hb hbw hbox c3 c4
          by_cases hlt : i < n.kids.length
          · obtain ⟨b, off, cs, rfl, hbl, hr, hcs⟩ := HK.out.at_ hlt
            have hr' : wr.rangeAt b (off + i * 7) cs := rangeAt_keep hr (HBW2.out.block b hbl)
            have hnv : NodeV w w.heap.size n.kids[i] (.agg cs.toArray) := ⟨cs, rfl, hcs⟩
            obtain ⟨A', c', K', d', rfl, ha', hk', _, _⟩ := hcs.open_
            have hsn : nsz n.kids[i] ≤ m := by have := nsz_get n hlt; have := HM.out; omega
            have hfk := HFK.out _ (List.getElem_mem hlt)
            have hzk := HZK.out _ (List.getElem_mem hlt)
            obtain ⟨W5, hW5⟩ : ∃ W5, wr.alloc (nodeBox n.kids[i] A' c' K' d') = W5 := ⟨_, rfl⟩
            have hb5 : Below wr.heap.size wr W5 := by rw [← hW5]; exact (Below.refl _ _).alloc (Nat.le_refl _) _
            have hg5 : W5.heap[wr.heap.size]? = some (nodeBox n.kids[i] A' c' K' d') := by rw [← hW5]; exact heap_alloc_new _ _
            obtain ⟨f0, f1, f2, f3, f4, f5, f6⟩ := cells7 hg5
            have hb6 := HBW2.out.trans (hb5.mono HBW2.out.size)
            have HC := Lib.hid (HIH.out n.kids[i] _ W5 hsn hfk hzk (hnv.keep hb6.block hb6.size))
            have HB5 := Lib.hid (HB2.out.trans (hb5.mono (by omega)))
            have HRR := Lib.hid hr'
            have hz5 := hb5.size
            clear hr hr' hcs ha' hk' hnv hsn hg5 hb5 hb6 hfk hzk
            generalize n.kids[i] = nk at *
            go_wp2_with (first
              | (with_reducible refine gate ?_; refine wp_load_node rfl _ rfl b (off + i * 7) rfl _ rfl HRR.out ?_)
              | (go_at_call 22; refine HC.out.mono ?_; rintro e w' ⟨rfl, hb'⟩))
            go_roundw
            case rel => exact ⟨i + 1, by omega, by go_num, rfl, HB5.out.trans (hb'.mono (by omega))⟩
            case measure => simp [intOf]; omega
          · obtain rfl : i = n.kids.length := by omega
            go_wp2_with fail
            go_ret
            exact ⟨rfl, HBW2.out⟩
end Go.Proofs.YtclhdppppgjgfaaGreatDoor
set_option linter.unusedVariables false
namespace Go.Proofs.YtclhdppppgjgfaaGreatDoor
open Go.RowKit

theorem tooLarge_cases7 (n : Node) : tooLarge n = 1 ∨ (tooLarge n = 0 ∧ full n ≤ 5000) := by
  unfold tooLarge
  by_cases h : 5000 < wgt n 0
  · rw [if_pos h]; exact .inl rfl
  · rw [if_neg h]; exact .inr ⟨rfl, small_of (by omega)⟩
mutual
theorem eqv_strip : ∀ n : Node, eqv false n (stripN n) = true
  | .mk k s nm ats ks t p => by
    rw [stripN, eqv]
    simp only [Node.attrs, Node.kids]
    rw [(attsEqv_strip ats), kidsEqv_strip ks]
    simp [headEqv, Node.kind, Node.space, Node.name, Node.text, Node.attrs, Node.kids, stripL_map]
theorem kidsEqv_strip : ∀ ks : List Node, kidsEqv false ks (stripL ks) = true
  | [] => by rw [stripL]; exact kidsEqv_nil _ _
  | k :: ks => by rw [stripL, kidsEqv, eqv_strip k, kidsEqv_strip ks]; rfl
theorem attsEqv_strip : ∀ l : List Att, attsEqv false l (l.map stripA) = true
  | [] => attsEqv_nil _ _
  | a :: l => by rw [List.map_cons, attsEqv, attsEqv_strip l]; simp [attEqv, stripA]
end
mutual
theorem nsz_strip : ∀ n : Node, nsz (stripN n) = nsz n
  | .mk k s nm ats ks t p => by rw [stripN, nsz, nsz, nszL_strip ks]
theorem nszL_strip : ∀ ks : List Node, nszL (stripL ks) = nszL ks
  | [] => by rw [stripL]
  | k :: ks => by rw [stripL, nszL, nszL, nsz_strip k, nszL_strip ks]
end
theorem fit_strip (g : Nat) : ∀ n : Node, nsz n ≤ g → Fit n → Fit (stripN n) := by
  induction g with
  | zero => intro n h; cases n; rw [nsz] at h; omega
  | succ g ih =>
    intro n h hf
    obtain ⟨h1, h2, h3⟩ := hf.form
    rw [stripN_eq]
    refine Fit.of_form (by simpa [Node.attrs] using h1) (by simpa [Node.kids] using h2) (fun k hk => ?_)
    simp only [Node.kids, List.mem_map] at hk
    obtain ⟨x, hx, rfl⟩ := hk
    exact ih x (by have := nsz_lt n hx; omega) (h3 x hx)

set_option maxHeartbeats 8000000 in
set_option maxRecDepth 100000 in
theorem law7functions_any (n k : Node) (v u : Value) (m : Int) (w : World) (hT : Tabs w) (hM : MaxLen m w) (hf : Fit n) (hg : Fit k) (hv : NodeV w w.heap.size n v) (hu : NodeV w w.heap.size k u) :
    Calls Tryz.prog 4 #[v, u] w fun e w' => e = .returned (.bool true) ∧ Below w.heap.size w w' := by
  have htl := fun W => fun (hW : Below w.heap.size w W) => tooLarge_any n v W hf (hv.keep hW.block hW.size)
  have htm := fun W => fun (hW : Below w.heap.size w W) => tooLarge_any k u W hg (hu.keep hW.block hW.size)
  have hal := fun W => fun (hW : Below w.heap.size w W) => alive7_any m W (hT.next hW) (hM.below hW)
  have HAL := Lib.hid hal
  have F2 : Hid (∀ x y, Below w.heap.size w ((w.alloc x).alloc y)) := Lib.hid (fun x y => ((Below.refl _ _).alloc (Nat.le_refl _) x).alloc (by simp) y)
  rcases tooLarge_cases7 n with h | ⟨h, hs⟩
  · rw [h] at htl
    obtain ⟨A, cap, K, kcap, rfl, ha, hk, hcap, hkcap⟩ := hv.open_
    obtain ⟨A2, cap2, K2, kcap2, rfl, ha2, hk2, hcap2, hkcap2⟩ := hu.open_
    have HTL := Lib.hid htl
    clear htl htm hal hv hu ha hk ha2 hk2 hT hM hf hg h
    go_enter Tryz.func4, Tryz.ntmps4
    go_wp2_with (first
      | (go_at_call 15; refine (HTL.out _ (F2.out _ _)).mono ?_; rintro e w1 ⟨rfl, hb1⟩; have hb1' := (F2.out _ _).trans (hb1.mono (show w.heap.size ≤ ((w.alloc _).alloc _).heap.size by simp; omega)))
      | (go_at_call 11; refine (HAL.out _ hb1').mono ?_; rintro e w2 ⟨rfl, hb2⟩))
    go_ret
    exact ⟨rfl, hb1'.trans (hb2.mono hb1'.size)⟩
  obtain ⟨A, cap, K, kcap, rfl, _, _, _, _⟩ := hv.open_
  obtain ⟨A2, cap2, K2, kcap2, rfl, _, _, _, _⟩ := hu.open_
  have hbn : NodeV (w.alloc (nodeBox n A cap K kcap)) (w.alloc (nodeBox n A cap K kcap)).heap.size k (nodeAgg k A2 cap2 K2 kcap2) := hu.keep (fun j hj => Below.heap_alloc _ _ _ hj) (by simp)
  have N1 := Lib.hid ((Nbx.new hv).keep ((Below.refl _ _).alloc (Nat.le_refl _) (nodeBox k A2 cap2 K2 kcap2)))
  have N2' := Nbx.new hbn
  have z1 : (w.alloc (nodeBox n A cap K kcap)).heap.size = w.heap.size + 1 := by simp
  rw [z1] at N2'
  have N2 := Lib.hid N2'
  have BB0 := Lib.hid (F2.out (nodeBox n A cap K kcap) (nodeBox k A2 cap2 K2 kcap2))
  clear hbn N2' z1
  rcases tooLarge_cases7 k with h2 | ⟨h2, hs2⟩
  · rw [h] at htl
    rw [h2] at htm
    have HTL := Lib.hid htl
    have HTM := Lib.hid htm
    clear htl htm hal hv hu hT hM hf hg h h2 hs
    go_enter Tryz.func4, Tryz.ntmps4
    go_wp2_with fail
    generalize (w.alloc (nodeBox n A cap K kcap)).alloc (nodeBox k A2 cap2 K2 kcap2) = W0 at *
    refine (HTL.out _ BB0.out).mono ?_
    rintro e w1 ⟨rfl, hb1⟩
    have BB1 := Lib.hid (BB0.out.trans (hb1.mono BB0.out.size))
    obtain ⟨l0, l1, l2, l3, l4, l5, l6⟩ := (N2.out.keep hb1).cells
    clear hb1
    go_wp2_with fail
    refine (HTM.out _ BB1.out).mono ?_
    rintro e w2 ⟨rfl, hb2⟩
    have BB2 := Lib.hid (BB1.out.trans (hb2.mono BB1.out.size))
    clear hb2
    go_wp2_with (go_at_call 11; refine (HAL.out _ BB2.out).mono ?_; rintro e w3 ⟨rfl, hb3⟩)
    go_ret
    exact ⟨rfl, BB2.out.trans (hb3.mono BB2.out.size)⟩
  rw [h] at htl
  rw [h2] at htm
  have hsn := nsz_full n
  have hsk := nsz_full k
  have hstr := fun W (hv : NodeV W W.heap.size n (nodeAgg n A cap K kcap)) => strip7_any 5000 n _ W (by omega) (slim_of_full (by omega)) hv
  have htx := fun W (hv : NodeV W W.heap.size n (nodeAgg n A cap K kcap)) => text7_any n _ W (by omega) hv
  have htr := fun W (hv : NodeV W W.heap.size n (nodeAgg n A cap K kcap)) => refText_any 5000 n _ W (by omega) (by omega) hv
  have hdp := fun W (hv : NodeV W W.heap.size n (nodeAgg n A cap K kcap)) => depth7_any 5000 n _ W (by omega) (by decide) hv
  have hdr := fun W (hv : NodeV W W.heap.size n (nodeAgg n A cap K kcap)) => refDepth_any 5000 n _ W (by omega) (by decide) hv
  have heq := fun W (hv : NodeV W W.heap.size n (nodeAgg n A cap K kcap)) (hu : NodeV W W.heap.size k (nodeAgg k A2 cap2 K2 kcap2)) => equal7_any 5000 n k _ _ W (by omega) hf hg hv hu
  have her := fun W (hv : NodeV W W.heap.size n (nodeAgg n A cap K kcap)) (hu : NodeV W W.heap.size k (nodeAgg k A2 cap2 K2 kcap2)) => refEqual_any false n k _ _ W hv hu hf hg
  have hes := fun W y (hv : NodeV W W.heap.size n (nodeAgg n A cap K kcap)) (hu : NodeV W W.heap.size (stripN n) y) => refEqual_any false n (stripN n) _ y W hv hu hf (fit_strip _ n (Nat.le_refl _) hf)
  simp only [eqv_strip] at hes
  have hzr := fun W y (hu : NodeV W W.heap.size (stripN n) y) => zero7_any 5000 (stripN n) y W (by rw [nsz_strip]; omega) (fit_strip _ n (Nat.le_refl _) hf) (zer_strip _ n (Nat.le_refl _)) hu
  have e1 : (S (txtN n) == S (txtN n)) = true := by rw [S_beq']; simp
  have e2 : (((depth n : Nat) : Int) == ((depth n : Nat) : Int)) = true := by simp
  have e3 : (eqv false n k == eqv false n k) = true := by simp
  generalize txtN n = tx at *
  generalize depth n = dn at *
  generalize eqv false n k = eb at *
  generalize stripN n = ns at *
  have HTL := Lib.hid htl
  have HTM := Lib.hid htm
  have HST := Lib.hid hstr
  have HTX := Lib.hid htx
  have HTR := Lib.hid htr
  have HDP := Lib.hid hdp
  have HDR := Lib.hid hdr
  have HEQ := Lib.hid heq
  have HER := Lib.hid her
  have HES := Lib.hid hes
  have HZR := Lib.hid hzr
  clear htl htm hal hv hu hT hM hf hg h h2 hs hs2 hsn hsk hstr htx htr hdp hdr heq her hes hzr
  go_enter Tryz.func4, Tryz.ntmps4
  go_wp2_with fail
  generalize (w.alloc (nodeBox n A cap K kcap)).alloc (nodeBox k A2 cap2 K2 kcap2) = W0 at *
  refine (HTL.out _ BB0.out).mono ?_
  rintro e w1 ⟨rfl, hb1⟩
  have BB1 := Lib.hid (BB0.out.trans (hb1.mono BB0.out.size))
  have N1a := Lib.hid (N1.out.keep hb1)
  have N2a := Lib.hid (N2.out.keep hb1)
  obtain ⟨l0, l1, l2, l3, l4, l5, l6⟩ := N2a.out.cells
  clear hb1 N1 N2
  go_wp2_with fail
  refine (HTM.out _ BB1.out).mono ?_
  rintro e w2 ⟨rfl, hb2⟩
  have BB2 := Lib.hid (BB1.out.trans (hb2.mono BB1.out.size))
  have N1b := Lib.hid (N1a.out.keep hb2)
  have N2b := Lib.hid (N2a.out.keep hb2)
  clear l0 l1 l2 l3 l4 l5 l6
  obtain ⟨l0, l1, l2, l3, l4, l5, l6⟩ := N1b.out.cells
  clear hb2 N1a N2a
  go_wp2_with fail
  refine (HST.out _ N1b.out.tree).mono ?_
  rintro e w3 ⟨y, rfl, hy, hb3⟩
  have hy' : NodeV w3 w3.heap.size ns y := hy.toV (fun j hj => hj.2.1)
  obtain ⟨A3, cap3, K3, kcap3, rfl, _, _, _, _⟩ := hy'.open_
  have X3 := hb3.alloc hb3.size (nodeBox ns A3 cap3 K3 kcap3)
  have N1c := Lib.hid (N1b.out.keep X3)
  have N2c := Lib.hid (N2b.out.keep X3)
  have N3c := Lib.hid (Nbx.new hy')
  have BB3 := Lib.hid (BB2.out.trans (X3.mono BB2.out.size))
  clear l0 l1 l2 l3 l4 l5 l6 hy hy' hb3 X3 N1b N2b
  go_wp2_with fail
  obtain ⟨b3, hw3⟩ : ∃ b3, w3.heap.size = b3 := ⟨_, rfl⟩
  rw [hw3] at N3c ⊢
  clear hw3
  generalize w3.alloc (nodeBox ns A3 cap3 K3 kcap3) = W3 at *
  obtain ⟨b1, hb1⟩ : ∃ b1, w.heap.size = b1 := ⟨_, rfl⟩
  have hN1 : ∀ W, Below W3.heap.size W3 W → Nbx W w.heap.size n A cap K kcap := fun W hW => N1c.out.keep hW
  have hN2 : ∀ W, Below W3.heap.size W3 W → Nbx W (w.heap.size + 1) k A2 cap2 K2 kcap2 := fun W hW => N2c.out.keep hW
  have hN3 : ∀ W, Below W3.heap.size W3 W → Nbx W b3 ns A3 cap3 K3 kcap3 := fun W hW => N3c.out.keep hW
  have HN1 := Lib.hid hN1
  have HN2 := Lib.hid hN2
  have HN3 := Lib.hid hN3
  have hKP : ∀ W, Below W3.heap.size W3 W → ((W.cell? ⟨w.heap.size, 0, none⟩ = some (.int .i64 n.kind) ∧ W.cell? ⟨w.heap.size, 1, none⟩ = some (.string (S n.space)) ∧ W.cell? ⟨w.heap.size, 2, none⟩ = some (.string (S n.name)) ∧ W.cell? ⟨w.heap.size, 3, none⟩ = some (.slice A n.attrs.length cap) ∧ W.cell? ⟨w.heap.size, 4, none⟩ = some (.slice K n.kids.length kcap) ∧ W.cell? ⟨w.heap.size, 5, none⟩ = some (.string (S n.text)) ∧ W.cell? ⟨w.heap.size, 6, none⟩ = some (.int .i64 n.pos)) ∧ (W.cell? ⟨w.heap.size + 1, 0, none⟩ = some (.int .i64 k.kind) ∧ W.cell? ⟨w.heap.size + 1, 1, none⟩ = some (.string (S k.space)) ∧ W.cell? ⟨w.heap.size + 1, 2, none⟩ = some (.string (S k.name)) ∧ W.cell? ⟨w.heap.size + 1, 3, none⟩ = some (.slice A2 k.attrs.length cap2) ∧ W.cell? ⟨w.heap.size + 1, 4, none⟩ = some (.slice K2 k.kids.length kcap2) ∧ W.cell? ⟨w.heap.size + 1, 5, none⟩ = some (.string (S k.text)) ∧ W.cell? ⟨w.heap.size + 1, 6, none⟩ = some (.int .i64 k.pos)) ∧ (W.cell? ⟨b3, 0, none⟩ = some (.int .i64 ns.kind) ∧ W.cell? ⟨b3, 1, none⟩ = some (.string (S ns.space)) ∧ W.cell? ⟨b3, 2, none⟩ = some (.string (S ns.name)) ∧ W.cell? ⟨b3, 3, none⟩ = some (.slice A3 ns.attrs.length cap3) ∧ W.cell? ⟨b3, 4, none⟩ = some (.slice K3 ns.kids.length kcap3) ∧ W.cell? ⟨b3, 5, none⟩ = some (.string (S ns.text)) ∧ W.cell? ⟨b3, 6, none⟩ = some (.int .i64 ns.pos))) := fun W hW => ⟨(HN1.out W hW).cells, (HN2.out W hW).cells, (HN3.out W hW).cells⟩
  have KEEP := Lib.hid hKP
  clear hN1 hN2 hN3 hKP hb1 N1c N2c N3c
  go_region_held3 (fun x => (x.cell? ⟨w.heap.size, 0, none⟩ = some (.int .i64 n.kind) ∧ x.cell? ⟨w.heap.size, 1, none⟩ = some (.string (S n.space)) ∧ x.cell? ⟨w.heap.size, 2, none⟩ = some (.string (S n.name)) ∧ x.cell? ⟨w.heap.size, 3, none⟩ = some (.slice A n.attrs.length cap) ∧ x.cell? ⟨w.heap.size, 4, none⟩ = some (.slice K n.kids.length kcap) ∧ x.cell? ⟨w.heap.size, 5, none⟩ = some (.string (S n.text)) ∧ x.cell? ⟨w.heap.size, 6, none⟩ = some (.int .i64 n.pos)) ∧ (x.cell? ⟨w.heap.size + 1, 0, none⟩ = some (.int .i64 k.kind) ∧ x.cell? ⟨w.heap.size + 1, 1, none⟩ = some (.string (S k.space)) ∧ x.cell? ⟨w.heap.size + 1, 2, none⟩ = some (.string (S k.name)) ∧ x.cell? ⟨w.heap.size + 1, 3, none⟩ = some (.slice A2 k.attrs.length cap2) ∧ x.cell? ⟨w.heap.size + 1, 4, none⟩ = some (.slice K2 k.kids.length kcap2) ∧ x.cell? ⟨w.heap.size + 1, 5, none⟩ = some (.string (S k.text)) ∧ x.cell? ⟨w.heap.size + 1, 6, none⟩ = some (.int .i64 k.pos)) ∧ (x.cell? ⟨b3, 0, none⟩ = some (.int .i64 ns.kind) ∧ x.cell? ⟨b3, 1, none⟩ = some (.string (S ns.space)) ∧ x.cell? ⟨b3, 2, none⟩ = some (.string (S ns.name)) ∧ x.cell? ⟨b3, 3, none⟩ = some (.slice A3 ns.attrs.length cap3) ∧ x.cell? ⟨b3, 4, none⟩ = some (.slice K3 ns.kids.length kcap3) ∧ x.cell? ⟨b3, 5, none⟩ = some (.string (S ns.text)) ∧ x.cell? ⟨b3, 6, none⟩ = some (.int .i64 ns.pos)))
    (first | exact KEEP.out _ R9.out | exact KEEP.out _ R8.out | exact KEEP.out _ R7.out | exact KEEP.out _ R6.out | exact KEEP.out _ R5.out | exact KEEP.out _ R4.out | exact KEEP.out _ R3.out | exact KEEP.out _ R2.out | exact KEEP.out _ R1.out | exact KEEP.out _ (Below.refl _ _).drew)
    (first
      | ((go_at_call 11; refine (HAL.out _ (BB3.out.trans ((Below.refl W3.heap.size W3).drew.mono BB3.out.size))).mono ?_; rintro e q1 ⟨rfl, hb5⟩; have R1 : Hid (Below W3.heap.size W3 q1) := Lib.hid ((Below.refl _ _).drew.trans hb5); clear hb5))
      | ((go_at_call 17; refine (HTX.out _ (HN1.out _ R1.out).tree).mono ?_; rintro e q2 ⟨rfl, hb5⟩; have R2 := Lib.hid (R1.out.trans (hb5.mono R1.out.size)); clear hb5))
      | ((go_at_call 18; refine (HTR.out _ (HN1.out _ R2.out).tree).mono ?_; rintro e q3 ⟨rfl, hb5⟩; have R3 := Lib.hid (R2.out.trans (hb5.mono R2.out.size)); clear hb5))
      | ((go_at_call 19; refine (HDP.out _ (HN1.out _ R3.out).tree).mono ?_; rintro e q4 ⟨rfl, hb5⟩; have R4 := Lib.hid (R3.out.trans (hb5.mono R3.out.size)); clear hb5))
      | ((go_at_call 20; refine (HDR.out _ (HN1.out _ R4.out).tree).mono ?_; rintro e q5 ⟨rfl, hb5⟩; have R5 := Lib.hid (R4.out.trans (hb5.mono R4.out.size)); clear hb5))
      | ((go_at_call 21; refine (HEQ.out _ (HN1.out _ R5.out).tree (HN2.out _ R5.out).tree).mono ?_; rintro e q6 ⟨rfl, hb5⟩; have R6 := Lib.hid (R5.out.trans (hb5.mono R5.out.size)); clear hb5))
      | ((go_at_call 14; (with_reducible refine (HER.out _ (HN1.out _ R6.out).tree (HN2.out _ R6.out).tree).mono ?_); rintro e q7 ⟨rfl, hb5⟩; have R7 := Lib.hid (R6.out.trans (hb5.mono R6.out.size)); clear hb5))
      | ((go_at_call 14; (with_reducible refine (HES.out _ _ (HN1.out _ R7.out).tree (HN3.out _ R7.out).tree).mono ?_); rintro e q8 ⟨rfl, hb5⟩; have R8 := Lib.hid (R7.out.trans (hb5.mono R7.out.size)); clear hb5))
      | ((go_at_call 22; refine (HZR.out _ _ (HN3.out _ R8.out).tree).mono ?_; rintro e q9 ⟨rfl, hb5⟩; have R9 := Lib.hid (R8.out.trans (hb5.mono R8.out.size)); clear hb5)))
  all_goals
    go_wp2_with fail
    go_ret
    exact ⟨rfl, BB3.out.trans (R9.out.mono BB3.out.size)⟩
end Go.Proofs.YtclhdppppgjgfaaGreatDoor
