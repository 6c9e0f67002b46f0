/-
  Several texts in one file, in build order:
  - Walk of chapter 7's program: the depth of a tree.
  - Walk of chapter 7's program: the text of a tree.
  - Walks of chapter 6's statements: the examples; whether two rows of tokens are the same.
  - Walks of chapter 7's program: sameAttr, and lists of attributes compared by it.
  - Walks of chapter 7's program: Equal.
-/
import Derived.Test.YtclhdppppgjgfaaGreatDoorH4
import Derived.WalkSpells
import Derived.WalkLawsBesides
import Derived.Test.YtclhdppppgjgfaaGreatDoorH12
import Derived.Laws.StructEq
set_option linter.unusedVariables false
namespace Go.Proofs.YtclhdppppgjgfaaGreatDoor
open Go.RowKit

set_option maxHeartbeats 2000000 in
theorem depth7_any (m : Nat) : ∀ (n : Node) (v : Value) (w : World), nsz n ≤ m → m ≤ 4611686018427387904 → NodeV w w.heap.size n v →
    Calls Tryz.prog 19 #[v] w fun e w' => e = .returned (.int .i64 (depth n : Nat)) ∧ Below w.heap.size w w' := by
  induction m with
  | zero => intro n v w h; cases n; rw [nsz] at h; omega
  | succ m ih =>
    intro n v w hm hbig hv
    obtain ⟨A, cap, K, kcap, rfl, ha, hk, hcap, hkcap⟩ := hv.open_
    have hdep := depth_nsz _ n (Nat.le_refl _)
    have hkl : n.kids.length ≤ 4611686018427387904 := by
      have h1 : n.kids.length ≤ nszL n.kids := by
        generalize n.kids = ks
        induction ks with
        | nil => simp
        | cons x ks ih => rw [nszL]; have : 1 ≤ nsz x := by cases x; rw [nsz]; omega
                          simp only [List.length_cons]; omega
      have h2 : nszL n.kids < nsz n := by cases n; simp only [Node.kids]; rw [nsz]; omega
      omega
    have HIH := Lib.hid ih
    have HK := Lib.hid hk
    have HM := Lib.hid hm
    clear ih ha hk hv hm
    by_cases h1 : n.kind = 1
    · have hd : depth n = 0 := by rw [depth_eq, if_pos h1]
      have t : (n.kind == 1) = true := by rw [h1]; rfl
      have HD := Lib.hid hd
      clear hd h1 hdep
      go_enter Tryz.func19, Tryz.ntmps19
      go_wp2_with fail
      go_ret
      exact ⟨ret_int (by rw [HD.out]; rfl), (Below.refl _ _).alloc (Nat.le_refl _) _⟩
    · have hd : depth n = depthL n.kids 0 + 1 := by rw [depth_eq, if_neg h1]
      have t : (n.kind == 1) = false := by rw [beq_eq_false_iff_ne]; exact h1
      rw [hd] at hdep ⊢
      generalize hD : depthL n.kids 0 = D at *
      have HD := Lib.hid hD
      clear hd h1 hD
      go_enter Tryz.func19, Tryz.ntmps19
      go_wp2_with fail
      go_loopw [3, 12] (fun s3 i4 wr => ∃ (i a : Nat), i ≤ n.kids.length ∧ i4 = .int .i64 i ∧ s3 = .int .i64 a ∧ depthL (n.kids.drop i) a = D ∧ Below (w.heap.size + 1) (w.alloc (nodeBox n A cap K kcap)) wr) (fun _ i4 _ => n.kids.length - (intOf i4).toNat)
      case atStart => exact ⟨0, 0, Nat.zero_le _, rfl, rfl, by rw [List.drop_zero]; exact HD.out, Below.refl _ _⟩
      case round =>
        obtain ⟨i, a, hi, rfl, rfl, hrem, hb⟩ := hrel
        have hbw : Below w.heap.size w wr := ((Below.refl _ _).alloc (Nat.le_refl _) _).trans (hb.mono (by omega))
        have hbox : wr.heap[w.heap.size]? = some (nodeBox n A cap K kcap) := (hb.block _ (by omega)).trans (heap_alloc_new w _)
        have c4 := (box_cells hbox).2.2.2.2.1
        have hsz := hb.size
        simp only [World.size_alloc] at hsz
        have HB := Lib.hid hb
        have HBW := Lib.hid hbw
        have HR := Lib.hid hrem
        clear hb hbw hrem hbox
        by_cases hlt : i < n.kids.length
        · have hfin := depthL_step (a := a) hlt
          rw [HR.out] at hfin
          obtain ⟨b, off, cs, rfl, hbl, hr, hcs⟩ := HK.out.at_ hlt
          have hr' : wr.rangeAt b (off + i * 7) cs := rangeAt_keep hr (HBW.out.block b hbl)
          have hnv : NodeV w w.heap.size n.kids[i] (.agg cs.toArray) := ⟨cs, rfl, hcs⟩
          obtain ⟨A', c', K', d', rfl, ha', hk', _, _⟩ := hcs.open_
          have hsn : nsz n.kids[i] ≤ m := by have := nsz_get n hlt; have := HM.out; omega
          obtain ⟨W5, hW5⟩ : ∃ W5, wr.alloc (.cells #[.int .i64 n.kids[i].kind, .string (S n.kids[i].space), .string (S n.kids[i].name), .slice A' n.kids[i].attrs.length c', .slice K' n.kids[i].kids.length d', .string (S n.kids[i].text), .int .i64 n.kids[i].pos] 26) = W5 := ⟨_, rfl⟩
          have hb5 : Below wr.heap.size wr W5 := by rw [← hW5]; exact (Below.refl _ _).alloc (Nat.le_refl _) _
          have hg5 : W5.heap[wr.heap.size]? = some (.cells #[.int .i64 n.kids[i].kind, .string (S n.kids[i].space), .string (S n.kids[i].name), .slice A' n.kids[i].attrs.length c', .slice K' n.kids[i].kids.length d', .string (S n.kids[i].text), .int .i64 n.kids[i].pos] 26 (0, 0)) := by rw [← hW5]; exact heap_alloc_new _ _
          have hz5 := hb5.size
          have hr5 := range_of_heap (cs := [.int .i64 n.kids[i].kind, .string (S n.kids[i].space), .string (S n.kids[i].name), .slice A' n.kids[i].attrs.length c', .slice K' n.kids[i].kids.length d', .string (S n.kids[i].text), .int .i64 n.kids[i].pos]) hg5
          have hb6 := HBW.out.trans (hb5.mono HBW.out.size)
          have hcall := HIH.out n.kids[i] _ W5 hsn (by omega) (hnv.keep hb6.block hb6.size)
          have HC := Lib.hid hcall
          have HR5 := Lib.hid hr5
          have HB5 := Lib.hid (HB.out.trans (hb5.mono (by omega)))
          have HRR := Lib.hid hr'
          have HF := Lib.hid hfin
          clear hr hr' hcs ha' hk' hfin hnv hsn hcall hr5 hg5 hb5 hb6
          generalize depth n.kids[i] = dk at *
          generalize n.kids[i] = nk at *
          go_wp2_with (first
            | (with_reducible refine gate ?_; refine wp_load_node rfl _ rfl b (off + i * 7) rfl _ rfl HRR.out ?_)
            | (with_reducible refine gate ?_; refine wp_load_node rfl _ rfl wr.heap.size 0 rfl _ rfl HR5.out ?_)
            | (go_at_call 19; refine HC.out.mono ?_; rintro e w' ⟨rfl, hb'⟩))
          go_roundw
          case rel =>
            exact ⟨i + 1, max a dk, by omega, by go_num, val_int (by omega), HF.out.symm, HB5.out.trans (hb'.mono (by omega))⟩
          case measure => simp [intOf]; omega
        · obtain rfl : i = n.kids.length := by omega
          have hfin := HR.out
          rw [List.drop_length, depthL] at hfin
          have hab : (a : Int) ≤ 4611686018427387904 := by have := HM.out; omega
          have HF := Lib.hid hfin
          clear hfin
          go_wp2_with fail
          go_ret
          exact ⟨ret_int (by rw [← HF.out]; omega), HBW.out⟩
end Go.Proofs.YtclhdppppgjgfaaGreatDoor
set_option linter.unusedVariables false
namespace Go.Proofs.YtclhdppppgjgfaaGreatDoor
open Go.RowKit

/-! Plain: the character data of a tree. -/
mutual
def txtN : Node → Bytes
  | .mk k _ _ _ ks t _ => if k = 1 then t else txtL ks
def txtL : List Node → Bytes
  | [] => []
  | k :: ks => txtN k ++ txtL ks
end
theorem txtN_eq (n : Node) : txtN n = if n.kind = 1 then n.text else txtL n.kids := by cases n; rw [txtN]; rfl
theorem txtL_step {ks : List Node} {i : Nat} (hi : i < ks.length) : txtL (ks.drop i) = txtN ks[i] ++ txtL (ks.drop (i + 1)) := by
  rw [List.drop_eq_getElem_cons hi, txtL]
mutual
theorem txtN_len : ∀ n : Node, (txtN n).length ≤ full n
  | .mk k s nm ats ks t p => by
    have := txtL_len ks
    rw [txtN, full]
    split <;> omega
theorem txtL_len : ∀ ks : List Node, (txtL ks).length ≤ fullL ks
  | [] => by rw [txtL, fullL]; simp
  | k :: ks => by
    have := txtN_len k
    have := txtL_len ks
    rw [txtL, fullL, List.length_append]; omega
end
set_option maxHeartbeats 2000000 in
theorem write7_any (B b : Nat) (m : Nat) : ∀ (n : Node) (v : Value) (l : Bytes) (w : World), nsz n ≤ m → m ≤ 4611686018427387904 → l.length + full n ≤ 140737488355328 → B ≤ w.heap.size → Bld B b l w → NodeV w B n v →
    Calls Tryz.prog 38 #[.pointer (some ⟨b, 0, none⟩), v] w fun e w' => e = .returned (.tuple #[]) ∧ Bld B b (l ++ txtN n) w' ∧ Below B w w' := by
  induction m with
  | zero => intro n v l w h; cases n; rw [nsz] at h; omega
  | succ m ih =>
    intro n v l w hm hbig hlen hB hbl hv
    obtain ⟨A, cap, K, kcap, rfl, ha, hk, hcap, hkcap⟩ := hv.open_
    have hkl : n.kids.length ≤ 4611686018427387904 := by
      have h1 : n.kids.length ≤ nszL n.kids := by
        generalize n.kids = ks
        induction ks with
        | nil => simp
        | cons x ks ih => rw [nszL]; have : 1 ≤ nsz x := by cases x; rw [nsz]; omega
                          simp only [List.length_cons]; omega
      have h2 : nszL n.kids < nsz n := by cases n; simp only [Node.kids]; rw [nsz]; omega
      omega
    obtain ⟨W1, hW1⟩ : ∃ W1, w.alloc (.cells #[.int .i64 n.kind, .string (S n.space), .string (S n.name), .slice A n.attrs.length cap, .slice K n.kids.length kcap, .string (S n.text), .int .i64 n.pos] 26) = W1 := ⟨_, rfl⟩
    have hb1 : Below w.heap.size w W1 := by rw [← hW1]; exact (Below.refl _ _).alloc (Nat.le_refl _) _
    have hg1 : W1.heap[w.heap.size]? = some (.cells #[.int .i64 n.kind, .string (S n.space), .string (S n.name), .slice A n.attrs.length cap, .slice K n.kids.length kcap, .string (S n.text), .int .i64 n.pos] 26 (0, 0)) := by rw [← hW1]; exact heap_alloc_new _ _
    obtain ⟨c0, c1, c2, c3, c4, c5, c6⟩ := cells7 hg1
    have hbl1 := hbl.below hb1
    have hz1 := hb1.size
    have hff := full_form n
    have hfl := full_form n
    have htl := txtN_len n
    have HIH := Lib.hid ih
    have HK := Lib.hid hk
    have HM := Lib.hid hm
    have HB1 := Lib.hid (hb1.mono hB)
    have HBL := Lib.hid hbl1
    clear ih ha hk hv hm hg1 hb1 hbl hbl1
    by_cases h1 : n.kind = 1
    · have hd : txtN n = n.text := by rw [txtN_eq, if_pos h1]
      have t : (n.kind == 1) = true := by rw [h1]; rfl
      rw [hd]
      have hws := writeString_any B b l n.text W1 HBL.out (by omega) (by omega)
      have HWS := Lib.hid hws
      clear hd h1 hws
      go_enter Tryz.func38, Tryz.ntmps38
      go_wp2_with (go_at_call 47; refine HWS.out.mono ?_; rintro e w2 ⟨rfl, hbl2, hb2, _⟩)
      (try simp only [Exit.inBlock, Exit.then])
      refine bodyPost_ret (results_none rfl _ _ _) rfl ?_
      exact ⟨rfl, hbl2, HB1.out.trans hb2⟩
    · have hd : txtN n = txtL n.kids := by rw [txtN_eq, if_neg h1]
      have t : (n.kind == 1) = false := by rw [beq_eq_false_iff_ne]; exact h1
      rw [hd] at htl ⊢
      obtain ⟨T, hT⟩ : ∃ T, l ++ txtL n.kids = T := ⟨_, rfl⟩
      have hl0 : l.length + fullL n.kids ≤ 140737488355328 := by omega
      rw [hT]
      have HT := Lib.hid hT
      clear hd h1 hT
      go_enter Tryz.func38, Tryz.ntmps38
      go_wp2_with fail
      go_loopw [16] (fun i16 wr => ∃ (i : Nat) (x : Bytes), i ≤ n.kids.length ∧ i16 = .int .i64 i ∧ x ++ txtL (n.kids.drop i) = T ∧ x.length + fullL (n.kids.drop i) ≤ 140737488355328 ∧ Bld B b x wr ∧ Below B W1 wr) (fun i16 _ => n.kids.length - (intOf i16).toNat)
      case atStart => exact ⟨0, l, Nat.zero_le _, rfl, by rw [List.drop_zero]; exact HT.out, by rw [List.drop_zero]; exact hl0, HBL.out, Below.refl _ _⟩
      case round =>
        clear HBL HT
        obtain ⟨i, x, hi, rfl, hrem, hxl, hbx, hb⟩ := hrel
        have hsz := hb.size
        have HB := Lib.hid hb
        have HBX := Lib.hid hbx
        clear hb hbx
        by_cases hlt : i < n.kids.length
        · have hlt' : (i : Int) < n.kids.length := by omega
          rw [txtL_step hlt, ← List.append_assoc] at hrem
          obtain ⟨bb, off, cs, rfl, hbl, hr, hcs⟩ := HK.out.at_ hlt
          have hBw := HB1.out.trans HB.out
          have hr' : wr.rangeAt bb (off + i * 7) cs := rangeAt_keep hr (hBw.block bb hbl)
          have hnv : NodeV w B n.kids[i] (.agg cs.toArray) := ⟨cs, rfl, hcs⟩
          obtain ⟨A', c', K', d', rfl, ha', hk', _, _⟩ := hcs.open_
          have hsn : nsz n.kids[i] ≤ m := by have := nsz_get n hlt; have := HM.out; omega
          have hxl2 : x.length + (full n.kids[i] + fullL (n.kids.drop (i + 1))) ≤ 140737488355328 := by
            rw [List.drop_eq_getElem_cons hlt, fullL] at hxl; exact hxl
          have htk := txtN_len n.kids[i]
          obtain ⟨W5, hW5⟩ : ∃ W5, wr.alloc (.cells #[.int .i64 n.kids[i].kind, .string (S n.kids[i].space), .string (S n.kids[i].name), .slice A' n.kids[i].attrs.length c', .slice K' n.kids[i].kids.length d', .string (S n.kids[i].text), .int .i64 n.kids[i].pos] 26) = W5 := ⟨_, rfl⟩
          have hb5 : Below wr.heap.size wr W5 := by rw [← hW5]; exact (Below.refl _ _).alloc (Nat.le_refl _) _
          have hg5 : W5.heap[wr.heap.size]? = some (.cells #[.int .i64 n.kids[i].kind, .string (S n.kids[i].space), .string (S n.kids[i].name), .slice A' n.kids[i].attrs.length c', .slice K' n.kids[i].kids.length d', .string (S n.kids[i].text), .int .i64 n.kids[i].pos] 26 (0, 0)) := by rw [← hW5]; exact heap_alloc_new _ _
          have hz5 := hb5.size
          have hr5 := range_of_heap (cs := [.int .i64 n.kids[i].kind, .string (S n.kids[i].space), .string (S n.kids[i].name), .slice A' n.kids[i].attrs.length c', .slice K' n.kids[i].kids.length d', .string (S n.kids[i].text), .int .i64 n.kids[i].pos]) hg5
          have hb6 := hBw.trans (hb5.mono (by omega : B ≤ wr.heap.size))
          have hcall := HIH.out n.kids[i] _ x W5 hsn (by omega) (by omega) (by omega) (HBX.out.below hb5) (hnv.keep hb6.block (Nat.le_refl _))
          have HC := Lib.hid hcall
          have HR5 := Lib.hid hr5
          have HRR := Lib.hid hr'
          have HB5 := Lib.hid (HB.out.trans (hb5.mono (by omega)))
          have HREM := Lib.hid hrem
          have hxn : (x ++ txtN n.kids[i]).length + fullL (n.kids.drop (i + 1)) ≤ 140737488355328 := by rw [List.length_append]; omega
          have HXN := Lib.hid hxn
          clear hr hr' hcs ha' hk' hnv hsn hcall hr5 hg5 hb5 hb6 hrem hxn hxl hxl2 htk hBw
          generalize n.kids[i] = nk at *
          go_wp2_with (first
            | (with_reducible refine gate ?_; refine wp_load_node rfl _ rfl bb (off + i * 7) rfl _ rfl HRR.out ?_)
            | (with_reducible refine gate ?_; refine wp_load_node rfl _ rfl wr.heap.size 0 rfl _ rfl HR5.out ?_)
            | (go_at_call 38; refine HC.out.mono ?_; rintro e w' ⟨rfl, hbl', hb'⟩))
          go_roundw
          case rel => exact ⟨i + 1, x ++ txtN nk, by omega, by go_num, HREM.out, HXN.out, hbl', HB5.out.trans hb'⟩
          case measure => simp [intOf]; omega
        · obtain rfl : i = n.kids.length := by omega
          rw [List.drop_length, txtL, List.append_nil] at hrem
          subst hrem
          go_wp2_with fail
          go_end0
          exact ⟨rfl, HBX.out, HB1.out.trans HB.out⟩

set_option maxHeartbeats 2000000 in
theorem text7_any (n : Node) (v : Value) (w : World) (hs : full n ≤ 1000000000000) (hv : NodeV w w.heap.size n v) :
    Calls Tryz.prog 17 #[v] w fun e w' => e = .returned (.string (S (txtN n))) ∧ Below w.heap.size w w' := by
  obtain ⟨A, cap, K, kcap, rfl, ha, hk, hcap, hkcap⟩ := hv.open_
  obtain ⟨W1, hW1⟩ : ∃ W1, w.alloc (.cells #[.int .i64 n.kind, .string (S n.space), .string (S n.name), .slice A n.attrs.length cap, .slice K n.kids.length kcap, .string (S n.text), .int .i64 n.pos] 26) = W1 := ⟨_, rfl⟩
  have hb1 : Below w.heap.size w W1 := by rw [← hW1]; exact (Below.refl _ _).alloc (Nat.le_refl _) _
  have hz1 : W1.heap.size = w.heap.size + 1 := by rw [← hW1]; simp
  have hg1 : W1.heap[w.heap.size]? = some (.cells #[.int .i64 n.kind, .string (S n.space), .string (S n.name), .slice A n.attrs.length cap, .slice K n.kids.length kcap, .string (S n.text), .int .i64 n.pos] 26 (0, 0)) := by rw [← hW1]; exact heap_alloc_new _ _
  have hnew := Bld.new W1
  obtain ⟨W2, hW2⟩ : ∃ W2, W1.alloc (.cells #[.pointer none, .slice none 0 0] 68) = W2 := ⟨_, rfl⟩
  have hb2 : Below W1.heap.size W1 W2 := by rw [← hW2]; exact (Below.refl _ _).alloc (Nat.le_refl _) _
  rw [hW2] at hnew
  have hz2 := hb2.size
  have hz2' : W2.heap.size = w.heap.size + 2 := by rw [← hW2]; simp [hz1]
  have hb12 := hb1.trans (hb2.mono (by omega))
  have hnv := hv.keep (B' := W1.heap.size) hb12.block (by omega)
  have hr2 := range_of_heap (cs := [.int .i64 n.kind, .string (S n.space), .string (S n.name), .slice A n.attrs.length cap, .slice K n.kids.length kcap, .string (S n.text), .int .i64 n.pos]) ((hb2.block w.heap.size (by omega)).trans hg1)
  have hnz := nsz_full n
  have hcall := write7_any W1.heap.size W1.heap.size (nsz n) n _ [] W2 (Nat.le_refl _) (by omega) (by simp; omega) (by omega) hnew hnv
  have hstr := fun W (h : Bld W1.heap.size W1.heap.size ([] ++ txtN n) W) (hz : W1.heap.size ≤ W.heap.size) => builderString_any W1.heap.size W1.heap.size ([] ++ txtN n) W h hz
  rw [List.nil_append] at hcall hstr
  have HC := Lib.hid hcall
  have HS := Lib.hid hstr
  have HR2 := Lib.hid hr2
  have HB := Lib.hid hb12
  clear hcall hstr hr2 hb12 hnv hnew hb1 hb2 hg1 ha hk hv hnz
  go_enter Tryz.func17, Tryz.ntmps17
  go_wp2_with (first
    | (with_reducible refine gate ?_; refine wp_load_node rfl _ rfl w.heap.size 0 rfl _ rfl HR2.out ?_)
    | (go_at_call 38; rw [← hz1]; refine HC.out.mono ?_; rintro e w3 ⟨rfl, hbl3, hb3⟩; have hz3 := hb3.size)
    | (go_at_call 39; rw [← hz1]; refine (HS.out w3 hbl3 (by omega)).mono ?_; rintro e w4 ⟨rfl, _, hb4, _⟩))
  go_ret
  exact ⟨rfl, HB.out.trans ((hb3.trans hb4).mono (by omega))⟩
end Go.Proofs.YtclhdppppgjgfaaGreatDoor
set_option linter.unusedVariables false
namespace Go.Proofs.YtclhdppppgjgfaaGreatDoor
open Go.RowKit

/-! Attributes compared by ==. -/
abbrev attV (a : Att) : Value := .agg #[.string (S a.space), .string (S a.name), .string (S a.value), .int .i64 a.pos]
def attB (a b : Att) : Bool := (a.space == b.space) && ((a.name == b.name) && ((a.value == b.value) && (a.pos == b.pos)))
theorem eqIn_att (a b : Att) (w : World) : (Op.equalIn 10000 39 (attV a) (attV b)).run Tryz.prog w = .ok (attB a b) w := by
  have hS : Tryz.prog.underlying 39 = some (.struct (Tryz.prog.fieldsOf 39)) := by kernel_rfl
  have hp : Tryz.prog.stoodInHeld 39 = false := by kernel_rfl
  have u9 := Tryz.underlying9
  have u2 := Tryz.underlying3
  have a9 := Tryz.isAgg9
  have z9 := Tryz.sizeOf9
  have a2 := Tryz.isAgg3
  have z2 := Tryz.sizeOf3
  rw [show (10000 : Nat) = 9999 + 1 from rfl, run_equalIn_agg w 9999 39 _ _ hS hp]
  simp only [Program.fieldsOf, Tryz.underlying39]
  go_simp
  unfold attB
  cases h1 : (a.space == b.space) <;> cases h2 : (a.name == b.name) <;> cases h3 : (a.value == b.value) <;> cases h5 : (a.pos == b.pos) <;> simp_all
theorem run_eq_att (a b : Att) (w : World) : (binOp .eql 39 (attV a) (attV b)).run Tryz.prog w = .ok (.bool (attB a b)) w := by
  rw [run_eql_struct, eqIn_att]; rfl
end Go.Proofs.YtclhdppppgjgfaaGreatDoor
set_option linter.unusedVariables false
namespace Go.Proofs.YtclhdppppgjgfaaGreatDoor
open Go.RowKit

def attsEq7 (l r : List Att) : Bool := decide (l.length = r.length) && attsEqv false l r
theorem attB_zero (a b : Att) : attB ⟨a.space, a.name, a.value, 0⟩ ⟨b.space, b.name, b.value, 0⟩ = attEqv false a b := by
  unfold attB attEqv
  cases (a.space == b.space) <;> cases (a.name == b.name) <;> cases (a.value == b.value) <;> simp

set_option maxHeartbeats 1000000 in
theorem sameAttr7_any (a b : Att) (w : World) :
    Calls Tryz.prog 41 #[.agg #[.string (S a.space), .string (S a.name), .string (S a.value), .int .i64 a.pos], .agg #[.string (S b.space), .string (S b.name), .string (S b.value), .int .i64 b.pos]] w fun e w' => e = .returned (.bool (attEqv false a b)) ∧ Below w.heap.size w w' := by
  obtain ⟨W1, hW1⟩ : ∃ W1, (w.alloc (.cells #[.string (S a.space), .string (S a.name), .string (S a.value), .int .i64 a.pos] 39)).alloc (.cells #[.string (S b.space), .string (S b.name), .string (S b.value), .int .i64 b.pos] 39) = W1 := ⟨_, rfl⟩
  have hb1 : Below w.heap.size w W1 := by rw [← hW1]; exact ((Below.refl _ _).alloc (Nat.le_refl _) _).alloc (by simp) _
  have hga : W1.heap[w.heap.size]? = some (.cells #[.string (S a.space), .string (S a.name), .string (S a.value), .int .i64 a.pos] 39 (0, 0)) := by rw [← hW1]; exact alloc_old (heap_alloc_new _ _)
  have hgb : W1.heap[w.heap.size + 1]? = some (.cells #[.string (S b.space), .string (S b.name), .string (S b.value), .int .i64 b.pos] 39 (0, 0)) := by rw [← hW1]; exact alloc_at (by simp)
  obtain ⟨a0, a1, a2, a3⟩ := cells4 hga
  obtain ⟨b0, b1, b2, b3⟩ := cells4 hgb
  have fa := Lib.frozen_of_heap hga 3
  have fb := Lib.frozen_of_heap hgb 3
  obtain ⟨W2, hW2⟩ : ∃ W2, (W1.setCell ⟨w.heap.size, 3, none⟩ (.int .i64 0)).setCell ⟨w.heap.size + 1, 3, none⟩ (.int .i64 0) = W2 := ⟨_, rfl⟩
  have hu : Below w.heap.size W1 W2 := by rw [← hW2]; exact ((Below.refl _ _).setCell (p := ⟨w.heap.size, 3, none⟩) (Nat.le_refl _) _).setCell (p := ⟨w.heap.size + 1, 3, none⟩) (by show w.heap.size ≤ w.heap.size + 1; omega) _
  have ha2 : W2.heap[w.heap.size]? = some (.cells #[.string (S a.space), .string (S a.name), .string (S a.value), .int .i64 0] 39 (0, 0)) := by
    rw [← hW2]; exact (Below.heap_setCell _ _ _ _ (show w.heap.size ≠ (⟨w.heap.size + 1, 3, none⟩ : Addr).block by simp)).trans (heap_set (i := 3) hga _)
  have hb2 : W2.heap[w.heap.size + 1]? = some (.cells #[.string (S b.space), .string (S b.name), .string (S b.value), .int .i64 0] 39 (0, 0)) := by
    rw [← hW2]; exact heap_set (i := 3) ((Below.heap_setCell _ _ _ _ (show w.heap.size + 1 ≠ (⟨w.heap.size, 3, none⟩ : Addr).block by simp)).trans hgb) _
  have hne : ∀ w, (binOp .eql 39 (.agg #[.string (S a.space), .string (S a.name), .string (S a.value), .int .i64 0]) (.agg #[.string (S b.space), .string (S b.name), .string (S b.value), .int .i64 0])).run Tryz.prog w = .ok (.bool (attEqv false a b)) w := fun w => by
    have := run_eq_att ⟨a.space, a.name, a.value, 0⟩ ⟨b.space, b.name, b.value, 0⟩ w
    rw [attB_zero] at this
    exact this
  have hra := range_of_heap (cs := attCells ⟨a.space, a.name, a.value, 0⟩) ha2
  have hrb := range_of_heap (cs := attCells ⟨b.space, b.name, b.value, 0⟩) hb2
  have HRA := Lib.hid hra
  have HRB := Lib.hid hrb
  have HB := Lib.hid (hb1.trans hu)
  generalize attEqv false a b = q at *
  clear hga hgb ha2 hb2 hra hrb hb1 hu
  go_enter Tryz.func41, Tryz.ntmps41
  go_wp2_with (first
    | (with_reducible refine gate ?_; refine wp_load_att rfl _ rfl w.heap.size 0 rfl ⟨a.space, a.name, a.value, 0⟩ HRA.out ?_)
    | (with_reducible refine gate ?_; refine wp_load_att rfl _ rfl (w.heap.size + 1) 0 rfl ⟨b.space, b.name, b.value, 0⟩ HRB.out ?_))
  go_ret
  exact ⟨rfl, HB.out⟩

set_option maxHeartbeats 4000000 in
set_option maxRecDepth 100000 in
theorem eqFuncA_any (l r : List Att) (A B : Option Addr) (c d : Nat) (w : World) (hl : AttsIn w w.heap.size (.slice A l.length c) l) (hr : AttsIn w w.heap.size (.slice B r.length d) r) (hll : l.length ≤ 2600000000000) (hrl : r.length ≤ 2600000000000) :
    Calls Tryz.prog 68 #[.slice A l.length c, .slice B r.length d, .func (.func 41) #[] #[]] w fun e w' => e = .returned (.bool (attsEq7 l r)) ∧ Below w.heap.size w w' := by
  by_cases hn : l.length = r.length
  · obtain ⟨T, hT⟩ : ∃ T, attsEqv false l r = T := ⟨_, rfl⟩
    have hTT : attsEq7 l r = T := by unfold attsEq7; rw [hT]; simp [hn]
    rw [hTT]
    clear hTT
    have HT := Lib.hid hT
    have HL := Lib.hid hl
    have HR := Lib.hid hr
    have HN := Lib.hid hn
    have hnn : ((l.length : Int) != r.length) = false := by rw [bne, beq_iff_eq.2 (by omega)]; rfl
    clear hT hl hr hn
    go_enter Tryz.func68, Tryz.ntmps68
    go_wp2_with fail
    clear hnn
    go_loopw [17] (fun i17 wr => ∃ i : Nat, i ≤ l.length ∧ i17 = .int .i64 i ∧ attsEqv false (l.drop i) (r.drop i) = T ∧ Below w.heap.size w wr) (fun i17 _ => l.length - (intOf i17).toNat)
    case atStart => exact ⟨0, Nat.zero_le _, rfl, HT.out, Below.refl _ _⟩
    case round =>
      obtain ⟨i, hi, rfl, hres, hb⟩ := hrel
      clear HT
      have HB := Lib.hid hb
      have hsz := hb.size
      clear hb
      by_cases hlt : i < l.length
      · have hlt' : (i : Int) < l.length := by omega
        have hlr : i < r.length := by have := HN.out; omega
        have hlr2 : (i : Int) < r.length := by omega
        obtain ⟨b, off, rfl, hpb, hra⟩ := (HL.out.keep HB.out.block hsz).at_ hlt
        obtain ⟨b2, off2, rfl, hpb2, hrb⟩ := (HR.out.keep HB.out.block hsz).at_ hlr
        rw [attsEqv_step hlt hlr] at hres
        generalize l[i] = x at *
        generalize r[i] = y at *
        have hsf := fun W => sameAttr7_any x y W
        generalize attEqv false x y = q at *
        have HSF := Lib.hid hsf
        have HRA := Lib.hid hra
        obtain ⟨W2, hW2⟩ : ∃ W2, (wr.alloc (.cells #[.string (S x.space), .string (S x.name), .string (S x.value), .int .i64 x.pos] 39)).alloc (.cells #[.string (S y.space), .string (S y.name), .string (S y.value), .int .i64 y.pos] 39) = W2 := ⟨_, rfl⟩
        have hb2 : Below wr.heap.size wr W2 := by rw [← hW2]; exact ((Below.refl _ _).alloc (Nat.le_refl _) _).alloc (by simp) _
        have HRB := Lib.hid (show (wr.alloc (.cells #[.string (S x.space), .string (S x.name), .string (S x.value), .int .i64 x.pos] 39)).rangeAt b2 (off2 + i * 4) _ from rangeAt_keep hrb (Below.heap_alloc _ _ _ hpb2))
        have hxa := range_of_heap (cs := attCells x) (w := W2) (b := wr.heap.size) (t := 39) (fr := (0, 0)) (by rw [← hW2]; exact alloc_old (heap_alloc_new _ _))
        have hxb := range_of_heap (cs := attCells y) (w := W2) (b := wr.heap.size + 1) (t := 39) (fr := (0, 0)) (by rw [← hW2]; exact alloc_at (by simp))
        have HXA := Lib.hid hxa
        have HXB := Lib.hid hxb
        have W2B := Lib.hid hb2
        have HRES := Lib.hid hres
        clear hsf hra hrb hres hxa hxb hb2
        cases q with
        | true =>
          have hres := HRES.out
          rw [Bool.true_and] at hres
          have HRS := Lib.hid hres
          clear hres HRES
          go_wp2_with (first
            | (with_reducible refine gate ?_; refine wp_load_att rfl _ rfl b (off + i * 4) rfl x HRA.out ?_)
            | (with_reducible refine gate ?_; refine wp_load_att rfl _ rfl b2 (off2 + i * 4) rfl y HRB.out ?_)
            | (with_reducible refine gate ?_; refine wp_load_att rfl _ rfl wr.heap.size 0 rfl x HXA.out ?_)
            | (with_reducible refine gate ?_; refine wp_load_att rfl _ rfl (wr.heap.size + 1) 0 rfl y HXB.out ?_)
            | (go_at_call 41; refine (HSF.out _).mono ?_; rintro e w3 ⟨rfl, hb3⟩; have R3 := Lib.hid (W2B.out.trans (hb3.mono W2B.out.size)); clear hb3))
          go_roundw
          case rel => exact ⟨i + 1, by omega, by go_num, HRS.out, HB.out.trans (R3.out.mono hsz)⟩
          case measure => simp [intOf]; omega
        | false =>
          have hres := HRES.out
          rw [Bool.false_and] at hres
          subst hres
          clear HRES
          go_wp2_with (first
            | (with_reducible refine gate ?_; refine wp_load_att rfl _ rfl b (off + i * 4) rfl x HRA.out ?_)
            | (with_reducible refine gate ?_; refine wp_load_att rfl _ rfl b2 (off2 + i * 4) rfl y HRB.out ?_)
            | (with_reducible refine gate ?_; refine wp_load_att rfl _ rfl wr.heap.size 0 rfl x HXA.out ?_)
            | (with_reducible refine gate ?_; refine wp_load_att rfl _ rfl (wr.heap.size + 1) 0 rfl y HXB.out ?_)
            | (go_at_call 41; refine (HSF.out _).mono ?_; rintro e w3 ⟨rfl, hb3⟩; have R3 := Lib.hid (W2B.out.trans (hb3.mono W2B.out.size)); clear hb3))
          go_ret
          exact ⟨rfl, HB.out.trans (R3.out.mono hsz)⟩
      · obtain rfl : i = l.length := by omega
        have e : T = true := by
          rw [← hres, List.drop_length]; exact attsEqv_nil _ _
        subst e
        clear hres
        go_wp2_with fail
        go_ret
        exact ⟨rfl, HB.out⟩
  · have t : ((l.length : Int) != r.length) = true := by rw [bne_iff_ne]; omega
    have hTT : attsEq7 l r = false := by unfold attsEq7; simp [hn]
    rw [hTT]
    clear hn hl hr hTT
    go_enter Tryz.func68, Tryz.ntmps68
    go_wp2_with fail
    go_ret
    exact ⟨rfl, Below.refl _ _⟩
theorem allA_any (l r : List Att) (A B : Option Addr) (c d : Nat) (w : World) (hl : AttsIn w w.heap.size (.slice A l.length c) l) (hr : AttsIn w w.heap.size (.slice B r.length d) r) (hll : l.length ≤ 2600000000000) (hrl : r.length ≤ 2600000000000) :
    Calls Tryz.prog 40 #[.slice A l.length c, .slice B r.length d, .func (.func 41) #[] #[]] w fun e w' => e = .returned (.bool (attsEq7 l r)) ∧ Below w.heap.size w w' := by
  have H := Lib.hid (eqFuncA_any l r A B c d w hl hr hll hrl)
  clear hl hr
  go_enter Tryz.func40, Tryz.ntmps40
  go_wp2_with (go_at_call 68; refine H.out.mono ?_; rintro e w2 ⟨rfl, hb2⟩)
  go_ret
  exact ⟨rfl, hb2⟩
end Go.Proofs.YtclhdppppgjgfaaGreatDoor
set_option linter.unusedVariables false
namespace Go.Proofs.YtclhdppppgjgfaaGreatDoor
open Go.RowKit

def kidsEq7 (l r : List Node) : Bool := decide (l.length = r.length) && kidsEqv false l r

set_option maxHeartbeats 4000000 in
set_option maxRecDepth 100000 in
theorem eqFuncN_any (l r : List Node) (A B : Option Addr) (c d : Nat) (w : World) (hl : NodesIn w w.heap.size (.slice A l.length c) l) (hr : NodesIn w w.heap.size (.slice B r.length d) r) (hll : l.length ≤ 2600000000000) (hrl : r.length ≤ 2600000000000)
    (ih : ∀ x ∈ l, ∀ y ∈ r, ∀ (v u : Value) (W : World), NodeV W W.heap.size x v → NodeV W W.heap.size y u → Calls Tryz.prog 21 #[v, u] W fun e w' => e = .returned (.bool (eqv false x y)) ∧ Below W.heap.size W w') :
    Calls Tryz.prog 69 #[.slice A l.length c, .slice B r.length d, .func (.func 21) #[] #[]] w fun e w' => e = .returned (.bool (kidsEq7 l r)) ∧ Below w.heap.size w w' := by
  by_cases hn : l.length = r.length
  · obtain ⟨T, hT⟩ : ∃ T, kidsEqv false l r = T := ⟨_, rfl⟩
    have hTT : kidsEq7 l r = T := by unfold kidsEq7; rw [hT]; simp [hn]
    rw [hTT]
    clear hTT
    have HT := Lib.hid hT
    have HL := Lib.hid hl
    have HR := Lib.hid hr
    have HN := Lib.hid hn
    have HIH := Lib.hid ih
    have hnn : ((l.length : Int) != r.length) = false := by rw [bne, beq_iff_eq.2 (by omega)]; rfl
    clear hT hl hr hn ih
    go_enter Tryz.func69, Tryz.ntmps69
    go_wp2_with fail
    clear hnn
    go_loopw [17] (fun i17 wr => ∃ i : Nat, i ≤ l.length ∧ i17 = .int .i64 i ∧ kidsEqv false (l.drop i) (r.drop i) = T ∧ Below w.heap.size w wr) (fun i17 _ => l.length - (intOf i17).toNat)
    case atStart => exact ⟨0, Nat.zero_le _, rfl, HT.out, Below.refl _ _⟩
    case round =>
      obtain ⟨i, hi, rfl, hres, hb⟩ := hrel
      clear HT
      have HB := Lib.hid hb
      have hsz := hb.size
      clear hb
      by_cases hlt : i < l.length
      · have hlt' : (i : Int) < l.length := by omega
        have hlr : i < r.length := by have := HN.out; omega
        have hlr2 : (i : Int) < r.length := by omega
        obtain ⟨b, off, cs, rfl, hpb, hra, hcs⟩ := (HL.out.keep HB.out.block hsz).at_ hlt
        obtain ⟨b2, off2, ds, rfl, hpb2, hrb, hds⟩ := (HR.out.keep HB.out.block hsz).at_ hlr
        rw [kidsEqv_step hlt hlr] at hres
        have hih := HIH.out _ (List.getElem_mem hlt) _ (List.getElem_mem hlr)
        have hvx : NodeV wr wr.heap.size l[i] (.agg cs.toArray) := ⟨cs, rfl, hcs⟩
        have hvy : NodeV wr wr.heap.size r[i] (.agg ds.toArray) := ⟨ds, rfl, hds⟩
        have hsf := fun W (hW : Below wr.heap.size wr W) => hih _ _ W (hvx.keep hW.block hW.size) (hvy.keep hW.block hW.size)
        obtain ⟨PA, pc, KA, kc, rfl, _, _, _, _⟩ := hcs.open_
        obtain ⟨PB, pd, KB, kd, rfl, _, _, _, _⟩ := hds.open_
        clear hih hvx hvy
        generalize l[i] = x at *
        generalize r[i] = y at *
        generalize eqv false x y = q at *
        have HSF := Lib.hid hsf
        have HRA := Lib.hid hra
        obtain ⟨W2, hW2⟩ : ∃ W2, (wr.alloc (.cells #[.int .i64 x.kind, .string (S x.space), .string (S x.name), .slice PA x.attrs.length pc, .slice KA x.kids.length kc, .string (S x.text), .int .i64 x.pos] 26)).alloc (.cells #[.int .i64 y.kind, .string (S y.space), .string (S y.name), .slice PB y.attrs.length pd, .slice KB y.kids.length kd, .string (S y.text), .int .i64 y.pos] 26) = W2 := ⟨_, rfl⟩
        have hb2 : Below wr.heap.size wr W2 := by rw [← hW2]; exact ((Below.refl _ _).alloc (Nat.le_refl _) _).alloc (by simp) _
        have HRB := Lib.hid (show (wr.alloc (.cells #[.int .i64 x.kind, .string (S x.space), .string (S x.name), .slice PA x.attrs.length pc, .slice KA x.kids.length kc, .string (S x.text), .int .i64 x.pos] 26)).rangeAt b2 (off2 + i * 7) _ from rangeAt_keep hrb (Below.heap_alloc _ _ _ hpb2))
        have hxa := range_of_heap (cs := [.int .i64 x.kind, .string (S x.space), .string (S x.name), .slice PA x.attrs.length pc, .slice KA x.kids.length kc, .string (S x.text), .int .i64 x.pos]) (w := W2) (b := wr.heap.size) (t := 26) (fr := (0, 0)) (by rw [← hW2]; exact alloc_old (heap_alloc_new _ _))
        have hxb := range_of_heap (cs := [.int .i64 y.kind, .string (S y.space), .string (S y.name), .slice PB y.attrs.length pd, .slice KB y.kids.length kd, .string (S y.text), .int .i64 y.pos]) (w := W2) (b := wr.heap.size + 1) (t := 26) (fr := (0, 0)) (by rw [← hW2]; exact alloc_at (by simp))
        have HXA := Lib.hid hxa
        have HXB := Lib.hid hxb
        have W2B := Lib.hid hb2
        have HRES := Lib.hid hres
        clear hsf hra hrb hres hxa hxb hb2 hcs hds
        cases q with
        | true =>
          have hres := HRES.out
          rw [Bool.true_and] at hres
          have HRS := Lib.hid hres
          clear hres HRES
          go_wp2_with (first
            | (with_reducible refine gate ?_; refine wp_load_node rfl _ rfl b (off + i * 7) rfl _ rfl HRA.out ?_)
            | (with_reducible refine gate ?_; refine wp_load_node rfl _ rfl b2 (off2 + i * 7) rfl _ rfl HRB.out ?_)
            | (with_reducible refine gate ?_; refine wp_load_node rfl _ rfl wr.heap.size 0 rfl _ rfl HXA.out ?_)
            | (with_reducible refine gate ?_; refine wp_load_node rfl _ rfl (wr.heap.size + 1) 0 rfl _ rfl HXB.out ?_)
            | (go_at_call 21; refine (HSF.out _ W2B.out).mono ?_; rintro e w3 ⟨rfl, hb3⟩; have R3 := Lib.hid (W2B.out.trans (hb3.mono W2B.out.size)); clear hb3))
          go_roundw
          case rel => exact ⟨i + 1, by omega, by go_num, HRS.out, HB.out.trans (R3.out.mono hsz)⟩
          case measure => simp [intOf]; omega
        | false =>
          have hres := HRES.out
          rw [Bool.false_and] at hres
          subst hres
          clear HRES
          go_wp2_with (first
            | (with_reducible refine gate ?_; refine wp_load_node rfl _ rfl b (off + i * 7) rfl _ rfl HRA.out ?_)
            | (with_reducible refine gate ?_; refine wp_load_node rfl _ rfl b2 (off2 + i * 7) rfl _ rfl HRB.out ?_)
            | (with_reducible refine gate ?_; refine wp_load_node rfl _ rfl wr.heap.size 0 rfl _ rfl HXA.out ?_)
            | (with_reducible refine gate ?_; refine wp_load_node rfl _ rfl (wr.heap.size + 1) 0 rfl _ rfl HXB.out ?_)
            | (go_at_call 21; refine (HSF.out _ W2B.out).mono ?_; rintro e w3 ⟨rfl, hb3⟩; have R3 := Lib.hid (W2B.out.trans (hb3.mono W2B.out.size)); clear hb3))
          go_ret
          exact ⟨rfl, HB.out.trans (R3.out.mono hsz)⟩
      · obtain rfl : i = l.length := by omega
        have e : T = true := by
          rw [← hres, List.drop_length]; exact kidsEqv_nil _ _
        subst e
        clear hres
        go_wp2_with fail
        go_ret
        exact ⟨rfl, HB.out⟩
  · have t : ((l.length : Int) != r.length) = true := by rw [bne_iff_ne]; omega
    have hTT : kidsEq7 l r = false := by unfold kidsEq7; simp [hn]
    rw [hTT]
    clear hn hl hr hTT ih
    go_enter Tryz.func69, Tryz.ntmps69
    go_wp2_with fail
    go_ret
    exact ⟨rfl, Below.refl _ _⟩
theorem allN_any (l r : List Node) (A B : Option Addr) (c d : Nat) (w : World) (hl : NodesIn w w.heap.size (.slice A l.length c) l) (hr : NodesIn w w.heap.size (.slice B r.length d) r) (hll : l.length ≤ 2600000000000) (hrl : r.length ≤ 2600000000000)
    (ih : ∀ x ∈ l, ∀ y ∈ r, ∀ (v u : Value) (W : World), NodeV W W.heap.size x v → NodeV W W.heap.size y u → Calls Tryz.prog 21 #[v, u] W fun e w' => e = .returned (.bool (eqv false x y)) ∧ Below W.heap.size W w') :
    Calls Tryz.prog 42 #[.slice A l.length c, .slice B r.length d, .func (.func 21) #[] #[]] w fun e w' => e = .returned (.bool (kidsEq7 l r)) ∧ Below w.heap.size w w' := by
  have H := Lib.hid (eqFuncN_any l r A B c d w hl hr hll hrl ih)
  clear hl hr ih
  go_enter Tryz.func42, Tryz.ntmps42
  go_wp2_with (go_at_call 69; refine H.out.mono ?_; rintro e w2 ⟨rfl, hb2⟩)
  go_ret
  exact ⟨rfl, hb2⟩

theorem eqv7 (n m : Node) : eqv false n m = ((n.kind == m.kind) && ((n.space == m.space) && ((n.name == m.name) && ((n.text == m.text) && (attsEq7 n.attrs m.attrs && kidsEq7 n.kids m.kids))))) := by
  rw [eqv_eq]
  unfold headEqv attsEq7 kidsEq7
  have e1 : (n.attrs.length == m.attrs.length) = decide (n.attrs.length = m.attrs.length) := rfl
  have e2 : (n.kids.length == m.kids.length) = decide (n.kids.length = m.kids.length) := rfl
  rw [e1, e2]
  cases (n.kind == m.kind) <;> cases (n.space == m.space) <;> cases (n.name == m.name) <;> cases (n.text == m.text) <;> cases decide (n.attrs.length = m.attrs.length) <;> cases decide (n.kids.length = m.kids.length) <;> cases attsEqv false n.attrs m.attrs <;> simp

set_option maxHeartbeats 4000000 in
set_option maxRecDepth 100000 in
theorem equal7_any (g : Nat) : ∀ (n m : Node) (v u : Value) (w : World), nsz n ≤ g → Fit n → Fit m → NodeV w w.heap.size n v → NodeV w w.heap.size m u →
    Calls Tryz.prog 21 #[v, u] w fun e w' => e = .returned (.bool (eqv false n m)) ∧ Below w.heap.size w w' := by
  induction g with
  | zero => intro n m v u w h; cases n; rw [nsz] at h; omega
  | succ g ih =>
    intro n m v u w hg hfn hfm hv hu
    obtain ⟨A1, a1, K1, k1, rfl, hA1, hK1, _, _⟩ := hv.open_
    obtain ⟨A2, a2, K2, k2, rfl, hA2, hK2, _, _⟩ := hu.open_
    obtain ⟨hf1, hf2, hf3⟩ := hfn.form
    obtain ⟨hf4, hf5, hf6⟩ := hfm.form
    obtain ⟨W1, hW1⟩ : ∃ W1, (w.alloc (.cells #[.int .i64 n.kind, .string (S n.space), .string (S n.name), .slice A1 n.attrs.length a1, .slice K1 n.kids.length k1, .string (S n.text), .int .i64 n.pos] 26)).alloc (.cells #[.int .i64 m.kind, .string (S m.space), .string (S m.name), .slice A2 m.attrs.length a2, .slice K2 m.kids.length k2, .string (S m.text), .int .i64 m.pos] 26) = W1 := ⟨_, rfl⟩
    have hb1 : Below w.heap.size w W1 := by rw [← hW1]; exact ((Below.refl _ _).alloc (Nat.le_refl _) _).alloc (by simp) _
    have hga : W1.heap[w.heap.size]? = some (.cells #[.int .i64 n.kind, .string (S n.space), .string (S n.name), .slice A1 n.attrs.length a1, .slice K1 n.kids.length k1, .string (S n.text), .int .i64 n.pos] 26 (0, 0)) := by rw [← hW1]; exact alloc_old (heap_alloc_new _ _)
    have hgb : W1.heap[w.heap.size + 1]? = some (.cells #[.int .i64 m.kind, .string (S m.space), .string (S m.name), .slice A2 m.attrs.length a2, .slice K2 m.kids.length k2, .string (S m.text), .int .i64 m.pos] 26 (0, 0)) := by rw [← hW1]; exact alloc_at (by simp)
    have hz1 := hb1.size
    obtain ⟨x0, x1, x2, x3, x4, x5, x6⟩ := cells7 hga
    obtain ⟨y0, y1, y2, y3, y4, y5, y6⟩ := cells7 hgb
    have hcA := fun W (hW : Below w.heap.size w W) => allA_any n.attrs m.attrs A1 A2 a1 a2 W (hA1.keep hW.block hW.size) (hA2.keep hW.block hW.size) hf1 hf4
    have hcN := fun W (hW : Below w.heap.size w W) => allN_any n.kids m.kids K1 K2 k1 k2 W (hK1.keep hW.block hW.size) (hK2.keep hW.block hW.size) hf2 hf5 (fun x hx y hy v u W' hv' hu' => ih x y v u W' (by have := nsz_lt n hx; omega) (hf3 x hx) (hf6 y hy) hv' hu')
    have HB1 := Lib.hid hb1
    have HC2 := Lib.hid (fun W (hW : Below W1.heap.size W1 W) => (show W.cell? ⟨w.heap.size, 4, none⟩ = some (.slice K1 n.kids.length k1) ∧ W.cell? ⟨w.heap.size + 1, 4, none⟩ = some (.slice K2 m.kids.length k2) from
      ⟨(cells7 ((hW.block _ (heap_lt hga)).trans hga)).2.2.2.2.1, (cells7 ((hW.block _ (heap_lt hgb)).trans hgb)).2.2.2.2.1⟩))
    rw [eqv7]
    generalize attsEq7 n.attrs m.attrs = q5 at *
    generalize kidsEq7 n.kids m.kids = q6 at *
    have HCA := Lib.hid hcA
    have HCN := Lib.hid hcN
    clear hcA hcN ih hA1 hK1 hA2 hK2 hv hu hga hgb hb1 hf3 hf6 hfn hfm
    cases h1 : (n.kind == m.kind) with
    | false =>
      rw [Bool.false_and]
      go_enter Tryz.func21, Tryz.ntmps21
      go_wp2_with fail
      go_ret
      exact ⟨rfl, HB1.out⟩
    | true =>
      rw [Bool.true_and]
      cases h2 : (n.space == m.space) with
      | false =>
        rw [Bool.false_and]
        go_enter Tryz.func21, Tryz.ntmps21
        go_wp2_with fail
        go_ret
        exact ⟨rfl, HB1.out⟩
      | true =>
        rw [Bool.true_and]
        cases h3 : (n.name == m.name) with
        | false =>
          rw [Bool.false_and]
          go_enter Tryz.func21, Tryz.ntmps21
          go_wp2_with fail
          go_ret
          exact ⟨rfl, HB1.out⟩
        | true =>
          rw [Bool.true_and]
          cases h4 : (n.text == m.text) with
          | false =>
            rw [Bool.false_and]
            go_enter Tryz.func21, Tryz.ntmps21
            go_wp2_with fail
            go_ret
            exact ⟨rfl, HB1.out⟩
          | true =>
            rw [Bool.true_and]
            cases q5 with
            | false =>
              rw [Bool.false_and]
              go_enter Tryz.func21, Tryz.ntmps21
              go_wp2_with (go_at_call 40; refine (HCA.out _ HB1.out).mono ?_; rintro e w2 ⟨rfl, hb2⟩)
              go_ret
              exact ⟨rfl, HB1.out.trans (hb2.mono hz1)⟩
            | true =>
              rw [Bool.true_and]
              go_enter Tryz.func21, Tryz.ntmps21
              go_wp2_with (first
                | (go_at_call 40; refine (HCA.out _ HB1.out).mono ?_; rintro e w2 ⟨rfl, hb2⟩; have hb2' := HB1.out.trans (hb2.mono hz1); obtain ⟨z1, z2⟩ := HC2.out w2 hb2)
                | (go_at_call 42; refine (HCN.out _ hb2').mono ?_; rintro e w3 ⟨rfl, hb3⟩))
              go_ret
              exact ⟨rfl, hb2'.trans (hb3.mono hb2'.size)⟩
end Go.Proofs.YtclhdppppgjgfaaGreatDoor
