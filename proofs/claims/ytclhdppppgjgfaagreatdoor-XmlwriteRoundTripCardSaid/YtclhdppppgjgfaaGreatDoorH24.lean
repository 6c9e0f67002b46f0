/-
  Several texts in one file, in build order:
  - Walk of chapter 7's reference: the comparison of two trees, with offsets.
-/
import Derived.Test.YtclhdppppgjgfaaGreatDoorH23
set_option linter.unusedVariables false
namespace Go.Proofs.YtclhdppppgjgfaaGreatDoor
open Go.RowKit

set_option maxHeartbeats 4000000 in
set_option maxRecDepth 100000 in
theorem refEqual_true (s : Nat) : ∀ (n m : Node) (v u : Value) (w : World), nsz n ≤ s → NodeV w w.heap.size n v → NodeV w w.heap.size m u → Fit n → Fit m →
    Calls Tryz.prog 14 #[v, u, .bool true] w fun e w' => e = .returned (.bool (eqv true n m)) ∧ Below w.heap.size w w' := by
  induction s with
  | zero => intro n m v u w h; cases n; rw [nsz] at h; omega
  | succ s ih =>
    intro n m v u w hs hv hu hfn hfm
    have ln := hfn.form
    have lm := hfm.form
    cases hh : headEqv true n m
    · have he : eqv true n m = false := by rw [eqv_eq, hh]; rfl
      rw [he]
      exact refEqual_no true n m v u w hv hu hh (by omega) (by omega) (by omega) (by omega)
    · have he : eqv true n m = (attsEqv true n.attrs m.attrs && kidsEqv true n.kids m.kids) := by rw [eqv_eq, hh]; simp
      rw [he]
      obtain ⟨tk, ts, tnm, tt, tp, ta, tc⟩ := headEqv_true hh
      generalize hE : (attsEqv true n.attrs m.attrs && kidsEqv true n.kids m.kids) = E at *
      obtain ⟨A, c, K, d, rfl, ha, hk, hc, hd⟩ := hv.open_
      obtain ⟨A', c', K', d', rfl, ha', hk', hc', hd'⟩ := hu.open_
      have uk : (n.kind != m.kind) = false := by rw [bne, tk]; rfl
      have us : (n.space != m.space) = false := by rw [bne, ts]; rfl
      have unm : (n.name != m.name) = false := by rw [bne, tnm]; rfl
      have ut : (n.text != m.text) = false := by rw [bne, tt]; rfl
      have ua : ((n.attrs.length : Int) != (m.attrs.length : Int)) = false := by rw [ta]; simp
      have uc : ((n.kids.length : Int) != (m.kids.length : Int)) = false := by rw [tc]; simp
      have la1 : n.attrs.length ≤ m.attrs.length := by omega
      have la2 : m.attrs.length ≤ n.attrs.length := by omega
      have lc1 : n.kids.length ≤ m.kids.length := by omega
      have lc2 : m.kids.length ≤ n.kids.length := by omega
      have lb1 : n.attrs.length ≤ 2600000000000 := ln.1
      have lb2 : n.kids.length ≤ 2600000000000 := ln.2.1
      have upos : (n.pos != m.pos) = false := by rw [bne, tp rfl]; rfl
      have HE := Lib.hid hE
      have HIH := Lib.hid ih
      have HA := Lib.hid ha
      have HA' := Lib.hid ha'
      have HK := Lib.hid hk
      have HK' := Lib.hid hk'
      have HS := Lib.hid hs
      have HLN := Lib.hid ln
      have HLM := Lib.hid lm
      clear tp hE ih ha ha' hk hk' hs ln lm hh he hv hu ta tc hfn hfm
      go_enter Tryz.func14, Tryz.ntmps14
      go_wp2_with fail
      go_loopw [7] (fun i7 wr => ∃ i : Nat, i ≤ n.attrs.length ∧ i7 = .int .i64 i ∧ (attsEqv true (n.attrs.drop i) (m.attrs.drop i) && kidsEqv true n.kids m.kids) = E ∧ Below (w.heap.size + 2) ((w.alloc (nodeBox n A c K d)).alloc (nodeBox m A' c' K' d')) wr) (fun i7 _ => n.attrs.length - (intOf i7).toNat)
      case atStart => exact ⟨0, Nat.zero_le _, rfl, by simpa using HE.out, Below.refl _ _⟩
      case round =>
        obtain ⟨i, hi, rfl, hrem, hb⟩ := hrel
        have hbw : Below w.heap.size w wr := (((Below.refl _ _).alloc (Nat.le_refl _) _).alloc (by simp) _).trans (hb.mono (by omega))
        have hbx : wr.heap[w.heap.size]? = some (nodeBox n A c K d) := (hb.block _ (by omega)).trans ((Below.heap_alloc _ _ _ (by simp)).trans (heap_alloc_new w _))
        have hbm : wr.heap[w.heap.size + 1]? = some (nodeBox m A' c' K' d') := (hb.block _ (by omega)).trans (by have := heap_alloc_new (w.alloc (nodeBox n A c K d)) (nodeBox m A' c' K' d'); simpa using this)
        obtain ⟨n0, n1, n2, n3, n4, n5, n6⟩ := box_cells hbx
        obtain ⟨m0, m1, m2, m3, m4, m5, m6⟩ := box_cells hbm
        have hsz := hb.size
        simp only [World.size_alloc] at hsz
        have q1 : w.heap.size + 1 < wr.heap.size := by omega
        have q2 : w.heap.size < wr.heap.size := by omega
        have q3 : w.heap.size + 1 ≠ wr.heap.size := by omega
        have q4 : w.heap.size ≠ wr.heap.size := by omega
        have HB := Lib.hid hb
        have HBW := Lib.hid hbw
        have HR := Lib.hid hrem
        clear hb hbw hrem hbx hbm n0 n1 n2 n5 n6 m0 m1 m2 m5 m6
        by_cases hlt : i < n.attrs.length
        · have hlt' : i < m.attrs.length := by omega
          clear n4 m4
          have hfin := attsEqv_step (o := true) hlt hlt'
          have FIN : Hid (∀ o o', Below w.heap.size w ((wr.alloc o).alloc o')) := fun o o' => (HBW.out.alloc (by omega) _).alloc (by simp; omega) _
          have FIN2 : Hid (∀ o o', Below (w.heap.size + 2) ((w.alloc (nodeBox n A c K d)).alloc (nodeBox m A' c' K' d')) ((wr.alloc o).alloc o')) := fun o o' => (HB.out.alloc (by omega) _).alloc (by simp; omega) _
          obtain ⟨b, off, rfl, hbl, hr⟩ := HA.out.at_ hlt
          obtain ⟨b', off', rfl, hbl', hr'⟩ := HA'.out.at_ hlt'
          have HR1 := Lib.hid (show wr.rangeAt b (off + i * 4) (attCells n.attrs[i]) from rangeAt_keep hr (HBW.out.block b hbl))
          have HR2 : Hid (∀ o, (wr.alloc o).rangeAt b' (off' + i * 4) (attCells m.attrs[i])) := fun o => rangeAt_keep hr' ((Below.heap_alloc wr o b' (by omega)).trans (HBW.out.block b' hbl'))
          have HF := Lib.hid hfin
          clear hr hr' hfin
          have hE0 : attEqv true n.attrs[i] m.attrs[i] = false → E = false := fun h => by rw [← HR.out, HF.out, h]; rfl
          have hE1 : attEqv true n.attrs[i] m.attrs[i] = true → (attsEqv true (n.attrs.drop (i + 1)) (m.attrs.drop (i + 1)) && kidsEqv true n.kids m.kids) = E := fun h => by rw [← HR.out, HF.out, h, Bool.true_and]
          have HE0 := Lib.hid hE0
          have HE1 := Lib.hid hE1
          clear hE0 hE1
          generalize n.attrs[i] = a at *
          generalize m.attrs[i] = a' at *
          rcases xs : (a.space == a'.space) with _ | _
          · have ys : (a.space != a'.space) = true := by rw [bne, xs]; rfl
            have hz := HE0.out (by simp [attEqv, xs])
            have HZ := Lib.hid hz
            clear hz
            go_wp2_with (first
              | (refine wp_load_att rfl _ rfl b (off + i * 4) rfl a HR1.out ?_)
              | (refine wp_load_att rfl _ rfl b' (off' + i * 4) rfl a' (HR2.out _) ?_))
            go_ret
            exact ⟨ret_bool HZ.out.symm, FIN.out _ _⟩
          · have ys : (a.space != a'.space) = false := by rw [bne, xs]; rfl
            rcases xn : (a.name == a'.name) with _ | _
            · have yn : (a.name != a'.name) = true := by rw [bne, xn]; rfl
              have hz := HE0.out (by simp [attEqv, xs, xn])
              have HZ := Lib.hid hz
              clear hz
              go_wp2_with (first
                | (refine wp_load_att rfl _ rfl b (off + i * 4) rfl a HR1.out ?_)
                | (refine wp_load_att rfl _ rfl b' (off' + i * 4) rfl a' (HR2.out _) ?_))
              go_ret
              exact ⟨ret_bool HZ.out.symm, FIN.out _ _⟩
            · have yn : (a.name != a'.name) = false := by rw [bne, xn]; rfl
              rcases xv : (a.value == a'.value) with _ | _
              · have yv : (a.value != a'.value) = true := by rw [bne, xv]; rfl
                have hz := HE0.out (by simp [attEqv, xs, xn, xv])
                have HZ := Lib.hid hz
                clear hz
                go_wp2_with (first
                  | (refine wp_load_att rfl _ rfl b (off + i * 4) rfl a HR1.out ?_)
                  | (refine wp_load_att rfl _ rfl b' (off' + i * 4) rfl a' (HR2.out _) ?_))
                go_ret
                exact ⟨ret_bool HZ.out.symm, FIN.out _ _⟩
              · have yv : (a.value != a'.value) = false := by rw [bne, xv]; rfl
                rcases xp : (a.pos == a'.pos) with _ | _
                · have yp : (a.pos != a'.pos) = true := by rw [bne, xp]; rfl
                  have hz := HE0.out (by simp [attEqv, xs, xn, xv, xp])
                  have HZ := Lib.hid hz
                  clear hz
                  go_wp2_with (first
                    | (refine wp_load_att rfl _ rfl b (off + i * 4) rfl a HR1.out ?_)
                    | (refine wp_load_att rfl _ rfl b' (off' + i * 4) rfl a' (HR2.out _) ?_))
                  go_ret
                  exact ⟨ret_bool HZ.out.symm, FIN.out _ _⟩
                · have yp : (a.pos != a'.pos) = false := by rw [bne, xp]; rfl
                  have hz := HE1.out (by simp [attEqv, xs, xn, xv, xp])
                  have HZ := Lib.hid hz
                  clear hz
                  go_wp2_with (first
                    | (refine wp_load_att rfl _ rfl b (off + i * 4) rfl a HR1.out ?_)
                    | (refine wp_load_att rfl _ rfl b' (off' + i * 4) rfl a' (HR2.out _) ?_))
                  go_roundw
                  case rel => exact ⟨i + 1, by omega, by go_num, HZ.out, FIN2.out _ _⟩
                  case measure => simp [intOf]; omega
        · obtain rfl : i = n.attrs.length := by omega
          rw [List.drop_length, attsEqv_nil, Bool.true_and] at HR

          obtain ⟨wo, rfl⟩ : ∃ wo : World, wo = wr := ⟨_, rfl⟩
          go_wp2_with fail
          clear n3 m3
          go_loopw [10] (fun i10 wr => ∃ i : Nat, i ≤ n.kids.length ∧ i10 = .int .i64 i ∧ kidsEqv true (n.kids.drop i) (m.kids.drop i) = E ∧ Below (w.heap.size + 2) wo wr) (fun i10 _ => n.kids.length - (intOf i10).toNat)
          case atStart => exact ⟨0, Nat.zero_le _, rfl, by simpa using HR.out, Below.refl _ _⟩
          case round =>
            obtain ⟨i, hi, rfl, hrem, hb⟩ := hrel
            have hbw2 : Below w.heap.size w wr := HBW.out.trans (hb.mono (by omega))
            have n4' : wr.cell? ⟨w.heap.size, 4, none⟩ = some (.slice K n.kids.length d) := (hb.cell (p := ⟨w.heap.size, 4, none⟩) (by simp)).trans n4
            have m4' : wr.cell? ⟨w.heap.size + 1, 4, none⟩ = some (.slice K' m.kids.length d') := (hb.cell (p := ⟨w.heap.size + 1, 4, none⟩) (by simp)).trans m4
            have hsz2 := hb.size
            have HB2 := Lib.hid hb
            have HBW2 := Lib.hid hbw2
            have HR2 := Lib.hid hrem
            clear hb hbw2 hrem n4 m4
            by_cases hlt2 : i < n.kids.length
            · have hlt2' : i < m.kids.length := by omega
              have hfin := kidsEqv_step (o := true) hlt2 hlt2'
              rw [HR2.out] at hfin
              obtain ⟨b, off, cs, rfl, hbl, hr, hcs⟩ := HK.out.at_ hlt2
              obtain ⟨b', off', cs', rfl, hbl', hr', hcs'⟩ := HK'.out.at_ hlt2'
              have HR3 := Lib.hid (show wr.drew.rangeAt b (off + i * 7) cs from rangeAt_keep hr (HBW2.out.block b hbl))
              have HR4 := Lib.hid (show wr.drew.rangeAt b' (off' + i * 7) cs' from rangeAt_keep hr' (HBW2.out.block b' hbl'))
              have hnv : NodeV wr.drew wr.drew.heap.size n.kids[i] (.agg cs.toArray) := NodeV.keep (w := w) (B := w.heap.size) ⟨cs, rfl, hcs⟩ HBW2.out.block HBW2.out.size
              have hmv : NodeV wr.drew wr.drew.heap.size m.kids[i] (.agg cs'.toArray) := NodeV.keep (w := w) (B := w.heap.size) ⟨cs', rfl, hcs'⟩ HBW2.out.block HBW2.out.size
              have hcall := HIH.out n.kids[i] m.kids[i] _ _ wr.drew (by have := nsz_get n hlt2; have := HS.out; omega) hnv hmv (HLN.out.2.2 _ (List.getElem_mem hlt2)) (HLM.out.2.2 _ (List.getElem_mem hlt2'))
              obtain ⟨A1, c1, K1, d1, rfl, _, _, _, _⟩ := hcs.open_
              obtain ⟨A2, c2, K2, d2, rfl, _, _, _, _⟩ := hcs'.open_
              have HC := Lib.hid hcall
              have HF := Lib.hid hfin
              have hi0 : (i : Int) < n.kids.length := by omega
              have hi1 : (i : Int) < m.kids.length := by omega
              clear hr hr' hcs hcs' hfin hnv hmv hcall
              generalize eqv true n.kids[i] m.kids[i] = q at *
              have n4'' : wr.drew.cell? ⟨w.heap.size, 4, none⟩ = some (.slice (some ⟨b, off, none⟩) n.kids.length d) := n4'
              have m4'' : wr.drew.cell? ⟨w.heap.size + 1, 4, none⟩ = some (.slice (some ⟨b', off', none⟩) m.kids.length d') := m4'
              go_wp2_with fail
              go_still_tail 11, (by kernel_rfl)
              refine still_load_node rfl _ rfl b (off + i * 7) rfl _ rfl HR3.out ?_
              repeat still_step
              refine still_load_node rfl _ rfl b' (off' + i * 7) rfl _ rfl HR4.out ?_
              repeat still_step
              refine wpStill_nil ?_
              change wpList _ _ _ _ _ wr.drew
              clear n4' m4'
              cases q
              all_goals
                go_wp2_with (go_at_call 14; refine HC.out.mono ?_; rintro e w' ⟨rfl, hb'⟩)
              · go_ret
                exact ⟨ret_bool (by rw [HF.out]; rfl), HBW2.out.trans ((below_undrew' hb').mono (show w.heap.size ≤ wr.heap.size by omega))⟩
              · go_roundw
                case rel => exact ⟨i + 1, by omega, by go_num, by rw [HF.out, Bool.true_and], HB2.out.trans ((below_undrew' hb').mono (show w.heap.size + 2 ≤ wr.heap.size by omega))⟩
                case measure => simp [intOf]; omega
            · obtain rfl : i = n.kids.length := by omega
              rw [List.drop_length, kidsEqv_nil] at HR2
              go_wp2_with fail
              go_ret
              exact ⟨ret_bool HR2.out, HBW2.out⟩
theorem refEqual_any (o : Bool) (n m : Node) (v u : Value) (w : World) (hv : NodeV w w.heap.size n v) (hu : NodeV w w.heap.size m u) (hn : Fit n) (hm : Fit m) :
    Calls Tryz.prog 14 #[v, u, .bool o] w fun e w' => e = .returned (.bool (eqv o n m)) ∧ Below w.heap.size w w' := by
  cases o
  · exact refEqual_false _ n m v u w (Nat.le_refl _) hv hu hn hm
  · exact refEqual_true _ n m v u w (Nat.le_refl _) hv hu hn hm
end Go.Proofs.YtclhdppppgjgfaaGreatDoor
