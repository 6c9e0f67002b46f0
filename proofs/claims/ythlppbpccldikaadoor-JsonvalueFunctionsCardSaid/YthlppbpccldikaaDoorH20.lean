/-
  Several texts in one file, in build order:
  - Walk of chapter 11's reference: the comparison of two values whose heads differ. Written by gen_eqj.py.
  - Walk of chapter 11's reference: the comparison of two values.
-/
import Derived.Test.YthlppbpccldikaaDoorH14
import Derived.Test.YthlppbpccldikaaDoorH2
set_option linter.unusedVariables false
namespace Go.Proofs.YthlppbpccldikaaDoor
open Go.RowKit

set_option maxHeartbeats 4000000 in
set_option maxRecDepth 100000 in
theorem refEqual11_no (o : Bool) (v m : JV) (x u : Value) (w : World) (hv : ValV w (· < w.heap.size) v x) (hu : ValV w (· < w.heap.size) m u) (hne : jhEq o v m = false) :
    Calls Tryd.prog 11 #[x, u, .bool o] w fun e w' => e = .returned (.bool false) ∧ Below w.heap.size w w' := by
  obtain ⟨A, c, K, d, rfl, ha, hk, hc, hd⟩ := hv.open_
  obtain ⟨A', c', K', d', rfl, ha', hk', hc', hd'⟩ := hu.open_
  clear hv hu ha hk ha' hk'
  have fin : ∀ w : World, Below w.heap.size w ((w.alloc (valBox v A c K d)).alloc (valBox m A' c' K' d')) := fun w => ((Below.refl _ _).alloc (Nat.le_refl _) _).alloc (by simp) _
  have FIN := Lib.hid fin
  clear fin
  unfold jhEq at hne
  have e6 : ((v.items.length : Int) == (m.items.length : Int)) = (v.items.length == m.items.length) := by rw [Bool.eq_iff_iff]; simp; omega
  have e7 : ((v.mems.length : Int) == (m.mems.length : Int)) = (v.mems.length == m.mems.length) := by rw [Bool.eq_iff_iff]; simp; omega
  rw [← e6, ← e7] at hne
  have HNE := Lib.hid hne
  clear hne e6 e7
  rcases tk : (v.kind == m.kind) with _ | _
  · have uk : (v.kind != m.kind) = true := by rw [bne, tk]; rfl
    go_enter Tryd.func11, Tryd.ntmps11
    go_wp2_with fail
    go_ret
    exact ⟨rfl, FIN.out _⟩
  · have uk : (v.kind != m.kind) = false := by rw [bne, tk]; rfl
    rcases tb : (v.b == m.b) with _ | _
    · have ub : (v.b != m.b) = true := by rw [bne, tb]; rfl
      go_enter Tryd.func11, Tryd.ntmps11
      go_wp2_with fail
      go_ret
      exact ⟨rfl, FIN.out _⟩
    · have ub : (v.b != m.b) = false := by rw [bne, tb]; rfl
      rcases tn : (v.n == m.n) with _ | _
      · have un : (v.n != m.n) = true := by rw [bne, tn]; rfl
        go_enter Tryd.func11, Tryd.ntmps11
        go_wp2_with fail
        go_ret
        exact ⟨rfl, FIN.out _⟩
      · have un : (v.n != m.n) = false := by rw [bne, tn]; rfl
        rcases ts : (v.s == m.s) with _ | _
        · have us : (v.s != m.s) = true := by rw [bne, ts]; rfl
          go_enter Tryd.func11, Tryd.ntmps11
          go_wp2_with fail
          go_ret
          exact ⟨rfl, FIN.out _⟩
        · have us : (v.s != m.s) = false := by rw [bne, ts]; rfl
          cases o
          · skip
            rcases ti : ((v.items.length : Int) == (m.items.length : Int)) with _ | _
            · have ui : ((v.items.length : Int) != (m.items.length : Int)) = true := by rw [bne, ti]; rfl
              go_enter Tryd.func11, Tryd.ntmps11
              go_wp2_with fail
              go_ret
              exact ⟨rfl, FIN.out _⟩
            · have ui : ((v.items.length : Int) != (m.items.length : Int)) = false := by rw [bne, ti]; rfl
              rcases tj : ((v.mems.length : Int) == (m.mems.length : Int)) with _ | _
              · have uj : ((v.mems.length : Int) != (m.mems.length : Int)) = true := by rw [bne, tj]; rfl
                go_enter Tryd.func11, Tryd.ntmps11
                go_wp2_with fail
                go_ret
                exact ⟨rfl, FIN.out _⟩
              · have uj : ((v.mems.length : Int) != (m.mems.length : Int)) = false := by rw [bne, tj]; rfl
                exact absurd HNE.out (by simp [tk, tb, tn, ts, ti, tj])
          · skip
            rcases tp : (v.pos == m.pos) with _ | _
            · have up : (v.pos != m.pos) = true := by rw [bne, tp]; rfl
              go_enter Tryd.func11, Tryd.ntmps11
              go_wp2_with fail
              go_ret
              exact ⟨rfl, FIN.out _⟩
            · have up : (v.pos != m.pos) = false := by rw [bne, tp]; rfl
              rcases ti : ((v.items.length : Int) == (m.items.length : Int)) with _ | _
              · have ui : ((v.items.length : Int) != (m.items.length : Int)) = true := by rw [bne, ti]; rfl
                go_enter Tryd.func11, Tryd.ntmps11
                go_wp2_with fail
                go_ret
                exact ⟨rfl, FIN.out _⟩
              · have ui : ((v.items.length : Int) != (m.items.length : Int)) = false := by rw [bne, ti]; rfl
                rcases tj : ((v.mems.length : Int) == (m.mems.length : Int)) with _ | _
                · have uj : ((v.mems.length : Int) != (m.mems.length : Int)) = true := by rw [bne, tj]; rfl
                  go_enter Tryd.func11, Tryd.ntmps11
                  go_wp2_with fail
                  go_ret
                  exact ⟨rfl, FIN.out _⟩
                · have uj : ((v.mems.length : Int) != (m.mems.length : Int)) = false := by rw [bne, tj]; rfl
                  exact absurd HNE.out (by simp [tk, tb, tn, ts, tp, ti, tj])
end Go.Proofs.YthlppbpccldikaaDoor
set_option linter.unusedVariables false
namespace Go.Proofs.YthlppbpccldikaaDoor
open Go.RowKit

theorem jhEq_true {o : Bool} {v m : JV} (h : jhEq o v m = true) : (v.kind == m.kind) = true ∧ (v.b == m.b) = true ∧ (v.n == m.n) = true ∧ (v.s == m.s) = true ∧ (o = true → (v.pos == m.pos) = true) ∧ v.items.length = m.items.length ∧ v.mems.length = m.mems.length := by
  unfold jhEq at h
  simp only [Bool.and_eq_true] at h
  obtain ⟨⟨⟨⟨⟨⟨a, b⟩, c⟩, d⟩, e⟩, f⟩, g⟩ := h
  exact ⟨a, b, c, d, fun ho => by rw [ho] at e; simpa using e, by simpa using f, by simpa using g⟩

set_option maxHeartbeats 4000000 in
set_option maxRecDepth 100000 in
theorem refEqual11_any (s : Nat) : ∀ (o : Bool) (v m : JV) (x u : Value) (w : World), jsz v ≤ s → JFit v → JFit m → ValV w (· < w.heap.size) v x → ValV w (· < w.heap.size) m u →
    Calls Tryd.prog 11 #[x, u, .bool o] w fun e w' => e = .returned (.bool (jeq o v m)) ∧ Below w.heap.size w w' := by
  induction s with
  | zero => intro o v m x u w h; have := jsz_pos v; omega
  | succ s ih =>
    intro o v m x u w hs hfn hfm hv hu
    cases hh : jhEq o v m
    · have he : jeq o v m = false := by rw [jeq_form, hh]; rfl
      rw [he]
      exact refEqual11_no o v m x u w hv hu hh
    · have he : jeq o v m = (jeqL o v.items m.items && jeqM o v.mems m.mems) := by rw [jeq_form, hh]; simp
      rw [he]
      obtain ⟨tk, tb, tn, ts, tp, ta, tc⟩ := jhEq_true hh
      generalize hE : (jeqL o v.items m.items && jeqM o v.mems m.mems) = E at *
      obtain ⟨⟨ln1, ln2, _, _⟩, lni, lnm⟩ := hfn.form
      obtain ⟨⟨lm1, lm2, _, _⟩, lmi, lmm⟩ := hfm.form
      obtain ⟨A, c, K, d, rfl, ha, hk, hc, hd⟩ := hv.open_
      obtain ⟨A', c', K', d', rfl, ha', hk', hc', hd'⟩ := hu.open_
      have uk : (v.kind != m.kind) = false := by rw [bne, tk]; rfl
      have ub : (v.b != m.b) = false := by rw [bne, tb]; rfl
      have un : (v.n != m.n) = false := by rw [bne, tn]; rfl
      have us : (v.s != m.s) = false := by rw [bne, ts]; rfl
      have ua : ((v.items.length : Int) != (m.items.length : Int)) = false := by rw [ta]; simp
      have uc : ((v.mems.length : Int) != (m.mems.length : Int)) = false := by rw [tc]; simp
      have la1 : v.items.length ≤ m.items.length := by omega
      have la2 : m.items.length ≤ v.items.length := by omega
      have lc1 : v.mems.length ≤ m.mems.length := by omega
      have lc2 : m.mems.length ≤ v.mems.length := by omega
      have HE := Lib.hid hE
      have HIH := Lib.hid ih
      have HA := Lib.hid ha
      have HA' := Lib.hid ha'
      have HK := Lib.hid hk
      have HK' := Lib.hid hk'
      have HS := Lib.hid hs
      have LNI := Lib.hid lni
      have LNM := Lib.hid lnm
      have LMI := Lib.hid lmi
      have LMM := Lib.hid lmm
      have B0 : Hid (Below w.heap.size w ((w.alloc (valBox v A c K d)).alloc (valBox m A' c' K' d'))) := ((Below.refl _ _).alloc (Nat.le_refl _) _).alloc (by simp) _
      have X0 : Hid (((w.alloc (valBox v A c K d)).alloc (valBox m A' c' K' d')).heap[w.heap.size]? = some (valBox v A c K d)) := (Below.heap_alloc _ _ _ (by simp)).trans (heap_alloc_new w _)
      have Y0 : Hid (((w.alloc (valBox v A c K d)).alloc (valBox m A' c' K' d')).heap[w.heap.size + 1]? = some (valBox m A' c' K' d')) := Lib.hid (by have h := heap_alloc_new (w.alloc (valBox v A c K d)) (valBox m A' c' K' d'); rw [World.size_alloc] at h; exact h)
      clear hE ih ha ha' hk hk' hs hh he hv hu ta tc hfn hfm lni lnm lmi lmm
      cases o
      · skip
        clear tp
        go_enter Tryd.func11, Tryd.ntmps11
        go_wp2_with fail
        go_loopw [7] (fun i7 wr => ∃ i : Nat, i ≤ v.items.length ∧ i7 = .int .i64 i ∧ (jeqL false (v.items.drop i) (m.items.drop i) && jeqM false v.mems m.mems) = E ∧ Below w.heap.size w wr ∧ wr.heap[w.heap.size]? = some (valBox v A c K d) ∧ wr.heap[w.heap.size + 1]? = some (valBox m A' c' K' d')) (fun i7 _ => v.items.length - (intOf i7).toNat)
        case atStart => exact ⟨0, Nat.zero_le _, rfl, by simpa using HE.out, B0.out, X0.out, Y0.out⟩
        case round =>
          obtain ⟨i, hi, rfl, hrem, hb, hX, hY⟩ := hrel
          have HB := Lib.hid hb
          have HX := Lib.hid hX
          have HY := Lib.hid hY
          have HR := Lib.hid hrem
          have hsx := heap_lt hX
          have hsy := heap_lt hY
          obtain ⟨n0, n1, n2, n3, n4, n5, n6⟩ := jbox_cells hX
          obtain ⟨m0, m1, m2, m3, m4, m5, m6⟩ := jbox_cells hY
          clear hb hX hY hrem n0 n1 n2 n3 n6 m0 m1 m2 m3 m6
          by_cases hlt : i < v.items.length
          · have hlt' : i < m.items.length := by omega
            clear n5 m5
            have hfin := HR.out
            rw [jeqL_step hlt hlt'] at hfin
            obtain ⟨b, off, cs, rfl, hbl, hr, hcs⟩ := HA.out.at_ hlt
            obtain ⟨b', off', cs', rfl, hbl', hr', hcs'⟩ := HA'.out.at_ hlt'
            have HR3 := Lib.hid (show wr.drew.rangeAt b (off + i * 7) cs from rangeAt_keep hr (HB.out.block b hbl))
            have HR4 := Lib.hid (show wr.drew.rangeAt b' (off' + i * 7) cs' from rangeAt_keep hr' (HB.out.block b' hbl'))
            have p1 := ValP.keep (w' := wr.drew) (p' := (· < wr.drew.heap.size)) (fun k hk => HB.out.block k hk) (fun k hk => Nat.lt_of_lt_of_le hk HB.out.size) _ _ hcs
            have p2 := ValP.keep (w' := wr.drew) (p' := (· < wr.drew.heap.size)) (fun k hk => HB.out.block k hk) (fun k hk => Nat.lt_of_lt_of_le hk HB.out.size) _ _ hcs'
            have hcall := HIH.out false v.items[i] m.items[i] _ _ wr.drew (by have := jsz_item (List.getElem_mem hlt); have := HS.out; omega) (LNI.out _ (List.getElem_mem hlt)) (LMI.out _ (List.getElem_mem hlt')) ⟨_, rfl, p1⟩ ⟨_, rfl, p2⟩
            obtain ⟨A1, c1, K1, d1, rfl, _, _, _, _⟩ := hcs.open_
            obtain ⟨A2, c2, K2, d2, rfl, _, _, _, _⟩ := hcs'.open_
            have hi0 : (i : Int) < v.items.length := by omega
            have hi1 : (i : Int) < m.items.length := by omega
            have HC := Lib.hid hcall
            have HF := Lib.hid hfin
            clear hr hr' hcs hcs' hfin p1 p2 hcall
            generalize jeq false v.items[i] m.items[i] = q at *
            have n4'' : wr.drew.cell? ⟨w.heap.size, 4, none⟩ = some (.slice (some ⟨b, off, none⟩) v.items.length c) := n4
            have m4'' : wr.drew.cell? ⟨w.heap.size + 1, 4, none⟩ = some (.slice (some ⟨b', off', none⟩) m.items.length c') := m4
            go_wp2_with fail
            go_still_tail 11, (by kernel_rfl)
            refine still_load_val rfl _ rfl b (off + i * 7) rfl _ rfl HR3.out ?_
            repeat still_step
            refine still_load_val rfl _ rfl b' (off' + i * 7) rfl _ rfl HR4.out ?_
            repeat still_step
            refine wpStill_nil ?_
            change wpList _ _ _ _ _ wr.drew
            cases q
            all_goals
              go_wp2_with (go_at_call 11; refine HC.out.mono ?_; rintro e w' ⟨rfl, hb'⟩)
            · go_ret
              exact ⟨ret_bool (by rw [← HF.out]; simp), HB.out.trans ((below_undrew' hb').mono HB.out.size)⟩
            · have hb4 := Lib.hid (below_undrew' hb')
              go_roundw
              case rel => exact ⟨i + 1, by omega, by go_num, by rw [← HF.out, Bool.true_and], HB.out.trans (hb4.out.mono HB.out.size), (hb4.out.block _ hsx).trans HX.out, (hb4.out.block _ hsy).trans HY.out⟩
              case measure => simp [intOf]; omega
          · obtain rfl : i = v.items.length := by omega
            rw [List.drop_length, jeqL_nil, Bool.true_and] at HR
            go_wp2_with fail
            clear n4 m4 n5 m5
            go_loopw [8] (fun i8 wr => ∃ i : Nat, i ≤ v.mems.length ∧ i8 = .int .i64 i ∧ jeqM false (v.mems.drop i) (m.mems.drop i) = E ∧ Below w.heap.size w wr ∧ wr.heap[w.heap.size]? = some (valBox v A c K d) ∧ wr.heap[w.heap.size + 1]? = some (valBox m A' c' K' d')) (fun i8 _ => v.mems.length - (intOf i8).toNat)
            case atStart => exact ⟨0, Nat.zero_le _, rfl, by simpa using HR.out, HB.out, HX.out, HY.out⟩
            case round =>
              clear HR HB HX HY hsx hsy
              obtain ⟨i, hi, rfl, hrem, hb, hX, hY⟩ := hrel
              have HB := Lib.hid hb
              have HX := Lib.hid hX
              have HY := Lib.hid hY
              have HR := Lib.hid hrem
              have hsx := heap_lt hX
              have hsy := heap_lt hY
              obtain ⟨n0, n1, n2, n3, n4, n5, n6⟩ := jbox_cells hX
              obtain ⟨m0, m1, m2, m3, m4, m5, m6⟩ := jbox_cells hY
              clear hb hX hY hrem n0 n1 n2 n3 n4 n6 m0 m1 m2 m3 m4 m6
              by_cases hlt : i < v.mems.length
              · have hlt' : i < m.mems.length := by omega
                have hfin := HR.out
                rw [jeqM_step hlt hlt'] at hfin
                obtain ⟨b, off, cs, rfl, hbl, hr, hcs⟩ := HK.out.at_ hlt
                obtain ⟨b', off', cs', rfl, hbl', hr', hcs'⟩ := HK'.out.at_ hlt'
                have hj1 := jsz_mem (List.getElem_mem hlt)
                have f1 := LNM.out _ (List.getElem_mem hlt)
                have f2 := LMM.out _ (List.getElem_mem hlt')
                have hi0 : (i : Int) < v.mems.length := by omega
                have hi1 : (i : Int) < m.mems.length := by omega
                have r1 := rangeAt_keep hr (HB.out.block b hbl)
                generalize v.mems[i] = a at *
                generalize m.mems[i] = a' at *
                obtain ⟨vs, hvs, hcse⟩ := hcs
                obtain ⟨NA, nc, NM, nd, hvse, _, _, _, _⟩ := hvs.open_
                subst hvse
                simp only [List.cons_append, List.nil_append] at hcse
                subst hcse
                obtain ⟨vs', hvs', hcse'⟩ := hcs'
                obtain ⟨MA, mc, MM, md, hvse', _, _, _, _⟩ := hvs'.open_
                subst hvse'
                simp only [List.cons_append, List.nil_append] at hcse'
                subst hcse'
                obtain ⟨X, hXe⟩ : ∃ X : Obj, X = (.cells #[.string (S a.key), .int .i64 a.val.kind, .bool a.val.b, .int .i64 a.val.n, .string (S a.val.s), .slice NA a.val.items.length nc, .slice NM a.val.mems.length nd, .int .i64 a.val.pos, .int .i64 a.pos] 45) := ⟨_, rfl⟩
                obtain ⟨Y, hYe⟩ : ∃ Y : Obj, Y = (.cells #[.string (S a'.key), .int .i64 a'.val.kind, .bool a'.val.b, .int .i64 a'.val.n, .string (S a'.val.s), .slice MA a'.val.items.length mc, .slice MM a'.val.mems.length md, .int .i64 a'.val.pos, .int .i64 a'.pos] 45) := ⟨_, rfl⟩
                have BB := HB.out.alloc HB.out.size X
                have BW := BB.alloc BB.size Y
                have hz : (wr.alloc X).heap.size = wr.heap.size + 1 := by simp
                have hzz : ((wr.alloc X).alloc Y).heap.size = wr.heap.size + 2 := by simp
                have KX : ∀ k, k < wr.heap.size → ((wr.alloc X).alloc Y).heap[k]? = wr.heap[k]? := fun k hk => (Below.heap_alloc _ _ _ (by omega)).trans (Below.heap_alloc _ _ _ hk)
                have hX1 : ((wr.alloc X).alloc Y).heap[wr.heap.size]? = some X := (Below.heap_alloc _ _ _ (by omega)).trans (heap_alloc_new wr X)
                have hY1 : ((wr.alloc X).alloc Y).heap[wr.heap.size + 1]? = some Y := by have h := heap_alloc_new (wr.alloc X) Y; rw [hz] at h; exact h
                have r2 : (wr.alloc X).rangeAt b' (off' + i * 9) _ := rangeAt_keep hr' ((Below.heap_alloc wr X b' (by have := HB.out.size; omega)).trans (HB.out.block b' hbl'))
                have p1 := ValP.keep (w' := (wr.alloc X).alloc Y) (p' := (· < ((wr.alloc X).alloc Y).heap.size)) (fun k hk => BW.block k hk) (fun k hk => Nat.lt_of_lt_of_le hk BW.size) _ _ hvs
                have p2 := ValP.keep (w' := (wr.alloc X).alloc Y) (p' := (· < ((wr.alloc X).alloc Y).heap.size)) (fun k hk => BW.block k hk) (fun k hk => Nat.lt_of_lt_of_le hk BW.size) _ _ hvs'
                have hcall := HIH.out false a.val a'.val _ _ _ (by have := HS.out; omega) f1 f2 ⟨_, rfl, p1⟩ ⟨_, rfl, p2⟩
                rw [hzz] at hcall
                subst hXe
                subst hYe
                have r3 := mem_cells_val (range_of_heap hX1)
                have r4 := mem_cells_val (range_of_heap hY1)
                have R1 := Lib.hid r1
                have R2 := Lib.hid r2
                have R3 := Lib.hid r3
                have R4 := Lib.hid r4
                have HC := Lib.hid hcall
                have HF := Lib.hid hfin
                have HBW := Lib.hid BW
                have HKX := Lib.hid KX
                clear hr hr' hvs hvs' hfin p1 p2 hcall r1 r2 r3 r4 BB BW hX1 hY1 hz hzz KX f1 f2 hj1
                generalize jeq false a.val a'.val = q at *
                rcases xk : (a.key == a'.key) with _ | _
                · have yk : (a.key != a'.key) = true := by rw [bne, xk]; rfl
                  go_wp2_with (first
                    | (with_reducible refine gate ?_; refine wp_load_mem rfl _ rfl b (off + i * 9) rfl _ rfl R1.out ?_)
                    | (with_reducible refine gate ?_; refine wp_load_mem rfl _ rfl b' (off' + i * 9) rfl _ rfl R2.out ?_))
                  go_ret
                  exact ⟨ret_bool (by rw [← HF.out, xk]; simp), HBW.out⟩
                · have yk : (a.key != a'.key) = false := by rw [bne, xk]; rfl
                  cases q
                  all_goals
                    go_wp2_with (first
                      | (with_reducible refine gate ?_; refine wp_load_mem rfl _ rfl b (off + i * 9) rfl _ rfl R1.out ?_)
                      | (with_reducible refine gate ?_; refine wp_load_mem rfl _ rfl b' (off' + i * 9) rfl _ rfl R2.out ?_)
                      | (with_reducible refine gate ?_; refine wp_load_val rfl _ rfl wr.heap.size (0 + 1) rfl _ rfl R3.out ?_)
                      | (with_reducible refine gate ?_; refine wp_load_val rfl _ rfl (wr.heap.size + 1) (0 + 1) rfl _ rfl R4.out ?_)
                      | (go_at_call 11; refine HC.out.mono ?_; rintro e w5 ⟨rfl, hb5⟩))
                  · go_ret
                    exact ⟨ret_bool (by rw [← HF.out, xk]; simp), HBW.out.trans (hb5.mono (by have := HB.out.size; simp; omega))⟩
                  · have hb6 := Lib.hid hb5
                    go_roundw
                    case rel => exact ⟨i + 1, by omega, by go_num, by rw [← HF.out, xk]; simp, HBW.out.trans (hb6.out.mono (by have := HB.out.size; simp; omega)), ((hb6.out.block _ (by omega)).trans (HKX.out _ hsx)).trans HX.out, ((hb6.out.block _ (by omega)).trans (HKX.out _ hsy)).trans HY.out⟩
                    case measure => simp [intOf]; omega
              · obtain rfl : i = v.mems.length := by omega
                rw [List.drop_length, jeqM_nil] at HR
                go_wp2_with fail
                go_ret
                exact ⟨ret_bool HR.out, HB.out⟩
      · skip
        have up : (v.pos != m.pos) = false := by rw [bne, tp rfl]; rfl
        clear tp
        go_enter Tryd.func11, Tryd.ntmps11
        go_wp2_with fail
        go_loopw [7] (fun i7 wr => ∃ i : Nat, i ≤ v.items.length ∧ i7 = .int .i64 i ∧ (jeqL true (v.items.drop i) (m.items.drop i) && jeqM true v.mems m.mems) = E ∧ Below w.heap.size w wr ∧ wr.heap[w.heap.size]? = some (valBox v A c K d) ∧ wr.heap[w.heap.size + 1]? = some (valBox m A' c' K' d')) (fun i7 _ => v.items.length - (intOf i7).toNat)
        case atStart => exact ⟨0, Nat.zero_le _, rfl, by simpa using HE.out, B0.out, X0.out, Y0.out⟩
        case round =>
          obtain ⟨i, hi, rfl, hrem, hb, hX, hY⟩ := hrel
          have HB := Lib.hid hb
          have HX := Lib.hid hX
          have HY := Lib.hid hY
          have HR := Lib.hid hrem
          have hsx := heap_lt hX
          have hsy := heap_lt hY
          obtain ⟨n0, n1, n2, n3, n4, n5, n6⟩ := jbox_cells hX
          obtain ⟨m0, m1, m2, m3, m4, m5, m6⟩ := jbox_cells hY
          clear hb hX hY hrem n0 n1 n2 n3 n6 m0 m1 m2 m3 m6
          by_cases hlt : i < v.items.length
          · have hlt' : i < m.items.length := by omega
            clear n5 m5
            have hfin := HR.out
            rw [jeqL_step hlt hlt'] at hfin
            obtain ⟨b, off, cs, rfl, hbl, hr, hcs⟩ := HA.out.at_ hlt
            obtain ⟨b', off', cs', rfl, hbl', hr', hcs'⟩ := HA'.out.at_ hlt'
            have HR3 := Lib.hid (show wr.drew.rangeAt b (off + i * 7) cs from rangeAt_keep hr (HB.out.block b hbl))
            have HR4 := Lib.hid (show wr.drew.rangeAt b' (off' + i * 7) cs' from rangeAt_keep hr' (HB.out.block b' hbl'))
            have p1 := ValP.keep (w' := wr.drew) (p' := (· < wr.drew.heap.size)) (fun k hk => HB.out.block k hk) (fun k hk => Nat.lt_of_lt_of_le hk HB.out.size) _ _ hcs
            have p2 := ValP.keep (w' := wr.drew) (p' := (· < wr.drew.heap.size)) (fun k hk => HB.out.block k hk) (fun k hk => Nat.lt_of_lt_of_le hk HB.out.size) _ _ hcs'
            have hcall := HIH.out true v.items[i] m.items[i] _ _ wr.drew (by have := jsz_item (List.getElem_mem hlt); have := HS.out; omega) (LNI.out _ (List.getElem_mem hlt)) (LMI.out _ (List.getElem_mem hlt')) ⟨_, rfl, p1⟩ ⟨_, rfl, p2⟩
            obtain ⟨A1, c1, K1, d1, rfl, _, _, _, _⟩ := hcs.open_
            obtain ⟨A2, c2, K2, d2, rfl, _, _, _, _⟩ := hcs'.open_
            have hi0 : (i : Int) < v.items.length := by omega
            have hi1 : (i : Int) < m.items.length := by omega
            have HC := Lib.hid hcall
            have HF := Lib.hid hfin
            clear hr hr' hcs hcs' hfin p1 p2 hcall
            generalize jeq true v.items[i] m.items[i] = q at *
            have n4'' : wr.drew.cell? ⟨w.heap.size, 4, none⟩ = some (.slice (some ⟨b, off, none⟩) v.items.length c) := n4
            have m4'' : wr.drew.cell? ⟨w.heap.size + 1, 4, none⟩ = some (.slice (some ⟨b', off', none⟩) m.items.length c') := m4
            go_wp2_with fail
            go_still_tail 11, (by kernel_rfl)
            refine still_load_val rfl _ rfl b (off + i * 7) rfl _ rfl HR3.out ?_
            repeat still_step
            refine still_load_val rfl _ rfl b' (off' + i * 7) rfl _ rfl HR4.out ?_
            repeat still_step
            refine wpStill_nil ?_
            change wpList _ _ _ _ _ wr.drew
            cases q
            all_goals
              go_wp2_with (go_at_call 11; refine HC.out.mono ?_; rintro e w' ⟨rfl, hb'⟩)
            · go_ret
              exact ⟨ret_bool (by rw [← HF.out]; simp), HB.out.trans ((below_undrew' hb').mono HB.out.size)⟩
            · have hb4 := Lib.hid (below_undrew' hb')
              go_roundw
              case rel => exact ⟨i + 1, by omega, by go_num, by rw [← HF.out, Bool.true_and], HB.out.trans (hb4.out.mono HB.out.size), (hb4.out.block _ hsx).trans HX.out, (hb4.out.block _ hsy).trans HY.out⟩
              case measure => simp [intOf]; omega
          · obtain rfl : i = v.items.length := by omega
            rw [List.drop_length, jeqL_nil, Bool.true_and] at HR
            go_wp2_with fail
            clear n4 m4 n5 m5
            go_loopw [8] (fun i8 wr => ∃ i : Nat, i ≤ v.mems.length ∧ i8 = .int .i64 i ∧ jeqM true (v.mems.drop i) (m.mems.drop i) = E ∧ Below w.heap.size w wr ∧ wr.heap[w.heap.size]? = some (valBox v A c K d) ∧ wr.heap[w.heap.size + 1]? = some (valBox m A' c' K' d')) (fun i8 _ => v.mems.length - (intOf i8).toNat)
            case atStart => exact ⟨0, Nat.zero_le _, rfl, by simpa using HR.out, HB.out, HX.out, HY.out⟩
            case round =>
              clear HR HB HX HY hsx hsy
              obtain ⟨i, hi, rfl, hrem, hb, hX, hY⟩ := hrel
              have HB := Lib.hid hb
              have HX := Lib.hid hX
              have HY := Lib.hid hY
              have HR := Lib.hid hrem
              have hsx := heap_lt hX
              have hsy := heap_lt hY
              obtain ⟨n0, n1, n2, n3, n4, n5, n6⟩ := jbox_cells hX
              obtain ⟨m0, m1, m2, m3, m4, m5, m6⟩ := jbox_cells hY
              clear hb hX hY hrem n0 n1 n2 n3 n4 n6 m0 m1 m2 m3 m4 m6
              by_cases hlt : i < v.mems.length
              · have hlt' : i < m.mems.length := by omega
                have hfin := HR.out
                rw [jeqM_step hlt hlt'] at hfin
                obtain ⟨b, off, cs, rfl, hbl, hr, hcs⟩ := HK.out.at_ hlt
                obtain ⟨b', off', cs', rfl, hbl', hr', hcs'⟩ := HK'.out.at_ hlt'
                have hj1 := jsz_mem (List.getElem_mem hlt)
                have f1 := LNM.out _ (List.getElem_mem hlt)
                have f2 := LMM.out _ (List.getElem_mem hlt')
                have hi0 : (i : Int) < v.mems.length := by omega
                have hi1 : (i : Int) < m.mems.length := by omega
                have r1 := rangeAt_keep hr (HB.out.block b hbl)
                generalize v.mems[i] = a at *
                generalize m.mems[i] = a' at *
                obtain ⟨vs, hvs, hcse⟩ := hcs
                obtain ⟨NA, nc, NM, nd, hvse, _, _, _, _⟩ := hvs.open_
                subst hvse
                simp only [List.cons_append, List.nil_append] at hcse
                subst hcse
                obtain ⟨vs', hvs', hcse'⟩ := hcs'
                obtain ⟨MA, mc, MM, md, hvse', _, _, _, _⟩ := hvs'.open_
                subst hvse'
                simp only [List.cons_append, List.nil_append] at hcse'
                subst hcse'
                obtain ⟨X, hXe⟩ : ∃ X : Obj, X = (.cells #[.string (S a.key), .int .i64 a.val.kind, .bool a.val.b, .int .i64 a.val.n, .string (S a.val.s), .slice NA a.val.items.length nc, .slice NM a.val.mems.length nd, .int .i64 a.val.pos, .int .i64 a.pos] 45) := ⟨_, rfl⟩
                obtain ⟨Y, hYe⟩ : ∃ Y : Obj, Y = (.cells #[.string (S a'.key), .int .i64 a'.val.kind, .bool a'.val.b, .int .i64 a'.val.n, .string (S a'.val.s), .slice MA a'.val.items.length mc, .slice MM a'.val.mems.length md, .int .i64 a'.val.pos, .int .i64 a'.pos] 45) := ⟨_, rfl⟩
                have BB := HB.out.alloc HB.out.size X
                have BW := BB.alloc BB.size Y
                have hz : (wr.alloc X).heap.size = wr.heap.size + 1 := by simp
                have hzz : ((wr.alloc X).alloc Y).heap.size = wr.heap.size + 2 := by simp
                have KX : ∀ k, k < wr.heap.size → ((wr.alloc X).alloc Y).heap[k]? = wr.heap[k]? := fun k hk => (Below.heap_alloc _ _ _ (by omega)).trans (Below.heap_alloc _ _ _ hk)
                have hX1 : ((wr.alloc X).alloc Y).heap[wr.heap.size]? = some X := (Below.heap_alloc _ _ _ (by omega)).trans (heap_alloc_new wr X)
                have hY1 : ((wr.alloc X).alloc Y).heap[wr.heap.size + 1]? = some Y := by have h := heap_alloc_new (wr.alloc X) Y; rw [hz] at h; exact h
                have r2 : (wr.alloc X).rangeAt b' (off' + i * 9) _ := rangeAt_keep hr' ((Below.heap_alloc wr X b' (by have := HB.out.size; omega)).trans (HB.out.block b' hbl'))
                have p1 := ValP.keep (w' := (wr.alloc X).alloc Y) (p' := (· < ((wr.alloc X).alloc Y).heap.size)) (fun k hk => BW.block k hk) (fun k hk => Nat.lt_of_lt_of_le hk BW.size) _ _ hvs
                have p2 := ValP.keep (w' := (wr.alloc X).alloc Y) (p' := (· < ((wr.alloc X).alloc Y).heap.size)) (fun k hk => BW.block k hk) (fun k hk => Nat.lt_of_lt_of_le hk BW.size) _ _ hvs'
                have hcall := HIH.out true a.val a'.val _ _ _ (by have := HS.out; omega) f1 f2 ⟨_, rfl, p1⟩ ⟨_, rfl, p2⟩
                rw [hzz] at hcall
                subst hXe
                subst hYe
                have r3 := mem_cells_val (range_of_heap hX1)
                have r4 := mem_cells_val (range_of_heap hY1)
                have R1 := Lib.hid r1
                have R2 := Lib.hid r2
                have R3 := Lib.hid r3
                have R4 := Lib.hid r4
                have HC := Lib.hid hcall
                have HF := Lib.hid hfin
                have HBW := Lib.hid BW
                have HKX := Lib.hid KX
                clear hr hr' hvs hvs' hfin p1 p2 hcall r1 r2 r3 r4 BB BW hX1 hY1 hz hzz KX f1 f2 hj1
                generalize jeq true a.val a'.val = q at *
                rcases xk : (a.key == a'.key) with _ | _
                · have yk : (a.key != a'.key) = true := by rw [bne, xk]; rfl
                  go_wp2_with (first
                    | (with_reducible refine gate ?_; refine wp_load_mem rfl _ rfl b (off + i * 9) rfl _ rfl R1.out ?_)
                    | (with_reducible refine gate ?_; refine wp_load_mem rfl _ rfl b' (off' + i * 9) rfl _ rfl R2.out ?_))
                  go_ret
                  exact ⟨ret_bool (by rw [← HF.out, xk]; simp), HBW.out⟩
                · have yk : (a.key != a'.key) = false := by rw [bne, xk]; rfl
                  rcases xp : (a.pos == a'.pos) with _ | _
                  · have yp : (a.pos != a'.pos) = true := by rw [bne, xp]; rfl
                    go_wp2_with (first
                      | (with_reducible refine gate ?_; refine wp_load_mem rfl _ rfl b (off + i * 9) rfl _ rfl R1.out ?_)
                      | (with_reducible refine gate ?_; refine wp_load_mem rfl _ rfl b' (off' + i * 9) rfl _ rfl R2.out ?_))
                    go_ret
                    exact ⟨ret_bool (by rw [← HF.out, xk, xp]; simp), HBW.out⟩
                  · have yp : (a.pos != a'.pos) = false := by rw [bne, xp]; rfl
                    skip
                    cases q
                    all_goals
                      go_wp2_with (first
                        | (with_reducible refine gate ?_; refine wp_load_mem rfl _ rfl b (off + i * 9) rfl _ rfl R1.out ?_)
                        | (with_reducible refine gate ?_; refine wp_load_mem rfl _ rfl b' (off' + i * 9) rfl _ rfl R2.out ?_)
                        | (with_reducible refine gate ?_; refine wp_load_val rfl _ rfl wr.heap.size (0 + 1) rfl _ rfl R3.out ?_)
                        | (with_reducible refine gate ?_; refine wp_load_val rfl _ rfl (wr.heap.size + 1) (0 + 1) rfl _ rfl R4.out ?_)
                        | (go_at_call 11; refine HC.out.mono ?_; rintro e w5 ⟨rfl, hb5⟩))
                    · go_ret
                      exact ⟨ret_bool (by rw [← HF.out, xk, xp]; simp), HBW.out.trans (hb5.mono (by have := HB.out.size; simp; omega))⟩
                    · have hb6 := Lib.hid hb5
                      go_roundw
                      case rel => exact ⟨i + 1, by omega, by go_num, by rw [← HF.out, xk, xp]; simp, HBW.out.trans (hb6.out.mono (by have := HB.out.size; simp; omega)), ((hb6.out.block _ (by omega)).trans (HKX.out _ hsx)).trans HX.out, ((hb6.out.block _ (by omega)).trans (HKX.out _ hsy)).trans HY.out⟩
                      case measure => simp [intOf]; omega
              · obtain rfl : i = v.mems.length := by omega
                rw [List.drop_length, jeqM_nil] at HR
                go_wp2_with fail
                go_ret
                exact ⟨ret_bool HR.out, HB.out⟩
end Go.Proofs.YthlppbpccldikaaDoor
