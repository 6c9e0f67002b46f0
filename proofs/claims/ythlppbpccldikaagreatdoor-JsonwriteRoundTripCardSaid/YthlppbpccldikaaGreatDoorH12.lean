/-
  Several texts in one file, in build order:
  - Walk of chapter 12: which values are valid (the program).
  - Chapter 12, plain: two valid values with the same canonical text are equal apart from offsets, and the other way round. No function of the program.
-/
import Derived.Test.YthlppbpccldikaaGreatDoorH11
import Derived.Laws.EntriesVeiled
import Derived.Test.YthlppbpccldikaaGreatDoorH4
set_option linter.unusedVariables false
namespace Go.Proofs.YthlppbpccldikaaGreatDoor
open Go.RowKit

theorem jbox_cells {w : World} {b : Nat} {n : JV} {IA : Option Addr} {ic : Nat} {MA : Option Addr} {mc : Nat} (h : w.heap[b]? = some (valBox n IA ic MA mc)) :
    w.cell? ⟨b, 0, none⟩ = some (.int .i64 n.kind) ∧ w.cell? ⟨b, 1, none⟩ = some (.bool n.b) ∧ w.cell? ⟨b, 2, none⟩ = some (.int .i64 n.n) ∧ w.cell? ⟨b, 3, none⟩ = some (.string (S n.s)) ∧
    w.cell? ⟨b, 4, none⟩ = some (.slice IA n.items.length ic) ∧ w.cell? ⟨b, 5, none⟩ = some (.slice MA n.mems.length mc) ∧ w.cell? ⟨b, 6, none⟩ = some (.int .i64 n.pos) := by
  refine ⟨?_, ?_, ?_, ?_, ?_, ?_, ?_⟩ <;> (rw [Lib.cell_of_heap h]; rfl)
theorem mbox_cells {w : World} {b : Nat} {m : JM} {IA : Option Addr} {ic : Nat} {MA : Option Addr} {mc : Nat} (h : w.heap[b]? = some (memBox m IA ic MA mc)) :
    w.cell? ⟨b, 0, none⟩ = some (.string (S m.key)) ∧ w.cell? ⟨b, 1, none⟩ = some (.int .i64 m.val.kind) ∧ w.cell? ⟨b, 2, none⟩ = some (.bool m.val.b) ∧ w.cell? ⟨b, 3, none⟩ = some (.int .i64 m.val.n) ∧ w.cell? ⟨b, 4, none⟩ = some (.string (S m.val.s)) ∧
    w.cell? ⟨b, 5, none⟩ = some (.slice IA m.val.items.length ic) ∧ w.cell? ⟨b, 6, none⟩ = some (.slice MA m.val.mems.length mc) ∧ w.cell? ⟨b, 7, none⟩ = some (.int .i64 m.val.pos) ∧ w.cell? ⟨b, 8, none⟩ = some (.int .i64 m.pos) := by
  refine ⟨?_, ?_, ?_, ?_, ?_, ?_, ?_, ?_, ?_⟩ <;> (rw [Lib.cell_of_heap h]; rfl)
theorem jvdL_step {l : List JV} {i d : Nat} (h : i < l.length) : jvdL (l.drop i) d = (jvd l[i] d && jvdL (l.drop (i + 1)) d) := by
  rw [List.drop_eq_getElem_cons h, jvdL]
theorem jvdM_step {l : List JM} {i d : Nat} {q : List Bytes} (h : i < l.length) : jvdM q (l.drop i) d = (!(q.contains l[i].key) && utf8J l[i].key && jvd l[i].val d && jvdM (q ++ [l[i].key]) (l.drop (i + 1)) d) := by
  rw [List.drop_eq_getElem_cons h]
  cases hx : l[i] with
  | mk k v p => rw [jvdM]; rfl

set_option maxHeartbeats 4000000 in
set_option maxRecDepth 100000 in
theorem valid12_any (s : Nat) : ∀ (v : JV) (u : Value) (d : Nat) (w : World), jsz v ≤ s → jful v ≤ 1000000 → d ≤ 101 → TabJ w → ValV w (· < w.heap.size) v u →
    Calls Tryz.prog 62 #[u, .int .i64 d] w fun e w' => e = .returned (.bool (jvd v d)) ∧ Below w.heap.size w w' := by
  induction s with
  | zero => intro v u d w h; have := jsz_pos v; omega
  | succ s ih =>
    intro v u d w hs hf hd hT hv
    have hfm := jful_form v
    have hun := fun (W : World) (hW : Below w.heap.size w W) => unused_any v u W (hv.keep (fun k hk => hW.block k hk) (fun k hk => Nat.lt_of_lt_of_le hk hW.size))
    have hut := fun (W : World) (hW : Below w.heap.size w W) => Tryz.utf8_ValidString (S v.s) W (by simp [S, ByteArray.size]; omega) (hT.next hW).utf
    rw [S_data] at hut
    obtain ⟨IA, ic, MA, mc, rfl, hi, hm, hic, hmc⟩ := hv.open_
    have hil := jfulL_len v.items
    have hml := jfulM_len v.mems
    have F1 : Hid (∀ o, Below w.heap.size w (w.alloc o)) := fun o => (Below.refl _ w).alloc (Nat.le_refl _) o
    obtain ⟨R, hR⟩ : ∃ R, jvd v d = R := ⟨_, rfl⟩
    rw [hR]
    rw [jvd_form, jhOk_jun] at hR
    by_cases hk0 : v.kind < 0
    · have hr : R = false := by rw [← hR, decide_eq_false (by omega : ¬ 0 ≤ v.kind)]; simp
      have HR := Lib.hid hr
      clear hr hR hv hi hm hun hut ih hT hfm hil hml hf hs
      go_enter Tryz.func62, Tryz.ntmps62
      go_wp2_with fail
      go_ret
      exact ⟨ret_bool HR.out.symm, F1.out _⟩
    by_cases hk5 : 5 < v.kind
    · have hr : R = false := by rw [← hR, decide_eq_false (by omega : ¬ v.kind ≤ 5)]; simp
      have HR := Lib.hid hr
      clear hr hR hv hi hm hun hut ih hT hfm hil hml hf hs
      go_enter Tryz.func62, Tryz.ntmps62
      go_wp2_with fail
      go_ret
      exact ⟨ret_bool HR.out.symm, F1.out _⟩
    by_cases hd0 : 100 < d
    · have hr : R = false := by rw [← hR, decide_eq_false (by omega : ¬ d ≤ 100)]; simp
      have hd' : (100 : Int) < d := by omega
      have HR := Lib.hid hr
      clear hr hR hv hi hm hun hut ih hT hfm hil hml hf hs
      go_enter Tryz.func62, Tryz.ntmps62
      go_wp2_with fail
      go_ret
      exact ⟨ret_bool HR.out.symm, F1.out _⟩
    have hd' : ¬ (100 : Int) < d := by omega
    rw [decide_eq_true (by omega : 0 ≤ v.kind), decide_eq_true (by omega : v.kind ≤ 5), decide_eq_true (by omega : d ≤ 100)] at hR
    simp only [Bool.true_and, Bool.and_true] at hR
    cases hj : jun v with
    | false =>
      have hr : R = false := by rw [← hR, hj]; simp
      rw [hj] at hun
      have HR := Lib.hid hr
      have HUN := Lib.hid hun
      clear hr hR hv hi hm hun hut ih hT hfm hil hml hf hs hj
      go_enter Tryz.func62, Tryz.ntmps62
      go_wp2_with (go_at_call 81; refine (HUN.out _ (F1.out _)).mono ?_; rintro e w1 ⟨rfl, hb1⟩)
      go_ret
      exact ⟨ret_bool HR.out.symm, (F1.out _).trans (hb1.mono (by simp))⟩
    | true =>
      rw [hj] at hun hR
      have HUN := Lib.hid hun
      have hX := heap_alloc_new w (valBox v IA ic MA mc)
      cases hu : utf8J v.s with
      | false =>
        have hr : R = false := by rw [← hR, hu]; simp
        rw [show Lib.validD v.s = false from hu] at hut
        have HR := Lib.hid hr
        have HUT := Lib.hid hut
        clear hr hR hv hi hm hun hut ih hT hfm hil hml hf hs hj hu
        go_enter Tryz.func62, Tryz.ntmps62
        go_wp2_with (first
          | (go_at_call 81; refine (HUN.out _ (F1.out _)).mono ?_; rintro e w1 ⟨rfl, hb1⟩; have B1 := (F1.out (valBox v IA ic MA mc)).trans (hb1.mono (by simp)); obtain ⟨k0, k1, k2, k3, k4, k5, k6⟩ := jbox_cells ((hb1.block _ (heap_lt hX)).trans hX))
          | (go_at_call 82; refine (HUT.out _ B1).mono ?_; rintro e w2 ⟨rfl, hb2⟩))
        go_ret
        exact ⟨ret_bool HR.out.symm, B1.trans (hb2.mono B1.size)⟩
      | true =>
        rw [hu] at hR
        simp only [Bool.true_and] at hR
        rw [show Lib.validD v.s = true from hu] at hut
        have HR := Lib.hid hR
        have HUT := Lib.hid hut
        have HI := Lib.hid hi
        have HM := Lib.hid hm
        have HIH := Lib.hid ih
        have HT := Lib.hid hT
        have HS := Lib.hid hs
        have HF := Lib.hid hf
        have HFM := Lib.hid hfm
        have hdd : d ≤ 100 := by omega
        have hil2 : v.items.length ≤ 1000000 := by omega
        have hml2 : v.mems.length ≤ 1000000 := by omega
        have ed : (((d + 1 : Nat) : Int)) = (d : Int) + 1 := by omega
        have HED := Lib.hid ed
        have hmm := @run_makeMap Tryz.prog
        clear hR hv hi hm hun hut ih hT hfm hil hml hf hs hj hu ed hd0
        go_enter Tryz.func62, Tryz.ntmps62
        go_wp2_with (first
          | (go_at_call 81; refine (HUN.out _ (F1.out _)).mono ?_; rintro e w1 ⟨rfl, hb1⟩; have B1 := (F1.out (valBox v IA ic MA mc)).trans (hb1.mono (by simp)); have X1 := (hb1.block _ (heap_lt hX)).trans hX; obtain ⟨k0, k1, k2, k3, k4, k5, k6⟩ := jbox_cells X1)
          | (go_at_call 82; refine (HUT.out _ B1).mono ?_; rintro e w2 ⟨rfl, hb2⟩; have B2 := B1.trans (hb2.mono B1.size); have X2 := (hb2.block _ (heap_lt X1)).trans X1; clear k0 k1 k2 k3 k4 k5 k6; obtain ⟨m0, m1, m2, m3, m4, m5, m6⟩ := jbox_cells X2))
        have HB2 := Lib.hid B2
        have HX2 := Lib.hid X2
        clear B1 B2 X1 X2 hb1 hb2 hX m0 m1 m2 m3 m4 m5 m6
        go_loopw [36] (fun i36 wr => ∃ i : Nat, i ≤ v.items.length ∧ i36 = .int .i64 i ∧ (jvdL (v.items.drop i) (d + 1) && jvdM [] v.mems (d + 1)) = R ∧ Below w.heap.size w wr ∧ wr.heap[w.heap.size]? = some (valBox v IA ic MA mc)) (fun i36 _ => v.items.length - (intOf i36).toNat)
        case atStart => exact ⟨0, Nat.zero_le _, rfl, by simpa using HR.out, HB2.out, HX2.out⟩
        case round =>
          obtain ⟨i, hi, rfl, hres, hb, hX⟩ := hrel
          have HB := Lib.hid hb
          have HX := Lib.hid hX
          have hsz := heap_lt hX
          clear hb HB2 HX2 HR
          by_cases hlt : i < v.items.length
          · have hlt' : (i : Int) < v.items.length := by omega
            rw [jvdL_step hlt] at hres
            have hjz := jsz_item (List.getElem_mem hlt)
            have hjf := jfulL_mem (List.getElem_mem hlt)
            obtain ⟨b, off, cs, rfl, hbl, hr, hcs⟩ := HI.out.at_ hlt
            have hr1 := rangeAt_keep hr (HB.out.block b hbl)
            have hcs1 := ValP.keep (fun k hk => HB.out.block k hk) (fun k hk => Nat.lt_of_lt_of_le hk HB.out.size) _ _ hcs
            generalize v.items[i] = x at *
            obtain ⟨NA, nc, NM, nd, rfl, _, _, _, _⟩ := hcs.open_
            have hw1 : Below w.heap.size w (wr.alloc (valBox x NA nc NM nd)) := HB.out.alloc HB.out.size _
            have hcall := HIH.out x _ (d + 1) (wr.alloc (valBox x NA nc NM nd)) (by have := HS.out; omega) (by have := HF.out; have := HFM.out; omega) (by omega) (HT.out.next hw1) ⟨_, rfl, ValP.keep (fun k hk => Below.heap_alloc _ _ _ hk) (fun k hk => by simp; omega) _ _ hcs1⟩
            rw [HED.out] at hcall
            have HC := Lib.hid hcall
            have HR1 := Lib.hid hr1
            have hra := range_of_heap (cs := [.int .i64 x.kind, .bool x.b, .int .i64 x.n, .string (S x.s), .slice NA x.items.length nc, .slice NM x.mems.length nd, .int .i64 x.pos]) (heap_alloc_new wr (valBox x NA nc NM nd))
            have HW1 := Lib.hid hw1
            clear hr hr1 hcs hcs1 hcall hw1 hX
            cases hq : jvd x (d + 1) with
            | false =>
              rw [hq] at HC hres
              have hr : R = false := by rw [← hres]; simp
              have HRR := Lib.hid hr
              clear hr hres hq
              go_wp2_with (first
                | (with_reducible refine gate ?_; refine wp_load_val rfl _ rfl b (off + i * 7) rfl _ rfl HR1.out ?_)
                | (with_reducible refine gate ?_; refine wp_load_val rfl _ rfl wr.heap.size 0 rfl _ rfl hra ?_)
                | (go_at_call 62; refine HC.out.mono ?_; rintro e w3 ⟨rfl, hb3⟩))
              go_ret
              exact ⟨ret_bool HRR.out.symm, HW1.out.trans (hb3.mono HW1.out.size)⟩
            | true =>
              rw [hq] at HC hres
              simp only [Bool.true_and] at hres
              have HRR := Lib.hid hres
              clear hres hq
              go_wp2_with (first
                | (with_reducible refine gate ?_; refine wp_load_val rfl _ rfl b (off + i * 7) rfl _ rfl HR1.out ?_)
                | (with_reducible refine gate ?_; refine wp_load_val rfl _ rfl wr.heap.size 0 rfl _ rfl hra ?_)
                | (go_at_call 62; refine HC.out.mono ?_; rintro e w3 ⟨rfl, hb3⟩))
              go_roundw
              case rel => exact ⟨i + 1, by omega, by go_num, HRR.out, HW1.out.trans (hb3.mono HW1.out.size), (hb3.block _ (by simp; omega)).trans ((Below.heap_alloc _ _ _ hsz).trans HX.out)⟩
              case measure => simp [intOf]; omega
          · have hil' : i = v.items.length := by omega
            subst hil'
            rw [List.drop_length, jvdL, Bool.true_and] at hres
            have hlt' : ¬ ((v.items.length : Int) < v.items.length) := by omega
            have HRR := Lib.hid hres
            obtain ⟨m0, m1, m2, m3, m4, m5, m6⟩ := jbox_cells ((Below.heap_alloc wr (.map #[] 0) _ hsz).trans hX)
            have HM0 := Lib.hid (MapOf.new wr)
            have hzr : w.heap.size < wr.heap.size := hsz
            clear hres hlt hX
            go_wp2_with fail
            clear hmm m0 m1 m2 m3 m4 m5 m6
            generalize hwb : wr.heap.size = wb at *
            go_loopw [50] (fun i50 wq => ∃ (i : Nat) (seen : List Bytes), i ≤ v.mems.length ∧ i50 = .int .i64 i ∧ MapOf wq wb (seenOf seen) ∧ jvdM seen (v.mems.drop i) (d + 1) = R ∧ Below w.heap.size w wq ∧ wb < wq.heap.size) (fun i50 _ => v.mems.length - (intOf i50).toNat)
            case atStart => exact ⟨0, [], Nat.zero_le _, rfl, HM0.out, by simpa using HRR.out, HB.out.alloc HB.out.size _, by simp; omega⟩
            case round =>
              clear HM0 HRR
              obtain ⟨i, seen, hi, rfl, hmap, hres, hb, hsz2⟩ := hrel
              have HMP := Lib.hid hmap
              have HBB := Lib.hid hb
              clear hmap hb
              by_cases hlt : i < v.mems.length
              · have hlt' : (i : Int) < v.mems.length := by omega
                rw [jvdM_step hlt] at hres
                have hjz := jsz_mem (List.getElem_mem hlt)
                have hjf := jfulM_mem (List.getElem_mem hlt)
                obtain ⟨b, off, cs, rfl, hbl, hr, hcs⟩ := HM.out.at_ hlt
                have hr1 := rangeAt_keep hr (HBB.out.block b hbl)
                have hcs1 := MemP.keep (fun k hk => HBB.out.block k hk) (fun k hk => Nat.lt_of_lt_of_le hk HBB.out.size) hcs
                generalize v.mems[i] = m at *
                obtain ⟨vs, hvs, hcse⟩ := hcs1
                obtain ⟨NA, nc, NM, nd, hvse, _, _, _, _⟩ := hvs.open_
                subst hvse
                simp only [List.cons_append, List.nil_append] at hcse
                subst hcse
                have hw1 : Below w.heap.size w (wr.alloc (memBox m NA nc NM nd)) := HBB.out.alloc HBB.out.size _
                have hX4 := heap_alloc_new wr (memBox m NA nc NM nd)
                have hz4 : (wr.alloc (memBox m NA nc NM nd)).heap.size = wr.heap.size + 1 := by simp
                have hut := fun (W : World) (hW : Below w.heap.size w W) => Tryz.utf8_ValidString (S m.key) W (by have := HF.out; have := HFM.out; simp [S, ByteArray.size]; omega) (HT.out.next hW).utf
                rw [S_data] at hut
                have hcall := fun (W : World) (hW : Below (wr.heap.size + 1) (wr.alloc (memBox m NA nc NM nd)) W) => HIH.out m.val _ (d + 1) W (by have := HS.out; omega) (by have := HF.out; have := HFM.out; omega) (by omega) (HT.out.next (hw1.trans (hW.mono (by have := HBB.out.size; omega)))) ⟨_, rfl, ValP.keep (fun k hk => (hW.block k (by have h1 : k < wr.heap.size := hk; omega)).trans (Below.heap_alloc _ _ _ hk)) (fun k hk => by have h1 : k < wr.heap.size := hk; have := hW.size; rw [hz4] at this; omega) _ _ hvs⟩
                rw [HED.out] at hcall
                have hlook : (Instr.lookup 118 (.map (some wb)) (.string (S m.key)) false).run Tryz.prog (wr.alloc (memBox m NA nc NM nd)) = .ok (.bool (seen.contains m.key)) (wr.alloc (memBox m NA nc NM nd)) := by
                  rw [MapOf.run_lookup (HMP.out.keep (Below.heap_alloc wr _ _ hsz2)) Tryz.underlying118 Tryz.underlying9 (zeroBool _) m.key, look_seen]
                have HR1 := Lib.hid hr1
                have HW1 := Lib.hid hw1
                have HX4 := Lib.hid hX4
                have HCL := Lib.hid hcall
                have HUT := Lib.hid hut
                clear hr hr1 hcs hvs hcall hw1 hut hX4
                cases h2 : seen.contains m.key with
                | true =>
                  rw [h2] at hlook
                  have hr : R = false := by rw [← hres, h2]; simp
                  have HRR := Lib.hid hr
                  clear hr hres h2
                  go_wp2_with (with_reducible refine gate ?_; refine wp_load_mem rfl _ rfl b (off + i * 9) rfl _ rfl HR1.out ?_)
                  go_ret
                  exact ⟨ret_bool HRR.out.symm, HW1.out⟩
                | false =>
                  rw [h2] at hlook
                  have HSE := Lib.hid (putM_seen m.key seen h2)
                  cases hu2 : utf8J m.key with
                  | false =>
                    have HUT2 : Hid (∀ (W : World), Below w.heap.size w W → Calls Tryz.prog 82 #[.string (S m.key)] W fun e w' => e = .returned (.bool false) ∧ Below W.heap.size W w') := fun W hW => by have := HUT.out W hW; rwa [show Lib.validD m.key = false from hu2] at this
                    have hr : R = false := by rw [← hres, hu2]; simp
                    have HRR := Lib.hid hr
                    clear hr hres h2 hu2 HUT
                    go_wp2_with (first
                      | (with_reducible refine gate ?_; refine wp_load_mem rfl _ rfl b (off + i * 9) rfl _ rfl HR1.out ?_)
                      | (go_at_call 82; refine (HUT2.out _ HW1.out).mono ?_; rintro e w3 ⟨rfl, hb3⟩))
                    go_ret
                    exact ⟨ret_bool HRR.out.symm, HW1.out.trans (hb3.mono HW1.out.size)⟩
                  | true =>
                    have HUT2 : Hid (∀ (W : World), Below w.heap.size w W → Calls Tryz.prog 82 #[.string (S m.key)] W fun e w' => e = .returned (.bool true) ∧ Below W.heap.size W w') := fun W hW => by have := HUT.out W hW; rwa [show Lib.validD m.key = true from hu2] at this
                    cases hq : jvd m.val (d + 1) with
                    | false =>
                      rw [hq] at HCL
                      have hr : R = false := by rw [← hres, hq]; simp
                      have HRR := Lib.hid hr
                      clear hr hres h2 hu2 HUT hq
                      go_wp2_with (first
                        | (with_reducible refine gate ?_; refine wp_load_mem rfl _ rfl b (off + i * 9) rfl _ rfl HR1.out ?_)
                        | (go_at_call 82; refine (HUT2.out _ HW1.out).mono ?_; rintro e w3 ⟨rfl, hb3⟩; have X3 := (hb3.block _ (heap_lt HX4.out)).trans HX4.out; obtain ⟨q0, q1, q2, q3, q4, q5, q6, q7, q8⟩ := mbox_cells X3; clear hlook)
                        | (go_at_call 62; refine (HCL.out _ (hb3.mono (by omega))).mono ?_; rintro e w4 ⟨rfl, hb4⟩))
                      go_ret
                      have B3 := HW1.out.trans (hb3.mono HW1.out.size)
                      exact ⟨ret_bool HRR.out.symm, B3.trans (hb4.mono B3.size)⟩
                    | true =>
                      rw [hq] at HCL
                      have hr : jvdM (seen ++ [m.key]) (v.mems.drop (i + 1)) (d + 1) = R := by rw [← hres, h2, hu2, hq]; simp
                      have HRR := Lib.hid hr
                      clear hr hres h2 hu2 HUT hq
                      go_wp2_with (first
                        | (with_reducible refine gate ?_; refine wp_load_mem rfl _ rfl b (off + i * 9) rfl _ rfl HR1.out ?_)
                        | (go_at_call 82; refine (HUT2.out _ HW1.out).mono ?_; rintro e w3 ⟨rfl, hb3⟩; have X3 := (hb3.block _ (heap_lt HX4.out)).trans HX4.out; obtain ⟨q0, q1, q2, q3, q4, q5, q6, q7, q8⟩ := mbox_cells X3; clear hlook)
                        | (go_at_call 62; refine (HCL.out _ (hb3.mono (by omega))).mono ?_; rintro e w4 ⟨rfl, hb4⟩; clear q0 q1 q2 q3 q4 q5 q6 q7 q8; have X4 := (hb4.block _ (heap_lt X3)).trans X3; obtain ⟨r0, r1, r2, r3, r4, r5, r6, r7, r8⟩ := mbox_cells X4; have B3 := HW1.out.trans (hb3.mono HW1.out.size); have B4 := Lib.hid (B3.trans (hb4.mono B3.size)); have MP4 := Lib.hid (((HMP.out.keep (w' := wr.alloc (memBox m NA nc NM nd)) (Below.heap_alloc wr _ _ hsz2)).below hb3).below hb4); have hz34 := hb3.size; have hz44 := hb4.size)
                        | (at_mapUpdate; refine wpList_map_put rfl _ _ _ 118 rfl Tryz.underlying118 Tryz.underlying9 wb (seenOf seen) MP4.out rfl m.key rfl (.bool true) rfl ?_; intro w5 hm5 hu5 hs5))
                      go_roundw
                      case rel =>
                        exact ⟨i + 1, seen ++ [m.key], by omega, by go_num, by rw [← HSE.out]; exact hm5, HRR.out, B4.out.trans (hu5.below (by omega) B4.out.size), by omega⟩
                      case measure => simp [intOf]; omega
              · have hil' : i = v.mems.length := by omega
                subst hil'
                rw [List.drop_length, jvdM] at hres
                have hlt' : ¬ ((v.mems.length : Int) < v.mems.length) := by omega
                have HRR := Lib.hid hres
                clear hres hlt
                go_wp2_with fail
                go_ret
                exact ⟨ret_bool HRR.out, HBB.out⟩
end Go.Proofs.YthlppbpccldikaaGreatDoor
set_option linter.unusedVariables false
set_option linter.unusedSimpArgs false
namespace Go.Proofs.YthlppbpccldikaaGreatDoor

theorem jhOk_form {v : JV} (h : jhOk v = true) : 0 ≤ v.kind ∧ v.kind ≤ 5 ∧ (v.kind = 1 ∨ v.b = false) ∧ (v.kind = 2 ∨ v.n = 0) ∧ (v.kind = 3 ∨ v.s = []) ∧ (v.kind = 4 ∨ v.items = []) ∧ (v.kind = 5 ∨ v.mems = []) ∧ utf8J v.s = true := by
  unfold jhOk at h
  simp only [Bool.and_eq_true, Bool.or_eq_true, decide_eq_true_eq, beq_iff_eq, List.isEmpty_iff, Bool.not_eq_true'] at h
  obtain ⟨⟨⟨⟨⟨⟨⟨h1, h2⟩, h3⟩, h4⟩, h5⟩, h6⟩, h7⟩, h8⟩ := h
  exact ⟨h1, h2, h3, h4, h5, h6, h7, h8⟩
/-- The kind that a first byte tells. -/
def clsJ (c : UInt8) : Int := if c = 110 then 0 else if c = 116 ∨ c = 102 then 1 else if c = 34 then 3 else if c = 91 then 4 else if c = 123 then 5 else 2
set_option maxRecDepth 100000 in
theorem cls_dg : ∀ n < 256, (UInt8.ofNat n = 45 ∨ isDg (UInt8.ofNat n) = true) → clsJ (UInt8.ofNat n) = 2 ∧ UInt8.ofNat n ≠ 93 ∧ UInt8.ofNat n ≠ 44 ∧ UInt8.ofNat n ≠ 125 := by decide
theorem jtx_head (v : JV) (h0 : 0 ≤ v.kind) (h5 : v.kind ≤ 5) : ∃ c l, jtx v = c :: l ∧ clsJ c = v.kind ∧ c ≠ 93 ∧ c ≠ 44 ∧ c ≠ 125 := by
  rw [jtx_form]
  have hk : v.kind = 0 ∨ v.kind = 1 ∨ v.kind = 2 ∨ v.kind = 3 ∨ v.kind = 4 ∨ v.kind = 5 := by omega
  rcases hk with h | h | h | h | h | h <;> rw [h]
  · exact ⟨_, _, rfl, rfl, by decide, by decide, by decide⟩
  · cases v.b
    · exact ⟨_, _, rfl, rfl, by decide, by decide, by decide⟩
    · exact ⟨_, _, rfl, rfl, by decide, by decide, by decide⟩
  · obtain ⟨c, l, hc, hd⟩ := itoa_head v.n
    have := cls_dg c.toNat (UInt8.toNat_lt c) (by rw [UInt8.ofNat_toNat]; exact hd)
    rw [UInt8.ofNat_toNat] at this
    exact ⟨c, l, hc, this.1, this.2⟩
  · exact ⟨_, _, rfl, rfl, by decide, by decide, by decide⟩
  · exact ⟨_, _, rfl, rfl, by decide, by decide, by decide⟩
  · exact ⟨_, _, rfl, rfl, by decide, by decide, by decide⟩
def InjA (v : JV) : Prop := ∀ u r r', jrv v = true → jrv u = true → stopJ r = true → stopJ r' = true → jtx v ++ r = jtx u ++ r' → jeq false v u = true ∧ r = r'
theorem jrv_ok {v : JV} (h : jrv v = true) : jhOk v = true ∧ jrvL v.items = true ∧ jrvM [] v.mems = true := by
  rw [jrv_form] at h
  simp only [Bool.and_eq_true] at h
  exact h
theorem comma_head {v : JV} (h : jrv v = true) (f : Bool) : ∃ c l, (∀ x, ((if f = true then [] else [44]) ++ (jtx v ++ x) : Bytes) = c :: (l ++ x)) ∧ c ≠ 93 ∧ c ≠ 125 := by
  have hf := jhOk_form (jrv_ok h).1
  obtain ⟨c, l, hc, _, h1, h2, h3⟩ := jtx_head v hf.1 hf.2.1
  cases f with
  | true => exact ⟨c, l, fun x => by rw [hc]; rfl, h1, h3⟩
  | false => exact ⟨44, jtx v, fun x => rfl, by decide, by decide⟩
theorem stopL (l : List JV) (r : Bytes) : stopJ (jtxL false l ++ 93 :: r) = true := by
  cases l with
  | nil => rw [jtxL]; rfl
  | cons v l => rw [jtxL]; rfl
theorem stopM (l : List JM) (r : Bytes) : stopJ (jtxM false l ++ 125 :: r) = true := by
  cases l with
  | nil => rw [jtxM]; rfl
  | cons v l => obtain ⟨k, v, p⟩ := v; rw [jtxM]; rfl
theorem injL : ∀ {l l' : List JV} {f : Bool} {r r' : Bytes}, (∀ v ∈ l, InjA v) → jrvL l = true → jrvL l' = true → jtxL f l ++ 93 :: r = jtxL f l' ++ 93 :: r' → l.length = l'.length ∧ jeqL false l l' = true ∧ r = r'
  | [], [], f, r, r', _, _, _, h => by
    rw [jtxL] at h
    simp only [List.nil_append, List.cons.injEq, true_and] at h
    exact ⟨rfl, by rw [jeqL], h⟩
  | [], u :: l', f, r, r', _, _, h2, h => by
    rw [jrvL, Bool.and_eq_true] at h2
    rw [jtxL, jtxL] at h
    obtain ⟨c, x, hc, h93, _⟩ := comma_head h2.1 f
    simp only [List.append_assoc] at h
    rw [hc] at h
    simp only [List.nil_append, List.cons.injEq] at h
    exact (h93 h.1.symm).elim
  | v :: l, [], f, r, r', _, h1, _, h => by
    rw [jrvL, Bool.and_eq_true] at h1
    rw [jtxL, jtxL] at h
    obtain ⟨c, x, hc, h93, _⟩ := comma_head h1.1 f
    simp only [List.append_assoc] at h
    rw [hc] at h
    simp only [List.nil_append, List.cons_append, List.cons.injEq] at h
    exact (h93 h.1).elim
  | v :: l, u :: l', f, r, r', hA, h1, h2, h => by
    rw [jrvL, Bool.and_eq_true] at h1 h2
    rw [jtxL, jtxL] at h
    simp only [List.append_assoc] at h
    have h := List.append_cancel_left h
    obtain ⟨e1, e2⟩ := hA v (by simp) u _ _ h1.1 h2.1 (stopL l r) (stopL l' r') h
    obtain ⟨e3, e4, e5⟩ := injL (fun x hx => hA x (by simp [hx])) h1.2 h2.2 e2
    exact ⟨by simp [e3], by rw [jeqL, e1, e4]; rfl, e5⟩
theorem injM : ∀ {l l' : List JM} {f : Bool} {r r' : Bytes} {q q' : List Bytes}, (∀ m ∈ l, InjA m.val) → jrvM q l = true → jrvM q' l' = true → jtxM f l ++ 125 :: r = jtxM f l' ++ 125 :: r' → l.length = l'.length ∧ jeqM false l l' = true ∧ r = r'
  | [], [], f, r, r', q, q', _, _, _, h => by
    rw [jtxM] at h
    simp only [List.nil_append, List.cons.injEq, true_and] at h
    exact ⟨rfl, by rw [jeqM], h⟩
  | [], .mk k u p :: l', f, r, r', q, q', _, _, h2, h => by
    rw [jtxM, jtxM] at h
    cases f
    · simp at h
    · simp [jq] at h
  | .mk k v p :: l, [], f, r, r', q, q', _, h1, _, h => by
    rw [jtxM, jtxM] at h
    cases f
    · simp at h
    · simp [jq] at h
  | .mk k v p :: l, .mk k' u p' :: l', f, r, r', q, q', hA, h1, h2, h => by
    rw [jrvM] at h1 h2
    simp only [Bool.and_eq_true] at h1 h2
    rw [jtxM, jtxM] at h
    simp only [List.append_assoc, List.cons_append] at h
    have h := List.append_cancel_left h
    obtain ⟨e0, h⟩ := jq_split h
    simp only [List.cons.injEq, true_and] at h
    obtain ⟨e1, e2⟩ := hA (.mk k v p) (by simp) u _ _ h1.1.1.1 h2.1.1.1 (stopM l r) (stopM l' r') h
    obtain ⟨e3, e4, e5⟩ := injM (fun x hx => hA x (by simp [hx])) h1.2 h2.2 e2
    simp only [JM.val] at e1
    exact ⟨by simp [e3], by rw [jeqM, e4]; simp [JM.key, JM.val, e0, e1], e5⟩
theorem injA (m : Nat) : ∀ v : JV, jsz v ≤ m → InjA v := by
  induction m with
  | zero => intro v h; have := jsz_pos v; omega
  | succ m ih =>
    intro v hm u r r' hv hu hr hr' h
    obtain ⟨o1, l1, m1⟩ := jrv_ok hv
    obtain ⟨o2, l2, m2⟩ := jrv_ok hu
    obtain ⟨a0, a5, ab, an, ass, ai, am, _⟩ := jhOk_form o1
    obtain ⟨b0, b5, bb, bn, bs, bi, bm, _⟩ := jhOk_form o2
    have hk : v.kind = u.kind := by
      obtain ⟨c, x, hc, e, _⟩ := jtx_head v a0 a5
      obtain ⟨d, y, hd, e', _⟩ := jtx_head u b0 b5
      rw [hc, hd] at h
      simp only [List.cons_append, List.cons.injEq] at h
      rw [← e, ← e', h.1]
    have hA : ∀ x ∈ v.items, InjA x := fun x hx => ih x (by have := jsz_item hx; omega)
    have hB : ∀ x ∈ v.mems, InjA x.val := fun x hx => ih x.val (by have := jsz_mem hx; omega)
    rw [jtx_form, jtx_form] at h
    rw [← hk] at h b0 b5 bb bn bs bi bm
    rw [jeq_form, jhEq]
    have hk' : v.kind = 0 ∨ v.kind = 1 ∨ v.kind = 2 ∨ v.kind = 3 ∨ v.kind = 4 ∨ v.kind = 5 := by omega
    rcases hk' with e | e | e | e | e | e
    all_goals
      rw [e] at h ab an ass ai am bb bn bs bi bm
      simp at h ab an ass ai am bb bn bs bi bm
    · rw [hk, ab, bb, an, bn, ass, bs, ai, bi, am, bm]
      exact ⟨by simp [jeqL, jeqM], h⟩
    · have hb : v.b = u.b ∧ r = r' := by
        cases hvb : v.b <;> cases hub : u.b <;> rw [hvb, hub] at h <;> simp at h
        · exact ⟨rfl, h⟩
        · exact ⟨rfl, h⟩
      rw [hk, hb.1, an, bn, ass, bs, ai, bi, am, bm]
      exact ⟨by simp [jeqL, jeqM], hb.2⟩
    · obtain ⟨e1, e2⟩ := itoa_split hr hr' h
      rw [hk, ab, bb, e1, ass, bs, ai, bi, am, bm]
      exact ⟨by simp [jeqL, jeqM], e2⟩
    · obtain ⟨e1, e2⟩ := jq_split h
      rw [hk, ab, bb, an, bn, e1, ai, bi, am, bm]
      exact ⟨by simp [jeqL, jeqM], e2⟩
    · obtain ⟨e1, e2, e3⟩ := injL hA l1 l2 h
      rw [hk, ab, bb, an, bn, ass, bs, am, bm]
      exact ⟨by simp [e1, e2, jeqM], e3⟩
    · obtain ⟨e1, e2, e3⟩ := injM hB m1 m2 h
      rw [hk, ab, bb, an, bn, ass, bs, ai, bi]
      exact ⟨by simp [e1, e2, jeqL], e3⟩
theorem eqT (m : Nat) : ∀ v u : JV, jsz v ≤ m → jeq false v u = true → jtx v = jtx u := by
  induction m with
  | zero => intro v u h; have := jsz_pos v; omega
  | succ m ih =>
    intro v u hm h
    rw [jeq_form, jhEq] at h
    simp only [Bool.and_eq_true, beq_iff_eq] at h
    obtain ⟨⟨⟨⟨⟨⟨⟨h1, h2⟩, h3⟩, h4⟩, _⟩, h6⟩, h7⟩, h8, h9⟩ := h
    have hL : ∀ (l l' : List JV) (f : Bool), (∀ x ∈ l, jsz x ≤ m) → l.length = l'.length → jeqL false l l' = true → jtxL f l = jtxL f l' := by
      intro l
      induction l with
      | nil =>
        intro l' f _ hl _
        cases l' with
        | nil => rfl
        | cons a b => cases hl
      | cons x l ihl =>
        intro l' f hs hl he
        cases l' with
        | nil => cases hl
        | cons y l' =>
          rw [jeqL, Bool.and_eq_true] at he
          rw [jtxL, jtxL, ih x y (hs x (by simp)) he.1, ihl l' false (fun z hz => hs z (by simp [hz])) (by simpa using hl) he.2]
    have hM : ∀ (l l' : List JM) (f : Bool), (∀ x ∈ l, jsz x.val ≤ m) → l.length = l'.length → jeqM false l l' = true → jtxM f l = jtxM f l' := by
      intro l
      induction l with
      | nil =>
        intro l' f _ hl _
        cases l' with
        | nil => rfl
        | cons a b => cases hl
      | cons x l ihl =>
        intro l' f hs hl he
        cases l' with
        | nil => cases hl
        | cons y l' =>
          obtain ⟨k, x, p⟩ := x
          obtain ⟨k', y, p'⟩ := y
          rw [jeqM] at he
          simp only [Bool.and_eq_true, beq_iff_eq, JM.key, JM.val] at he
          rw [jtxM, jtxM, he.1.1.1, ih x y (hs (.mk k x p) (by simp)) he.1.2, ihl l' false (fun z hz => hs z (by simp [hz])) (by simpa using hl) he.2]
    rw [jtx_form, jtx_form, h1, h2, h3, h4, hL _ _ true (fun x hx => by have := jsz_item hx; omega) h6 h8, hM _ _ true (fun x hx => by have := jsz_mem hx; omega) h7 h9]
/-- Two valid values have the same text exactly if they are equal apart from offsets. -/
theorem jtx_inj {v u : JV} (hv : jrv v = true) (hu : jrv u = true) : (jtx v == jtx u) = jeq false v u := by
  rw [Bool.eq_iff_iff, beq_iff_eq]
  constructor
  · intro h
    exact (injA _ v (Nat.le_refl _) u [] [] hv hu rfl rfl (by rw [h])).1
  · exact eqT _ v u (Nat.le_refl _)
end Go.Proofs.YthlppbpccldikaaGreatDoor
