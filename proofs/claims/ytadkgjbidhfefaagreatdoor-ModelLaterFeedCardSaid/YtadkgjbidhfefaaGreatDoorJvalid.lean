/-
  Walk of chapter 12: which values are valid (the program).
-/
import Derived.Test.YtadkgjbidhfefaaGreatDoorJun
import Derived.Test.YtadkgjbidhfefaaGreatDoorSeen
import Derived.Laws.EntriesVeiled
set_option linter.unusedVariables false
namespace Go.Proofs.YtadkgjbidhfefaaGreatDoor
open Go.RowKit

theorem jbox_cells {w : World} {b : Nat} {n : JV} {IA : Option Addr} {ic : Nat} {MA : Option Addr} {mc : Nat} (h : w.heap[b]? = some (valBox n IA ic MA mc)) :
    w.cell? ⟨b, 0, none⟩ = some (.int .i64 n.kind) ∧ w.cell? ⟨b, 1, none⟩ = some (.bool n.b) ∧ w.cell? ⟨b, 2, none⟩ = some (.int .i64 n.n) ∧ w.cell? ⟨b, 3, none⟩ = some (.string (S n.s)) ∧
    w.cell? ⟨b, 4, none⟩ = some (.slice IA n.items.length ic) ∧ w.cell? ⟨b, 5, none⟩ = some (.slice MA n.mems.length mc) ∧ w.cell? ⟨b, 6, none⟩ = some (.int .i64 n.pos) := by
  refine ⟨?_, ?_, ?_, ?_, ?_, ?_, ?_⟩ <;> (rw [Lib.cell_of_heap h]; rfl)
theorem mbox_cells {w : World} {b : Nat} {m : JM} {IA : Option Addr} {ic : Nat} {MA : Option Addr} {mc : Nat} (h : w.heap[b]? = some (memBox m IA ic MA mc)) :
    w.cell? ⟨b, 0, none⟩ = some (.string (S m.key)) ∧ w.cell? ⟨b, 1, none⟩ = some (.int .i64 m.val.kind) ∧ w.cell? ⟨b, 2, none⟩ = some (.bool m.val.b) ∧ w.cell? ⟨b, 3, none⟩ = some (.int .i64 m.val.n) ∧ w.cell? ⟨b, 4, none⟩ = some (.string (S m.val.s)) ∧
    w.cell? ⟨b, 5, none⟩ = some (.slice IA m.val.items.length ic) ∧ w.cell? ⟨b, 6, none⟩ = some (.slice MA m.val.mems.length mc) ∧ w.cell? ⟨b, 7, none⟩ = some (.int .i64 m.val.pos) ∧ w.cell? ⟨b, 8, none⟩ = some (.int .i64 m.pos) := by
  refine ⟨?_, ?_, ?_, ?_, ?_, ?_, ?_, ?_, ?_⟩ <;> (rw [Lib.cell_of_heap h]; rfl)
theorem jvdL_step {l : List JV} {i d : Nat} (h : i < l.length) : jvdL (l.drop i) d = (jvd l[i] d && jvdL (l.drop (i + 1)) d) := by
  rw [List.drop_eq_getElem_cons h, jvdL]
theorem jvdM_step {l : List JM} {i d : Nat} {q : List Bytes} (h : i < l.length) : jvdM q (l.drop i) d = (!(q.contains l[i].key) && utf8J l[i].key && jvd l[i].val d && jvdM (q ++ [l[i].key]) (l.drop (i + 1)) d) := by
  rw [List.drop_eq_getElem_cons h]
  cases hx : l[i] with
  | mk k v p => rw [jvdM]; rfl

set_option maxHeartbeats 4000000 in
set_option maxRecDepth 100000 in
theorem valid12_any (s : Nat) : ∀ (v : JV) (u : Value) (d : Nat) (w : World), jsz v ≤ s → jful v ≤ 1000000 → d ≤ 101 → TabJ w → ValV w (· < w.heap.size) v u →
    Calls Tryz.prog 64 #[u, .int .i64 d] w fun e w' => e = .returned (.bool (jvd v d)) ∧ Below w.heap.size w w' := by
  induction s with
  | zero => intro v u d w h; have := jsz_pos v; omega
  | succ s ih =>
    intro v u d w hs hf hd hT hv
    have hfm := jful_form v
    have hun := fun (W : World) (hW : Below w.heap.size w W) => unused_any v u W (hv.keep (fun k hk => hW.block k hk) (fun k hk => Nat.lt_of_lt_of_le hk hW.size))
    have hut := fun (W : World) (hW : Below w.heap.size w W) => Tryz.utf8_ValidString (S v.s) W (by simp [S, ByteArray.size]; omega) (hT.next hW).utf
    rw [S_data] at hut
    obtain ⟨IA, ic, MA, mc, rfl, hi, hm, hic, hmc⟩ := hv.open_
    have hil := jfulL_len v.items
    have hml := jfulM_len v.mems
    have F1 : Hid (∀ o, Below w.heap.size w (w.alloc o)) := fun o => (Below.refl _ w).alloc (Nat.le_refl _) o
    obtain ⟨R, hR⟩ : ∃ R, jvd v d = R := ⟨_, rfl⟩
    rw [hR]
    rw [jvd_form, jhOk_jun] at hR
    by_cases hk0 : v.kind < 0
    · have hr : R = false := by rw [← hR, decide_eq_false (by omega : ¬ 0 ≤ v.kind)]; simp
      have HR := Lib.hid hr
      clear hr hR hv hi hm hun hut ih hT hfm hil hml hf hs
      go_enter Tryz.func64, Tryz.ntmps64
      go_wp2_with fail
      go_ret
      exact ⟨ret_bool HR.out.symm, F1.out _⟩
    by_cases hk5 : 5 < v.kind
    · have hr : R = false := by rw [← hR, decide_eq_false (by omega : ¬ v.kind ≤ 5)]; simp
      have HR := Lib.hid hr
      clear hr hR hv hi hm hun hut ih hT hfm hil hml hf hs
      go_enter Tryz.func64, Tryz.ntmps64
      go_wp2_with fail
      go_ret
      exact ⟨ret_bool HR.out.symm, F1.out _⟩
    by_cases hd0 : 100 < d
    · have hr : R = false := by rw [← hR, decide_eq_false (by omega : ¬ d ≤ 100)]; simp
      have hd' : (100 : Int) < d := by omega
      have HR := Lib.hid hr
      clear hr hR hv hi hm hun hut ih hT hfm hil hml hf hs
      go_enter Tryz.func64, Tryz.ntmps64
      go_wp2_with fail
      go_ret
      exact ⟨ret_bool HR.out.symm, F1.out _⟩
    have hd' : ¬ (100 : Int) < d := by omega
    rw [decide_eq_true (by omega : 0 ≤ v.kind), decide_eq_true (by omega : v.kind ≤ 5), decide_eq_true (by omega : d ≤ 100)] at hR
    simp only [Bool.true_and, Bool.and_true] at hR
    cases hj : jun v with
    | false =>
      have hr : R = false := by rw [← hR, hj]; simp
      rw [hj] at hun
      have HR := Lib.hid hr
      have HUN := Lib.hid hun
      clear hr hR hv hi hm hun hut ih hT hfm hil hml hf hs hj
      go_enter Tryz.func64, Tryz.ntmps64
      go_wp2_with (go_at_call 78; refine (HUN.out _ (F1.out _)).mono ?_; rintro e w1 ⟨rfl, hb1⟩)
      go_ret
      exact ⟨ret_bool HR.out.symm, (F1.out _).trans (hb1.mono (by simp))⟩
    | true =>
      rw [hj] at hun hR
      have HUN := Lib.hid hun
      have hX := heap_alloc_new w (valBox v IA ic MA mc)
      cases hu : utf8J v.s with
      | false =>
        have hr : R = false := by rw [← hR, hu]; simp
        rw [show Lib.validD v.s = false from hu] at hut
        have HR := Lib.hid hr
        have HUT := Lib.hid hut
        clear hr hR hv hi hm hun hut ih hT hfm hil hml hf hs hj hu
        go_enter Tryz.func64, Tryz.ntmps64
        go_wp2_with (first
          | (go_at_call 78; refine (HUN.out _ (F1.out _)).mono ?_; rintro e w1 ⟨rfl, hb1⟩; have B1 := (F1.out (valBox v IA ic MA mc)).trans (hb1.mono (by simp)); obtain ⟨k0, k1, k2, k3, k4, k5, k6⟩ := jbox_cells ((hb1.block _ (heap_lt hX)).trans hX))
          | (go_at_call 79; refine (HUT.out _ B1).mono ?_; rintro e w2 ⟨rfl, hb2⟩))
        go_ret
        exact ⟨ret_bool HR.out.symm, B1.trans (hb2.mono B1.size)⟩
      | true =>
        rw [hu] at hR
        simp only [Bool.true_and] at hR
        rw [show Lib.validD v.s = true from hu] at hut
        have HR := Lib.hid hR
        have HUT := Lib.hid hut
        have HI := Lib.hid hi
        have HM := Lib.hid hm
        have HIH := Lib.hid ih
        have HT := Lib.hid hT
        have HS := Lib.hid hs
        have HF := Lib.hid hf
        have HFM := Lib.hid hfm
        have hdd : d ≤ 100 := by omega
        have hil2 : v.items.length ≤ 1000000 := by omega
        have hml2 : v.mems.length ≤ 1000000 := by omega
        have ed : (((d + 1 : Nat) : Int)) = (d : Int) + 1 := by omega
        have HED := Lib.hid ed
        have hmm := @run_makeMap Tryz.prog
        clear hR hv hi hm hun hut ih hT hfm hil hml hf hs hj hu ed hd0
        go_enter Tryz.func64, Tryz.ntmps64
        go_wp2_with (first
          | (go_at_call 78; refine (HUN.out _ (F1.out _)).mono ?_; rintro e w1 ⟨rfl, hb1⟩; have B1 := (F1.out (valBox v IA ic MA mc)).trans (hb1.mono (by simp)); have X1 := (hb1.block _ (heap_lt hX)).trans hX; obtain ⟨k0, k1, k2, k3, k4, k5, k6⟩ := jbox_cells X1)
          | (go_at_call 79; refine (HUT.out _ B1).mono ?_; rintro e w2 ⟨rfl, hb2⟩; have B2 := B1.trans (hb2.mono B1.size); have X2 := (hb2.block _ (heap_lt X1)).trans X1; clear k0 k1 k2 k3 k4 k5 k6; obtain ⟨m0, m1, m2, m3, m4, m5, m6⟩ := jbox_cells X2))
        have HB2 := Lib.hid B2
        have HX2 := Lib.hid X2
        clear B1 B2 X1 X2 hb1 hb2 hX m0 m1 m2 m3 m4 m5 m6
        go_loopw [36] (fun i36 wr => ∃ i : Nat, i ≤ v.items.length ∧ i36 = .int .i64 i ∧ (jvdL (v.items.drop i) (d + 1) && jvdM [] v.mems (d + 1)) = R ∧ Below w.heap.size w wr ∧ wr.heap[w.heap.size]? = some (valBox v IA ic MA mc)) (fun i36 _ => v.items.length - (intOf i36).toNat)
        case atStart => exact ⟨0, Nat.zero_le _, rfl, by simpa using HR.out, HB2.out, HX2.out⟩
        case round =>
          obtain ⟨i, hi, rfl, hres, hb, hX⟩ := hrel
          have HB := Lib.hid hb
          have HX := Lib.hid hX
          have hsz := heap_lt hX
          clear hb HB2 HX2 HR
          by_cases hlt : i < v.items.length
          · have hlt' : (i : Int) < v.items.length := by omega
            rw [jvdL_step hlt] at hres
            have hjz := jsz_item (List.getElem_mem hlt)
            have hjf := jfulL_mem (List.getElem_mem hlt)
            obtain ⟨b, off, cs, rfl, hbl, hr, hcs⟩ := HI.out.at_ hlt
            have hr1 := rangeAt_keep hr (HB.out.block b hbl)
            have hcs1 := ValP.keep (fun k hk => HB.out.block k hk) (fun k hk => Nat.lt_of_lt_of_le hk HB.out.size) _ _ hcs
            generalize v.items[i] = x at *
            obtain ⟨NA, nc, NM, nd, rfl, _, _, _, _⟩ := hcs.open_
            have hw1 : Below w.heap.size w (wr.alloc (valBox x NA nc NM nd)) := HB.out.alloc HB.out.size _
            have hcall := HIH.out x _ (d + 1) (wr.alloc (valBox x NA nc NM nd)) (by have := HS.out; omega) (by have := HF.out; have := HFM.out; omega) (by omega) (HT.out.next hw1) ⟨_, rfl, ValP.keep (fun k hk => Below.heap_alloc _ _ _ hk) (fun k hk => by simp; omega) _ _ hcs1⟩
            rw [HED.out] at hcall
            have HC := Lib.hid hcall
            have HR1 := Lib.hid hr1
            have hra := range_of_heap (cs := [.int .i64 x.kind, .bool x.b, .int .i64 x.n, .string (S x.s), .slice NA x.items.length nc, .slice NM x.mems.length nd, .int .i64 x.pos]) (heap_alloc_new wr (valBox x NA nc NM nd))
            have HW1 := Lib.hid hw1
            clear hr hr1 hcs hcs1 hcall hw1 hX
            cases hq : jvd x (d + 1) with
            | false =>
              rw [hq] at HC hres
              have hr : R = false := by rw [← hres]; simp
              have HRR := Lib.hid hr
              clear hr hres hq
              go_wp2_with (first
                | (with_reducible refine gate ?_; refine wp_load_val rfl _ rfl b (off + i * 7) rfl _ rfl HR1.out ?_)
                | (with_reducible refine gate ?_; refine wp_load_val rfl _ rfl wr.heap.size 0 rfl _ rfl hra ?_)
                | (go_at_call 64; refine HC.out.mono ?_; rintro e w3 ⟨rfl, hb3⟩))
              go_ret
              exact ⟨ret_bool HRR.out.symm, HW1.out.trans (hb3.mono HW1.out.size)⟩
            | true =>
              rw [hq] at HC hres
              simp only [Bool.true_and] at hres
              have HRR := Lib.hid hres
              clear hres hq
              go_wp2_with (first
                | (with_reducible refine gate ?_; refine wp_load_val rfl _ rfl b (off + i * 7) rfl _ rfl HR1.out ?_)
                | (with_reducible refine gate ?_; refine wp_load_val rfl _ rfl wr.heap.size 0 rfl _ rfl hra ?_)
                | (go_at_call 64; refine HC.out.mono ?_; rintro e w3 ⟨rfl, hb3⟩))
              go_roundw
              case rel => exact ⟨i + 1, by omega, by go_num, HRR.out, HW1.out.trans (hb3.mono HW1.out.size), (hb3.block _ (by simp; omega)).trans ((Below.heap_alloc _ _ _ hsz).trans HX.out)⟩
              case measure => simp [intOf]; omega
          · have hil' : i = v.items.length := by omega
            subst hil'
            rw [List.drop_length, jvdL, Bool.true_and] at hres
            have hlt' : ¬ ((v.items.length : Int) < v.items.length) := by omega
            have HRR := Lib.hid hres
            obtain ⟨m0, m1, m2, m3, m4, m5, m6⟩ := jbox_cells ((Below.heap_alloc wr (.map #[] 0) _ hsz).trans hX)
            have HM0 := Lib.hid (MapOf.new wr)
            have hzr : w.heap.size < wr.heap.size := hsz
            clear hres hlt hX
            go_wp2_with fail
            clear hmm m0 m1 m2 m3 m4 m5 m6
            generalize hwb : wr.heap.size = wb at *
            go_loopw [50] (fun i50 wq => ∃ (i : Nat) (seen : List Bytes), i ≤ v.mems.length ∧ i50 = .int .i64 i ∧ MapOf wq wb (seenOf seen) ∧ jvdM seen (v.mems.drop i) (d + 1) = R ∧ Below w.heap.size w wq ∧ wb < wq.heap.size) (fun i50 _ => v.mems.length - (intOf i50).toNat)
            case atStart => exact ⟨0, [], Nat.zero_le _, rfl, HM0.out, by simpa using HRR.out, HB.out.alloc HB.out.size _, by simp; omega⟩
            case round =>
              clear HM0 HRR
              obtain ⟨i, seen, hi, rfl, hmap, hres, hb, hsz2⟩ := hrel
              have HMP := Lib.hid hmap
              have HBB := Lib.hid hb
              clear hmap hb
              by_cases hlt : i < v.mems.length
              · have hlt' : (i : Int) < v.mems.length := by omega
                rw [jvdM_step hlt] at hres
                have hjz := jsz_mem (List.getElem_mem hlt)
                have hjf := jfulM_mem (List.getElem_mem hlt)
                obtain ⟨b, off, cs, rfl, hbl, hr, hcs⟩ := HM.out.at_ hlt
                have hr1 := rangeAt_keep hr (HBB.out.block b hbl)
                have hcs1 := MemP.keep (fun k hk => HBB.out.block k hk) (fun k hk => Nat.lt_of_lt_of_le hk HBB.out.size) hcs
                generalize v.mems[i] = m at *
                obtain ⟨vs, hvs, hcse⟩ := hcs1
                obtain ⟨NA, nc, NM, nd, hvse, _, _, _, _⟩ := hvs.open_
                subst hvse
                simp only [List.cons_append, List.nil_append] at hcse
                subst hcse
                have hw1 : Below w.heap.size w (wr.alloc (memBox m NA nc NM nd)) := HBB.out.alloc HBB.out.size _
                have hX4 := heap_alloc_new wr (memBox m NA nc NM nd)
                have hz4 : (wr.alloc (memBox m NA nc NM nd)).heap.size = wr.heap.size + 1 := by simp
                have hut := fun (W : World) (hW : Below w.heap.size w W) => Tryz.utf8_ValidString (S m.key) W (by have := HF.out; have := HFM.out; simp [S, ByteArray.size]; omega) (HT.out.next hW).utf
                rw [S_data] at hut
                have hcall := fun (W : World) (hW : Below (wr.heap.size + 1) (wr.alloc (memBox m NA nc NM nd)) W) => HIH.out m.val _ (d + 1) W (by have := HS.out; omega) (by have := HF.out; have := HFM.out; omega) (by omega) (HT.out.next (hw1.trans (hW.mono (by have := HBB.out.size; omega)))) ⟨_, rfl, ValP.keep (fun k hk => (hW.block k (by have h1 : k < wr.heap.size := hk; omega)).trans (Below.heap_alloc _ _ _ hk)) (fun k hk => by have h1 : k < wr.heap.size := hk; have := hW.size; rw [hz4] at this; omega) _ _ hvs⟩
                rw [HED.out] at hcall
                have hlook : (Instr.lookup 89 (.map (some wb)) (.string (S m.key)) false).run Tryz.prog (wr.alloc (memBox m NA nc NM nd)) = .ok (.bool (seen.contains m.key)) (wr.alloc (memBox m NA nc NM nd)) := by
                  rw [MapOf.run_lookup (HMP.out.keep (Below.heap_alloc wr _ _ hsz2)) Tryz.underlying89 Tryz.underlying9 (zeroBool _) m.key, look_seen]
                have HR1 := Lib.hid hr1
                have HW1 := Lib.hid hw1
                have HX4 := Lib.hid hX4
                have HCL := Lib.hid hcall
                have HUT := Lib.hid hut
                clear hr hr1 hcs hvs hcall hw1 hut hX4
                cases h2 : seen.contains m.key with
                | true =>
                  rw [h2] at hlook
                  have hr : R = false := by rw [← hres, h2]; simp
                  have HRR := Lib.hid hr
                  clear hr hres h2
                  go_wp2_with (with_reducible refine gate ?_; refine wp_load_mem rfl _ rfl b (off + i * 9) rfl _ rfl HR1.out ?_)
                  go_ret
                  exact ⟨ret_bool HRR.out.symm, HW1.out⟩
                | false =>
                  rw [h2] at hlook
                  have HSE := Lib.hid (putM_seen m.key seen h2)
                  cases hu2 : utf8J m.key with
                  | false =>
                    have HUT2 : Hid (∀ (W : World), Below w.heap.size w W → Calls Tryz.prog 79 #[.string (S m.key)] W fun e w' => e = .returned (.bool false) ∧ Below W.heap.size W w') := fun W hW => by have := HUT.out W hW; rwa [show Lib.validD m.key = false from hu2] at this
                    have hr : R = false := by rw [← hres, hu2]; simp
                    have HRR := Lib.hid hr
                    clear hr hres h2 hu2 HUT
                    go_wp2_with (first
                      | (with_reducible refine gate ?_; refine wp_load_mem rfl _ rfl b (off + i * 9) rfl _ rfl HR1.out ?_)
                      | (go_at_call 79; refine (HUT2.out _ HW1.out).mono ?_; rintro e w3 ⟨rfl, hb3⟩))
                    go_ret
                    exact ⟨ret_bool HRR.out.symm, HW1.out.trans (hb3.mono HW1.out.size)⟩
                  | true =>
                    have HUT2 : Hid (∀ (W : World), Below w.heap.size w W → Calls Tryz.prog 79 #[.string (S m.key)] W fun e w' => e = .returned (.bool true) ∧ Below W.heap.size W w') := fun W hW => by have := HUT.out W hW; rwa [show Lib.validD m.key = true from hu2] at this
                    cases hq : jvd m.val (d + 1) with
                    | false =>
                      rw [hq] at HCL
                      have hr : R = false := by rw [← hres, hq]; simp
                      have HRR := Lib.hid hr
                      clear hr hres h2 hu2 HUT hq
                      go_wp2_with (first
                        | (with_reducible refine gate ?_; refine wp_load_mem rfl _ rfl b (off + i * 9) rfl _ rfl HR1.out ?_)
                        | (go_at_call 79; refine (HUT2.out _ HW1.out).mono ?_; rintro e w3 ⟨rfl, hb3⟩; have X3 := (hb3.block _ (heap_lt HX4.out)).trans HX4.out; obtain ⟨q0, q1, q2, q3, q4, q5, q6, q7, q8⟩ := mbox_cells X3; clear hlook)
                        | (go_at_call 64; refine (HCL.out _ (hb3.mono (by omega))).mono ?_; rintro e w4 ⟨rfl, hb4⟩))
                      go_ret
                      have B3 := HW1.out.trans (hb3.mono HW1.out.size)
                      exact ⟨ret_bool HRR.out.symm, B3.trans (hb4.mono B3.size)⟩
                    | true =>
                      rw [hq] at HCL
                      have hr : jvdM (seen ++ [m.key]) (v.mems.drop (i + 1)) (d + 1) = R := by rw [← hres, h2, hu2, hq]; simp
                      have HRR := Lib.hid hr
                      clear hr hres h2 hu2 HUT hq
                      go_wp2_with (first
                        | (with_reducible refine gate ?_; refine wp_load_mem rfl _ rfl b (off + i * 9) rfl _ rfl HR1.out ?_)
                        | (go_at_call 79; refine (HUT2.out _ HW1.out).mono ?_; rintro e w3 ⟨rfl, hb3⟩; have X3 := (hb3.block _ (heap_lt HX4.out)).trans HX4.out; obtain ⟨q0, q1, q2, q3, q4, q5, q6, q7, q8⟩ := mbox_cells X3; clear hlook)
                        | (go_at_call 64; refine (HCL.out _ (hb3.mono (by omega))).mono ?_; rintro e w4 ⟨rfl, hb4⟩; clear q0 q1 q2 q3 q4 q5 q6 q7 q8; have X4 := (hb4.block _ (heap_lt X3)).trans X3; obtain ⟨r0, r1, r2, r3, r4, r5, r6, r7, r8⟩ := mbox_cells X4; have B3 := HW1.out.trans (hb3.mono HW1.out.size); have B4 := Lib.hid (B3.trans (hb4.mono B3.size)); have MP4 := Lib.hid (((HMP.out.keep (w' := wr.alloc (memBox m NA nc NM nd)) (Below.heap_alloc wr _ _ hsz2)).below hb3).below hb4); have hz34 := hb3.size; have hz44 := hb4.size)
                        | (at_mapUpdate; refine wpList_map_put rfl _ _ _ 89 rfl Tryz.underlying89 Tryz.underlying9 wb (seenOf seen) MP4.out rfl m.key rfl (.bool true) rfl ?_; intro w5 hm5 hu5 hs5))
                      go_roundw
                      case rel =>
                        exact ⟨i + 1, seen ++ [m.key], by omega, by go_num, by rw [← HSE.out]; exact hm5, HRR.out, B4.out.trans (hu5.below (by omega) B4.out.size), by omega⟩
                      case measure => simp [intOf]; omega
              · have hil' : i = v.mems.length := by omega
                subst hil'
                rw [List.drop_length, jvdM] at hres
                have hlt' : ¬ ((v.mems.length : Int) < v.mems.length) := by omega
                have HRR := Lib.hid hres
                clear hres hlt
                go_wp2_with fail
                go_ret
                exact ⟨ret_bool HRR.out, HBB.out⟩
end Go.Proofs.YtadkgjbidhfefaaGreatDoor
