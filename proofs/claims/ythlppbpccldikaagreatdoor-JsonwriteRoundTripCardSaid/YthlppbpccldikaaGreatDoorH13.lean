/-
  Several texts in one file, in build order:
  - Walk of chapter 12: which values are valid (the reference). Made by gen_jrv.py.
-/
import Derived.Test.YthlppbpccldikaaGreatDoorH11
import Derived.Test.YthlppbpccldikaaGreatDoorH12
import Derived.StillTailTactics
import Derived.Deep.QuietTactic
import Derived.BigQuiet
set_option linter.unusedVariables false
set_option linter.unusedSimpArgs false
namespace Go.Proofs.YthlppbpccldikaaGreatDoor
open Go.RowKit

theorem jrvL_step {l : List JV} {i : Nat} (h : i < l.length) : jrvL (l.drop i) = (jrv l[i] && jrvL (l.drop (i + 1))) := by
  rw [List.drop_eq_getElem_cons h, jrvL]
theorem jrvM_step {l : List JM} {i : Nat} {q : List Bytes} (h : i < l.length) : jrvM q (l.drop i) = (jrv l[i].val && utf8J l[i].key && !(q.contains l[i].key) && jrvM (q ++ [l[i].key]) (l.drop (i + 1))) := by
  rw [List.drop_eq_getElem_cons h]
  cases hx : l[i] with
  | mk k v p => rw [jrvM]; rfl
def keysJ (l : List JM) : List Bytes := l.map JM.key
theorem keys_take {l : List JM} {i : Nat} (h : i < l.length) : keysJ (l.take (i + 1)) = keysJ (l.take i) ++ [l[i].key] := by
  unfold keysJ
  rw [List.take_succ_eq_append_getElem h, List.map_append]; rfl
theorem keys_contains {l : List JM} {i : Nat} {k : Bytes} (hi : i ≤ l.length) : (keysJ (l.take i)).contains k = true ↔ ∃ j, ∃ (h : j < i), (l[j]'(by omega)).key = k := by
  unfold keysJ
  rw [List.contains_iff_mem, List.mem_map]
  constructor
  · rintro ⟨m, hm, rfl⟩
    obtain ⟨j, hj, rfl⟩ := List.mem_iff_getElem.1 hm
    simp only [List.length_take] at hj
    exact ⟨j, by omega, by rw [List.getElem_take]⟩
  · rintro ⟨j, h, rfl⟩
    exact ⟨l[j]'(by omega), List.mem_iff_getElem.2 ⟨j, by simp; omega, by rw [List.getElem_take]⟩, rfl⟩

theorem below_drewNJ {B : Nat} {w w' : World} (h : Below B w w') (n : Nat) : Below B w (w'.drewN n) := ⟨h.os, h.tape, h.output, h.size, h.block⟩
set_option maxHeartbeats 16000000 in
set_option maxRecDepth 100000 in
theorem refValid12_any (s : Nat) : ∀ (v : JV) (u : Value) (w : World), jsz v ≤ s → jful v ≤ 1000000 → ValV w (· < w.heap.size) v u →
    Calls Tryz.prog 28 #[u] w fun e w' => e = .returned (.bool (jrv v)) ∧ Below w.heap.size w w' := by
  induction s with
  | zero => intro v u w h; have := jsz_pos v; omega
  | succ s ih =>
    intro v u w hs hf hv
    have hfm := jful_form v
    have hut := fun (W : World) => refValid10_any v.s W (by omega)
    obtain ⟨IA, ic, MA, mc, rfl, hi, hm, hic, hmc⟩ := hv.open_
    have hil := jfulL_len v.items
    have hml := jfulM_len v.mems
    have hie : v.items.isEmpty = (v.items.length == 0) := by cases v.items <;> rfl
    have hme : v.mems.isEmpty = (v.mems.length == 0) := by cases v.mems <;> rfl
    have hform := @jhOk_form v
    have F1 : Hid (∀ o, Below w.heap.size w (w.alloc o)) := fun o => (Below.refl _ w).alloc (Nat.le_refl _) o
    obtain ⟨R, hR⟩ : ∃ R, jrv v = R := ⟨_, rfl⟩
    rw [hR]
    rw [jrv_form, jhOk_jun] at hR
    have HI := Lib.hid hi
    have HM := Lib.hid hm
    have HIH := Lib.hid ih
    have HS := Lib.hid hs
    have HF := Lib.hid hf
    have HFM := Lib.hid hfm
    have HUT := Lib.hid hut
    have hil2 : v.items.length ≤ 1000000 := by omega
    have hml2 : v.mems.length ≤ 1000000 := by omega
    have HFO := Lib.hid hform
    generalize hni : v.items.length = ni at *
    generalize hnm : v.mems.length = nm at *
    have HNI := Lib.hid hni
    have HNM := Lib.hid hnm
    clear hi hm ih hs hf hfm hut hv hil hml hform hni hnm
    by_cases hk0 : v.kind < 0
    · have hr : R = false := by rw [← hR, decide_eq_false (by omega : ¬ 0 ≤ v.kind)]; simp
      have HR := Lib.hid hr
      clear hr hR
      go_enter Tryz.func28, Tryz.ntmps28
      go_wp2_with fail
      go_ret
      exact ⟨ret_bool HR.out.symm, F1.out _⟩
    by_cases hk5 : 5 < v.kind
    · have hr : R = false := by rw [← hR, decide_eq_false (by omega : ¬ v.kind ≤ 5)]; simp
      have HR := Lib.hid hr
      clear hr hR
      go_enter Tryz.func28, Tryz.ntmps28
      go_wp2_with fail
      go_ret
      exact ⟨ret_bool HR.out.symm, F1.out _⟩
    rw [decide_eq_true (by omega : 0 ≤ v.kind), decide_eq_true (by omega : v.kind ≤ 5)] at hR
    simp only [Bool.true_and] at hR
    have hkk : v.kind = 0 ∨ v.kind = 1 ∨ v.kind = 2 ∨ v.kind = 3 ∨ v.kind = 4 ∨ v.kind = 5 := by omega
    cases hj : jun v with
    | false =>
      have hr : R = false := by rw [← hR, hj]; simp
      have HR := Lib.hid hr
      clear hr hR HFO
      unfold jun at hj
      rw [hie, hme] at hj
      clear hie hme
      rcases hkk with h | h | h | h | h | h
      · have t1 : (v.kind == 1) = false := by rw [h]; rfl
        have u1 : (v.kind != 1) = true := by rw [h]; rfl
        have t2 : (v.kind == 2) = false := by rw [h]; rfl
        have u2 : (v.kind != 2) = true := by rw [h]; rfl
        have t3 : (v.kind == 3) = false := by rw [h]; rfl
        have u3 : (v.kind != 3) = true := by rw [h]; rfl
        have t4 : (v.kind == 4) = false := by rw [h]; rfl
        have u4 : (v.kind != 4) = true := by rw [h]; rfl
        have t5 : (v.kind == 5) = false := by rw [h]; rfl
        have u5 : (v.kind != 5) = true := by rw [h]; rfl
        rw [t1, t2, t3, t4, t5] at hj
        clear h
        rcases hb : v.b with _ | _
        · rw [hb] at hj
          rcases hn : (v.n == 0) with _ | _
          · rw [hn] at hj
            have hn2 : (v.n != 0) = true := by rw [bne, hn]; rfl
            clear hj
            go_enter Tryz.func28, Tryz.ntmps28
            go_wp2_with fail
            go_ret
            exact ⟨ret_bool HR.out.symm, F1.out _⟩
          · rw [hn] at hj
            have hn2 : (v.n != 0) = false := by rw [bne, hn]; rfl
            rcases hs : v.s.isEmpty with _ | _
            · rw [hs] at hj
              have hs2 : (v.s == []) = false := by cases hx : v.s <;> simp_all
              have hs3 : (v.s != []) = true := by rw [bne, hs2]; rfl
              clear hj
              go_enter Tryz.func28, Tryz.ntmps28
              go_wp2_with fail
              go_ret
              exact ⟨ret_bool HR.out.symm, F1.out _⟩
            · rw [hs] at hj
              have hs2 : (v.s == []) = true := by cases hx : v.s <;> simp_all
              have hs3 : (v.s != []) = false := by rw [bne, hs2]; rfl
              rcases hi : (ni == 0) with _ | _
              · rw [hi] at hj
                have hi2 : (0 : Int) < ni := by rw [beq_eq_false_iff_ne] at hi; omega
                clear hj
                go_enter Tryz.func28, Tryz.ntmps28
                go_wp2_with fail
                go_ret
                exact ⟨ret_bool HR.out.symm, F1.out _⟩
              · rw [hi] at hj
                have hi2 : ¬ (0 : Int) < ni := by rw [beq_iff_eq] at hi; omega
                rcases hm : (nm == 0) with _ | _
                · rw [hm] at hj
                  have hm2 : (0 : Int) < nm := by rw [beq_eq_false_iff_ne] at hm; omega
                  clear hj
                  go_enter Tryz.func28, Tryz.ntmps28
                  go_wp2_with fail
                  go_ret
                  exact ⟨ret_bool HR.out.symm, F1.out _⟩
                · rw [hm] at hj
                  have hm2 : ¬ (0 : Int) < nm := by rw [beq_iff_eq] at hm; omega
                  exact absurd hj (by simp)
        · rw [hb] at hj
          clear hj
          go_enter Tryz.func28, Tryz.ntmps28
          go_wp2_with fail
          go_ret
          exact ⟨ret_bool HR.out.symm, F1.out _⟩
      · have t1 : (v.kind == 1) = true := by rw [h]; rfl
        have u1 : (v.kind != 1) = false := by rw [h]; rfl
        have t2 : (v.kind == 2) = false := by rw [h]; rfl
        have u2 : (v.kind != 2) = true := by rw [h]; rfl
        have t3 : (v.kind == 3) = false := by rw [h]; rfl
        have u3 : (v.kind != 3) = true := by rw [h]; rfl
        have t4 : (v.kind == 4) = false := by rw [h]; rfl
        have u4 : (v.kind != 4) = true := by rw [h]; rfl
        have t5 : (v.kind == 5) = false := by rw [h]; rfl
        have u5 : (v.kind != 5) = true := by rw [h]; rfl
        rw [t1, t2, t3, t4, t5] at hj
        clear h
        rcases hn : (v.n == 0) with _ | _
        · rw [hn] at hj
          have hn2 : (v.n != 0) = true := by rw [bne, hn]; rfl
          clear hj
          go_enter Tryz.func28, Tryz.ntmps28
          go_wp2_with fail
          go_ret
          exact ⟨ret_bool HR.out.symm, F1.out _⟩
        · rw [hn] at hj
          have hn2 : (v.n != 0) = false := by rw [bne, hn]; rfl
          rcases hs : v.s.isEmpty with _ | _
          · rw [hs] at hj
            have hs2 : (v.s == []) = false := by cases hx : v.s <;> simp_all
            have hs3 : (v.s != []) = true := by rw [bne, hs2]; rfl
            clear hj
            go_enter Tryz.func28, Tryz.ntmps28
            go_wp2_with fail
            go_ret
            exact ⟨ret_bool HR.out.symm, F1.out _⟩
          · rw [hs] at hj
            have hs2 : (v.s == []) = true := by cases hx : v.s <;> simp_all
            have hs3 : (v.s != []) = false := by rw [bne, hs2]; rfl
            rcases hi : (ni == 0) with _ | _
            · rw [hi] at hj
              have hi2 : (0 : Int) < ni := by rw [beq_eq_false_iff_ne] at hi; omega
              clear hj
              go_enter Tryz.func28, Tryz.ntmps28
              go_wp2_with fail
              go_ret
              exact ⟨ret_bool HR.out.symm, F1.out _⟩
            · rw [hi] at hj
              have hi2 : ¬ (0 : Int) < ni := by rw [beq_iff_eq] at hi; omega
              rcases hm : (nm == 0) with _ | _
              · rw [hm] at hj
                have hm2 : (0 : Int) < nm := by rw [beq_eq_false_iff_ne] at hm; omega
                clear hj
                go_enter Tryz.func28, Tryz.ntmps28
                go_wp2_with fail
                go_ret
                exact ⟨ret_bool HR.out.symm, F1.out _⟩
              · rw [hm] at hj
                have hm2 : ¬ (0 : Int) < nm := by rw [beq_iff_eq] at hm; omega
                exact absurd hj (by simp)
      · have t1 : (v.kind == 1) = false := by rw [h]; rfl
        have u1 : (v.kind != 1) = true := by rw [h]; rfl
        have t2 : (v.kind == 2) = true := by rw [h]; rfl
        have u2 : (v.kind != 2) = false := by rw [h]; rfl
        have t3 : (v.kind == 3) = false := by rw [h]; rfl
        have u3 : (v.kind != 3) = true := by rw [h]; rfl
        have t4 : (v.kind == 4) = false := by rw [h]; rfl
        have u4 : (v.kind != 4) = true := by rw [h]; rfl
        have t5 : (v.kind == 5) = false := by rw [h]; rfl
        have u5 : (v.kind != 5) = true := by rw [h]; rfl
        rw [t1, t2, t3, t4, t5] at hj
        clear h
        rcases hb : v.b with _ | _
        · rw [hb] at hj
          rcases hs : v.s.isEmpty with _ | _
          · rw [hs] at hj
            have hs2 : (v.s == []) = false := by cases hx : v.s <;> simp_all
            have hs3 : (v.s != []) = true := by rw [bne, hs2]; rfl
            clear hj
            go_enter Tryz.func28, Tryz.ntmps28
            go_wp2_with fail
            go_ret
            exact ⟨ret_bool HR.out.symm, F1.out _⟩
          · rw [hs] at hj
            have hs2 : (v.s == []) = true := by cases hx : v.s <;> simp_all
            have hs3 : (v.s != []) = false := by rw [bne, hs2]; rfl
            rcases hi : (ni == 0) with _ | _
            · rw [hi] at hj
              have hi2 : (0 : Int) < ni := by rw [beq_eq_false_iff_ne] at hi; omega
              clear hj
              go_enter Tryz.func28, Tryz.ntmps28
              go_wp2_with fail
              go_ret
              exact ⟨ret_bool HR.out.symm, F1.out _⟩
            · rw [hi] at hj
              have hi2 : ¬ (0 : Int) < ni := by rw [beq_iff_eq] at hi; omega
              rcases hm : (nm == 0) with _ | _
              · rw [hm] at hj
                have hm2 : (0 : Int) < nm := by rw [beq_eq_false_iff_ne] at hm; omega
                clear hj
                go_enter Tryz.func28, Tryz.ntmps28
                go_wp2_with fail
                go_ret
                exact ⟨ret_bool HR.out.symm, F1.out _⟩
              · rw [hm] at hj
                have hm2 : ¬ (0 : Int) < nm := by rw [beq_iff_eq] at hm; omega
                exact absurd hj (by simp)
        · rw [hb] at hj
          clear hj
          go_enter Tryz.func28, Tryz.ntmps28
          go_wp2_with fail
          go_ret
          exact ⟨ret_bool HR.out.symm, F1.out _⟩
      · have t1 : (v.kind == 1) = false := by rw [h]; rfl
        have u1 : (v.kind != 1) = true := by rw [h]; rfl
        have t2 : (v.kind == 2) = false := by rw [h]; rfl
        have u2 : (v.kind != 2) = true := by rw [h]; rfl
        have t3 : (v.kind == 3) = true := by rw [h]; rfl
        have u3 : (v.kind != 3) = false := by rw [h]; rfl
        have t4 : (v.kind == 4) = false := by rw [h]; rfl
        have u4 : (v.kind != 4) = true := by rw [h]; rfl
        have t5 : (v.kind == 5) = false := by rw [h]; rfl
        have u5 : (v.kind != 5) = true := by rw [h]; rfl
        rw [t1, t2, t3, t4, t5] at hj
        clear h
        rcases hb : v.b with _ | _
        · rw [hb] at hj
          rcases hn : (v.n == 0) with _ | _
          · rw [hn] at hj
            have hn2 : (v.n != 0) = true := by rw [bne, hn]; rfl
            clear hj
            go_enter Tryz.func28, Tryz.ntmps28
            go_wp2_with fail
            go_ret
            exact ⟨ret_bool HR.out.symm, F1.out _⟩
          · rw [hn] at hj
            have hn2 : (v.n != 0) = false := by rw [bne, hn]; rfl
            rcases hi : (ni == 0) with _ | _
            · rw [hi] at hj
              have hi2 : (0 : Int) < ni := by rw [beq_eq_false_iff_ne] at hi; omega
              clear hj
              go_enter Tryz.func28, Tryz.ntmps28
              go_wp2_with fail
              go_ret
              exact ⟨ret_bool HR.out.symm, F1.out _⟩
            · rw [hi] at hj
              have hi2 : ¬ (0 : Int) < ni := by rw [beq_iff_eq] at hi; omega
              rcases hm : (nm == 0) with _ | _
              · rw [hm] at hj
                have hm2 : (0 : Int) < nm := by rw [beq_eq_false_iff_ne] at hm; omega
                clear hj
                go_enter Tryz.func28, Tryz.ntmps28
                go_wp2_with fail
                go_ret
                exact ⟨ret_bool HR.out.symm, F1.out _⟩
              · rw [hm] at hj
                have hm2 : ¬ (0 : Int) < nm := by rw [beq_iff_eq] at hm; omega
                exact absurd hj (by simp)
        · rw [hb] at hj
          clear hj
          go_enter Tryz.func28, Tryz.ntmps28
          go_wp2_with fail
          go_ret
          exact ⟨ret_bool HR.out.symm, F1.out _⟩
      · have t1 : (v.kind == 1) = false := by rw [h]; rfl
        have u1 : (v.kind != 1) = true := by rw [h]; rfl
        have t2 : (v.kind == 2) = false := by rw [h]; rfl
        have u2 : (v.kind != 2) = true := by rw [h]; rfl
        have t3 : (v.kind == 3) = false := by rw [h]; rfl
        have u3 : (v.kind != 3) = true := by rw [h]; rfl
        have t4 : (v.kind == 4) = true := by rw [h]; rfl
        have u4 : (v.kind != 4) = false := by rw [h]; rfl
        have t5 : (v.kind == 5) = false := by rw [h]; rfl
        have u5 : (v.kind != 5) = true := by rw [h]; rfl
        rw [t1, t2, t3, t4, t5] at hj
        clear h
        rcases hb : v.b with _ | _
        · rw [hb] at hj
          rcases hn : (v.n == 0) with _ | _
          · rw [hn] at hj
            have hn2 : (v.n != 0) = true := by rw [bne, hn]; rfl
            clear hj
            go_enter Tryz.func28, Tryz.ntmps28
            go_wp2_with fail
            go_ret
            exact ⟨ret_bool HR.out.symm, F1.out _⟩
          · rw [hn] at hj
            have hn2 : (v.n != 0) = false := by rw [bne, hn]; rfl
            rcases hs : v.s.isEmpty with _ | _
            · rw [hs] at hj
              have hs2 : (v.s == []) = false := by cases hx : v.s <;> simp_all
              have hs3 : (v.s != []) = true := by rw [bne, hs2]; rfl
              clear hj
              go_enter Tryz.func28, Tryz.ntmps28
              go_wp2_with fail
              go_ret
              exact ⟨ret_bool HR.out.symm, F1.out _⟩
            · rw [hs] at hj
              have hs2 : (v.s == []) = true := by cases hx : v.s <;> simp_all
              have hs3 : (v.s != []) = false := by rw [bne, hs2]; rfl
              rcases hm : (nm == 0) with _ | _
              · rw [hm] at hj
                have hm2 : (0 : Int) < nm := by rw [beq_eq_false_iff_ne] at hm; omega
                clear hj
                go_enter Tryz.func28, Tryz.ntmps28
                go_wp2_with fail
                go_ret
                exact ⟨ret_bool HR.out.symm, F1.out _⟩
              · rw [hm] at hj
                have hm2 : ¬ (0 : Int) < nm := by rw [beq_iff_eq] at hm; omega
                exact absurd hj (by simp)
        · rw [hb] at hj
          clear hj
          go_enter Tryz.func28, Tryz.ntmps28
          go_wp2_with fail
          go_ret
          exact ⟨ret_bool HR.out.symm, F1.out _⟩
      · have t1 : (v.kind == 1) = false := by rw [h]; rfl
        have u1 : (v.kind != 1) = true := by rw [h]; rfl
        have t2 : (v.kind == 2) = false := by rw [h]; rfl
        have u2 : (v.kind != 2) = true := by rw [h]; rfl
        have t3 : (v.kind == 3) = false := by rw [h]; rfl
        have u3 : (v.kind != 3) = true := by rw [h]; rfl
        have t4 : (v.kind == 4) = false := by rw [h]; rfl
        have u4 : (v.kind != 4) = true := by rw [h]; rfl
        have t5 : (v.kind == 5) = true := by rw [h]; rfl
        have u5 : (v.kind != 5) = false := by rw [h]; rfl
        rw [t1, t2, t3, t4, t5] at hj
        clear h
        rcases hb : v.b with _ | _
        · rw [hb] at hj
          rcases hn : (v.n == 0) with _ | _
          · rw [hn] at hj
            have hn2 : (v.n != 0) = true := by rw [bne, hn]; rfl
            clear hj
            go_enter Tryz.func28, Tryz.ntmps28
            go_wp2_with fail
            go_ret
            exact ⟨ret_bool HR.out.symm, F1.out _⟩
          · rw [hn] at hj
            have hn2 : (v.n != 0) = false := by rw [bne, hn]; rfl
            rcases hs : v.s.isEmpty with _ | _
            · rw [hs] at hj
              have hs2 : (v.s == []) = false := by cases hx : v.s <;> simp_all
              have hs3 : (v.s != []) = true := by rw [bne, hs2]; rfl
              clear hj
              go_enter Tryz.func28, Tryz.ntmps28
              go_wp2_with fail
              go_ret
              exact ⟨ret_bool HR.out.symm, F1.out _⟩
            · rw [hs] at hj
              have hs2 : (v.s == []) = true := by cases hx : v.s <;> simp_all
              have hs3 : (v.s != []) = false := by rw [bne, hs2]; rfl
              rcases hi : (ni == 0) with _ | _
              · rw [hi] at hj
                have hi2 : (0 : Int) < ni := by rw [beq_eq_false_iff_ne] at hi; omega
                clear hj
                go_enter Tryz.func28, Tryz.ntmps28
                go_wp2_with fail
                go_ret
                exact ⟨ret_bool HR.out.symm, F1.out _⟩
              · rw [hi] at hj
                have hi2 : ¬ (0 : Int) < ni := by rw [beq_iff_eq] at hi; omega
                exact absurd hj (by simp)
        · rw [hb] at hj
          clear hj
          go_enter Tryz.func28, Tryz.ntmps28
          go_wp2_with fail
          go_ret
          exact ⟨ret_bool HR.out.symm, F1.out _⟩
    | true =>
      rw [hj] at hR
      simp only [Bool.true_and] at hR
      clear hie hme
      have hz0 : 0 ≤ v.kind ∧ v.kind ≤ 5 := by omega
      have hz : (v.kind = 1 ∨ v.b = false) ∧ (v.kind = 2 ∨ v.n = 0) ∧ (v.kind = 3 ∨ v.s = []) ∧ (v.kind = 4 ∨ v.items = []) ∧ (v.kind = 5 ∨ v.mems = []) := by
        unfold jun at hj
        simp only [Bool.and_eq_true, Bool.or_eq_true, beq_iff_eq, List.isEmpty_iff, Bool.not_eq_true'] at hj
        obtain ⟨⟨⟨⟨h3, h4⟩, h5⟩, h6⟩, h7⟩ := hj
        exact ⟨h3, h4, h5, h6, h7⟩
      obtain ⟨z1, z2, z3, z4, z5⟩ := hz
      have z4' : v.kind = 4 ∨ ni = 0 := z4.imp id fun e => by rw [← HNI.out, e]; rfl
      have z5' : v.kind = 5 ∨ nm = 0 := z5.imp id fun e => by rw [← HNM.out, e]; rfl
      have z45 : ni = 0 ∨ nm = 0 := by rcases z4' with e | e <;> rcases z5' with e2 | e2 <;> omega
      clear hj HFO
      by_cases hA : v.kind = 4
      · -- an array
        have h := hA
        obtain rfl : nm = 0 := z5'.resolve_left (by omega)
        have hm0 : v.mems = [] := z5.resolve_left (by omega)
        rw [hm0, show jrvM [] [] = true by rw [jrvM], Bool.and_true] at hR
        have t1 := congrArg (fun x => x == (1 : Int)) h
        have t2 := congrArg (fun x => x == (2 : Int)) h
        have t3 := congrArg (fun x => x == (3 : Int)) h
        have t4 := congrArg (fun x => x == (4 : Int)) h
        have t5 := congrArg (fun x => x == (5 : Int)) h
        have u1 := congrArg (fun x => x != (1 : Int)) h
        have u2 := congrArg (fun x => x != (2 : Int)) h
        have u3 := congrArg (fun x => x != (3 : Int)) h
        have u4 := congrArg (fun x => x != (4 : Int)) h
        have u5 := congrArg (fun x => x != (5 : Int)) h
        simp only [show ((1 : Int) == 1) = true from rfl, show ((2 : Int) == 2) = true from rfl, show ((3 : Int) == 3) = true from rfl, show ((4 : Int) == 4) = true from rfl, show ((5 : Int) == 5) = true from rfl, Int.reduceBEq, Int.reduceBNe] at t1 t2 t3 t4 t5 u1 u2 u3 u4 u5
        first | (have y1 : v.b = false := z1.resolve_left (by omega)) | skip
        first | (have y2 : (v.n == 0) = true := by rw [z2.resolve_left (by omega)]; rfl) | skip
        first | (have y2' : (v.n != 0) = false := by rw [z2.resolve_left (by omega)]; rfl) | skip
        first | (have y3 : (v.s == []) = true := by rw [z3.resolve_left (by omega)]; rfl) | skip
        first | (have y3' : (v.s != []) = false := by rw [z3.resolve_left (by omega)]; rfl) | skip
        first | (have y3'' : v.s.isEmpty = true := by rw [z3.resolve_left (by omega)]; rfl) | skip
        clear z1 z2 z3 z4' z5' z4 z5 z45 hkk hA h hm0 hz0
        have HR := Lib.hid hR
        clear hR
        obtain ⟨U, hU⟩ : ∃ U, utf8J v.s = U := ⟨_, rfl⟩
        rw [hU] at HUT HR
        clear hU
        cases U
        · go_enter Tryz.func28, Tryz.ntmps28
          go_wp2_with (go_at_call 59; refine (HUT.out _).mono ?_; rintro e w1 ⟨rfl, hb1⟩)
          go_ret
          exact ⟨ret_bool (by rw [← HR.out]; rfl), (F1.out _).trans (hb1.mono (by simp))⟩
        · go_enter Tryz.func28, Tryz.ntmps28
          go_wp2_with (go_at_call 59; refine (HUT.out _).mono ?_; rintro e w1 ⟨rfl, hb1⟩)
          have X1 := (hb1.block w.heap.size (by simp)).trans (heap_alloc_new w _)
          have c4 : w1.cell? ⟨w.heap.size, 4, none⟩ = some (.slice IA ni ic) := by rw [Lib.cell_of_heap X1]; rfl
          have c5 : w1.cell? ⟨w.heap.size, 5, none⟩ = some (.slice MA 0 mc) := by rw [Lib.cell_of_heap X1]; rfl
          have hz1 := heap_lt X1
          have HB1 := Lib.hid ((F1.out _).trans (hb1.mono (by simp)))
          have HC4 := Lib.hid c4
          have HC5 := Lib.hid c5
          clear X1 hb1 c4 c5
          go_loopw [4] (fun i4 wr => ∃ i : Nat, i ≤ ni ∧ i4 = .int .i64 i ∧ jrvL (v.items.drop i) = R ∧ Below w.heap.size w wr ∧ wr.cell? ⟨w.heap.size, 4, none⟩ = some (.slice IA ni ic) ∧ wr.cell? ⟨w.heap.size, 5, none⟩ = some (.slice MA 0 mc) ∧ w.heap.size < wr.heap.size) (fun i4 _ => ni - (intOf i4).toNat)
          case atStart => exact ⟨0, Nat.zero_le _, rfl, by have := HR.out; simpa using this, HB1.out, HC4.out, HC5.out, hz1⟩
          case round =>
            obtain ⟨i, hi, rfl, hres, hb, c4, c5, hsz⟩ := hrel
            have HB := Lib.hid hb
            clear hb
            by_cases hlt : i < ni
            · have hlt' : (i : Int) < ni := by omega
              have hl2 : i < v.items.length := by rw [HNI.out]; exact hlt
              rw [jrvL_step hl2] at hres
              have hjz := jsz_item (List.getElem_mem hl2)
              have hjf := jfulL_mem (List.getElem_mem hl2)
              obtain ⟨b, off, cs, rfl, hbl, hr, hcs⟩ := HI.out.at_ hl2
              have hr1 := rangeAt_keep hr (HB.out.block b hbl)
              have hcs1 := ValP.keep (fun k hk => HB.out.block k hk) (fun k hk => Nat.lt_of_lt_of_le hk HB.out.size) _ _ hcs
              generalize v.items[i] = x at *
              obtain ⟨NA, nc, NM, nd, rfl, _, _, _, _⟩ := hcs.open_
              have hcall := HIH.out x _ wr (by have := HS.out; omega) (by have := HF.out; have := HFM.out; omega) ⟨_, rfl, hcs1⟩
              have HC := Lib.hid hcall
              have HR1 := Lib.hid hr1
              have C4 := Lib.hid c4
              have C5 := Lib.hid c5
              clear hr hr1 hcs hcs1 hcall c5 hjz hjf
              cases hq : jrv x with
              | false =>
                rw [hq] at HC hres
                have hr : R = false := by rw [← hres]; simp
                have HRR := Lib.hid hr
                clear hr hres hq
                go_wp2_with (first
                  | (with_reducible refine gate ?_; refine wp_load_val rfl _ rfl b (off + i * 7) rfl _ rfl HR1.out ?_)
                  | (go_at_call 28; refine HC.out.mono ?_; rintro e w3 ⟨rfl, hb3⟩))
                go_ret
                exact ⟨ret_bool HRR.out.symm, HB.out.trans (hb3.mono HB.out.size)⟩
              | true =>
                rw [hq] at HC hres
                simp only [Bool.true_and] at hres
                have HRR := Lib.hid hres
                clear hres hq
                go_wp2_with (first
                  | (with_reducible refine gate ?_; refine wp_load_val rfl _ rfl b (off + i * 7) rfl _ rfl HR1.out ?_)
                  | (go_at_call 28; refine HC.out.mono ?_; rintro e w3 ⟨rfl, hb3⟩))
                go_roundw
                case rel => exact ⟨i + 1, by omega, by go_num, HRR.out, HB.out.trans (hb3.mono HB.out.size), (hb3.cell (p := ⟨w.heap.size, 4, none⟩) hsz).trans C4.out, (hb3.cell (p := ⟨w.heap.size, 5, none⟩) hsz).trans C5.out, Nat.lt_of_lt_of_le hsz hb3.size⟩
                case measure => simp [intOf]; omega
            · have hil' : i = ni := by omega
              subst hil'
              have hlt' : ¬ ((i : Int) < i) := by omega
              have hd : v.items.drop i = [] := by rw [← HNI.out]; exact List.drop_length
              rw [hd, jrvL] at hres
              have HRR := Lib.hid hres
              clear hres hlt hd
              go_wp2_with fail
              go_loopw [5] (fun i5 wq => i5 = .int .i64 0 ∧ wq = wr) (fun i5 _ => 0)
              case atStart => exact ⟨rfl, rfl⟩
              case round =>
                obtain ⟨rfl, rfl⟩ := hrel
                go_wp2_with fail
                go_ret
                exact ⟨ret_bool HRR.out, HB.out⟩
      · obtain rfl : ni = 0 := z4'.resolve_left hA
        have hi0 : v.items = [] := z4.resolve_left hA
        rw [hi0, show jrvL [] = true by rw [jrvL], Bool.true_and] at hR
        obtain ⟨U, hU⟩ : ∃ U, utf8J v.s = U := ⟨_, rfl⟩
        rw [hU] at HUT hR
        clear hU
        by_cases hB : v.kind = 5
        · -- an object
          have h := hB
          have t1 := congrArg (fun x => x == (1 : Int)) h
          have t2 := congrArg (fun x => x == (2 : Int)) h
          have t3 := congrArg (fun x => x == (3 : Int)) h
          have t4 := congrArg (fun x => x == (4 : Int)) h
          have t5 := congrArg (fun x => x == (5 : Int)) h
          have u1 := congrArg (fun x => x != (1 : Int)) h
          have u2 := congrArg (fun x => x != (2 : Int)) h
          have u3 := congrArg (fun x => x != (3 : Int)) h
          have u4 := congrArg (fun x => x != (4 : Int)) h
          have u5 := congrArg (fun x => x != (5 : Int)) h
          simp only [show ((1 : Int) == 1) = true from rfl, show ((2 : Int) == 2) = true from rfl, show ((3 : Int) == 3) = true from rfl, show ((4 : Int) == 4) = true from rfl, show ((5 : Int) == 5) = true from rfl, Int.reduceBEq, Int.reduceBNe] at t1 t2 t3 t4 t5 u1 u2 u3 u4 u5
          first | (have y1 : v.b = false := z1.resolve_left (by omega)) | skip
          first | (have y2 : (v.n == 0) = true := by rw [z2.resolve_left (by omega)]; rfl) | skip
          first | (have y2' : (v.n != 0) = false := by rw [z2.resolve_left (by omega)]; rfl) | skip
          first | (have y3 : (v.s == []) = true := by rw [z3.resolve_left (by omega)]; rfl) | skip
          first | (have y3' : (v.s != []) = false := by rw [z3.resolve_left (by omega)]; rfl) | skip
          first | (have y3'' : v.s.isEmpty = true := by rw [z3.resolve_left (by omega)]; rfl) | skip
          clear z1 z2 z3 z4' z5' z4 z5 z45 hkk hA hB h hi0 hz0
          have HR := Lib.hid hR
          clear hR
          cases U
          · go_enter Tryz.func28, Tryz.ntmps28
            go_wp2_with (go_at_call 59; refine (HUT.out _).mono ?_; rintro e w1 ⟨rfl, hb1⟩)
            go_ret
            exact ⟨ret_bool (by rw [← HR.out]; rfl), (F1.out _).trans (hb1.mono (by simp))⟩
          · go_enter Tryz.func28, Tryz.ntmps28
            go_wp2_with (go_at_call 59; refine (HUT.out _).mono ?_; rintro e w1 ⟨rfl, hb1⟩)
            have X1 := (hb1.block w.heap.size (by simp)).trans (heap_alloc_new w _)
            have c4 : w1.cell? ⟨w.heap.size, 4, none⟩ = some (.slice IA 0 ic) := by rw [Lib.cell_of_heap X1]; rfl
            have c5 : w1.cell? ⟨w.heap.size, 5, none⟩ = some (.slice MA nm mc) := by rw [Lib.cell_of_heap X1]; rfl
            have hz1 := heap_lt X1
            have HB1 := Lib.hid ((F1.out _).trans (hb1.mono (by simp)))
            have HC5 := Lib.hid c5
            have HC4 := Lib.hid c4
            clear X1 hb1 c4 c5
            go_loopw [4] (fun i4 wq => i4 = .int .i64 0 ∧ wq = w1) (fun i4 _ => 0)
            case atStart => exact ⟨rfl, rfl⟩
            case round =>
              obtain ⟨rfl, rfl⟩ := hrel
              have c4 := HC4.out
              go_wp2_with fail
              clear c4
              go_loopw [5] (fun i5 wr => ∃ i : Nat, i ≤ nm ∧ i5 = .int .i64 i ∧ jrvM (keysJ (v.mems.take i)) (v.mems.drop i) = R ∧ Below w.heap.size w wr ∧ wr.cell? ⟨w.heap.size, 5, none⟩ = some (.slice MA nm mc) ∧ w.heap.size < wr.heap.size) (fun i5 _ => nm - (intOf i5).toNat)
              case atStart => exact ⟨0, Nat.zero_le _, rfl, by have := HR.out; simpa [keysJ] using this, HB1.out, HC5.out, hz1⟩
              case round =>
                obtain ⟨i, hi, rfl, hres, hb, c5, hsz⟩ := hrel
                have HB := Lib.hid hb
                clear hb HC4 HC5 HB1 HR
                by_cases hlt : i < nm
                · have hlt' : (i : Int) < nm := by omega
                  have hl2 : i < v.mems.length := by rw [HNM.out]; exact hlt
                  rw [jrvM_step hl2] at hres
                  have hjz := jsz_mem (List.getElem_mem hl2)
                  have hjf := jfulM_mem (List.getElem_mem hl2)
                  have hkt := keys_take hl2
                  have HKC := Lib.hid (fun k => @keys_contains v.mems i k (by omega))
                  have HMK := Lib.hid (fun (j : Nat) (hj : j < i) => List.getElem_mem (l := v.mems) (n := j) (by omega))
                  obtain ⟨b, off, cs, rfl, hbl, hr, hcs⟩ := HM.out.at_ hl2
                  have HAT := Lib.hid (fun (j : Nat) (hj : j < v.mems.length) => HM.out.at_ (i := j) hj)
                  have hr1 := rangeAt_keep hr (HB.out.block b hbl)
                  have hcs1 := MemP.keep (fun k hk => HB.out.block k hk) (fun k hk => Nat.lt_of_lt_of_le hk HB.out.size) hcs
                  have hgk : ∀ j (hj : j < i), ∀ W : World, Below w.heap.size w W → W.cell? ⟨b, off + j * 9, none⟩ = some (.string (S (v.mems[j]'(by omega)).key)) := fun j hj W hW => by
                    obtain ⟨b', off', cs', e1, hbl', hr', hm'⟩ := HAT.out j (by omega)
                    cases e1
                    obtain ⟨_, _, _, _, hc'⟩ := hm'.cells
                    have := (rangeAt_keep hr' (hW.block b hbl')) 0 (.string (S (v.mems[j]'(by omega)).key)) (by rw [hc']; rfl)
                    simpa using this
                  have HGK := Lib.hid hgk
                  generalize hmi : v.mems[i] = m at *
                  obtain ⟨vs, hvs, hcse⟩ := hcs1
                  obtain ⟨NA, nc, NM, nd, hvse, _, _, _, _⟩ := hvs.open_
                  subst hvse
                  simp only [List.cons_append, List.nil_append] at hcse
                  subst hcse
                  have hgi : ∀ W : World, Below w.heap.size w W → W.cell? ⟨b, off + i * 9, none⟩ = some (.string (S m.key)) := fun W hW => by
                    have := (rangeAt_keep hr (hW.block b hbl)) 0 (.string (S m.key)) rfl
                    simpa using this
                  have hrv : wr.rangeAt b (off + i * 9 + 1) [.int .i64 m.val.kind, .bool m.val.b, .int .i64 m.val.n, .string (S m.val.s), .slice NA m.val.items.length nc, .slice NM m.val.mems.length nd, .int .i64 m.val.pos] := fun j u hj => by
                    have := hr1 (j + 1) u (by
                      rw [List.getElem?_cons_succ]
                      have hj7 : j < 7 := (List.getElem?_eq_some_iff.1 hj).1
                      match j, hj7, hj with
                      | 0, _, hj => exact hj
                      | 1, _, hj => exact hj
                      | 2, _, hj => exact hj
                      | 3, _, hj => exact hj
                      | 4, _, hj => exact hj
                      | 5, _, hj => exact hj
                      | 6, _, hj => exact hj)
                    rw [show off + i * 9 + 1 + j = off + i * 9 + (j + 1) by omega]
                    exact this
                  have hcall := HIH.out m.val _ wr (by have := HS.out; omega) (by have := HF.out; have := HFM.out; omega) ⟨_, rfl, hvs⟩
                  have hvk := fun (W : World) => refValid10_any m.key W (by have := HF.out; have := HFM.out; omega)
                  have HC := Lib.hid hcall
                  have HVK := Lib.hid hvk
                  have HGI := Lib.hid hgi
                  have HR1 := Lib.hid hrv
                  have C5 := Lib.hid c5
                  have HKT := Lib.hid hkt
                  clear hr hr1 hcs hvs hcall hjz hjf hgk hrv hvk hgi HAT HMK hmi hkt
                  cases hq : jrv m.val with
                  | false =>
                    rw [hq] at HC
                    have hr : R = false := by rw [← hres, hq]; simp
                    have HRR := Lib.hid hr
                    clear hr hres hq
                    go_wp2_with (first
                      | (with_reducible refine gate ?_; refine wp_load_val rfl _ rfl b (off + i * 9 + 1) rfl _ rfl HR1.out ?_)
                      | (go_at_call 28; refine HC.out.mono ?_; rintro e w3 ⟨rfl, hb3⟩))
                    go_ret
                    exact ⟨ret_bool HRR.out.symm, HB.out.trans (hb3.mono HB.out.size)⟩
                  | true =>
                    rw [hq] at HC
                    cases hu2 : utf8J m.key with
                    | false =>
                      rw [hu2] at HVK
                      have hr : R = false := by rw [← hres, hu2]; simp
                      have HRR := Lib.hid hr
                      clear hr hres hq hu2
                      go_wp2_with (first
                        | (with_reducible refine gate ?_; refine wp_load_val rfl _ rfl b (off + i * 9 + 1) rfl _ rfl HR1.out ?_)
                        | (go_at_call 28; refine HC.out.mono ?_; rintro e w3 ⟨rfl, hb3⟩; have B3 := HB.out.trans (hb3.mono HB.out.size); have k3 := HGI.out _ B3; have k5 := (hb3.cell (p := ⟨w.heap.size, 5, none⟩) hsz).trans C5.out)
                        | (go_at_call 59; refine (HVK.out _).mono ?_; rintro e w4 ⟨rfl, hb4⟩))
                      go_ret
                      exact ⟨ret_bool HRR.out.symm, B3.trans (hb4.mono B3.size)⟩
                    | true =>
                      rw [hu2] at HVK
                      rw [hq, hu2] at hres
                      simp only [Bool.true_and] at hres
                      have HRR := Lib.hid hres
                      clear hres hq hu2
                      go_wp2_with (first
                        | (with_reducible refine gate ?_; refine wp_load_val rfl _ rfl b (off + i * 9 + 1) rfl _ rfl HR1.out ?_)
                        | (go_at_call 28; refine HC.out.mono ?_; rintro e w3 ⟨rfl, hb3⟩; have B3 := HB.out.trans (hb3.mono HB.out.size); have k3 := HGI.out _ B3; have k5 := (hb3.cell (p := ⟨w.heap.size, 5, none⟩) hsz).trans C5.out)
                        | (go_at_call 59; refine (HVK.out _).mono ?_; rintro e w4 ⟨rfl, hb4⟩))
                      have hz3 := hb3.size
                      have hz4 := hb4.size
                      have HB4 := Lib.hid (B3.trans (hb4.mono B3.size))
                      have C5b := Lib.hid ((hb4.cell (p := ⟨w.heap.size, 5, none⟩) (show w.heap.size < w3.heap.size by omega)).trans k5)
                      clear B3 k3 k5 hb3 hb4
                      go_loopw [6] (fun i6 wq => ∃ j : Nat, j ≤ i ∧ i6 = .int .i64 j ∧ (∀ q (hq : q < j) (hqi : q < v.mems.length), (v.mems[q]'hqi).key ≠ m.key) ∧ Below w.heap.size w wq ∧ wq.cell? ⟨w.heap.size, 5, none⟩ = some (.slice (some ⟨b, off, none⟩) nm mc) ∧ w.heap.size < wq.heap.size) (fun i6 _ => i - (intOf i6).toNat)
                      case atStart => exact ⟨0, Nat.zero_le _, rfl, fun q hq => by omega, HB4.out, C5b.out, by omega⟩
                      case round =>
                        obtain ⟨j, hj, rfl, hno, hbj, cj5, hszj⟩ := hrel
                        have HNO := Lib.hid hno
                        have HBJ := Lib.hid hbj
                        clear hno hbj
                        by_cases hjlt : j < i
                        · have hjlt' : (j : Int) < i := by omega
                          have hjnm : (j : Int) < nm := by omega
                          have hjl : j < v.mems.length := by omega
                          have kj := HGK.out j hjlt wr HBJ.out
                          have ki := HGI.out wr HBJ.out
                          have CJ5 := Lib.hid cj5
                          by_cases hkk2 : (v.mems[j]'hjl).key = m.key
                          · have hcn : (keysJ (v.mems.take i)).contains m.key = true := (HKC.out m.key).2 ⟨j, hjlt, hkk2⟩
                            have hr : R = false := by rw [← HRR.out, hcn]; simp
                            have HRF := Lib.hid hr
                            have y : ((v.mems[j]'hjl).key == m.key) = true := by rw [hkk2]; simp
                            clear hr hcn hkk2
                            generalize (v.mems[j]'hjl).key = kk at *
                            go_wp2_with fail
                            go_quiet (fail)
                            go_wp2
                            go_ret
                            exact ⟨ret_bool HRF.out.symm, below_drewNJ HBJ.out _⟩
                          · have hnx : ∀ q (hq : q < j + 1) (hqi : q < v.mems.length), (v.mems[q]'hqi).key ≠ m.key := fun q hq hqi => by
                              by_cases e : q = j
                              · subst e; exact hkk2
                              · exact HNO.out q (by omega) hqi
                            have HNX := Lib.hid hnx
                            have tk : ((v.mems[j]'hjl).key == m.key) = false := by rw [beq_eq_false_iff_ne]; exact hkk2
                            generalize (v.mems[j]'hjl).key = kk at *
                            clear hnx hkk2
                            go_wp2_with fail
                            go_quiet (fail)
                            go_wp2
                            go_roundw
                            case rel => exact ⟨j + 1, by omega, by go_num, HNX.out, below_drewNJ HBJ.out _, CJ5.out, hszj⟩
                            case measure => simp [intOf]; omega
                        · have hji : j = i := by omega
                          subst hji
                          have hjlt' : ¬ ((j : Int) < j) := by omega
                          have hcn : (keysJ (v.mems.take j)).contains m.key = false := by
                            cases hc : (keysJ (v.mems.take j)).contains m.key with
                            | false => rfl
                            | true =>
                              obtain ⟨q, hq, he⟩ := (HKC.out m.key).1 hc
                              exact absurd he (HNO.out q hq (by omega))
                          have hnx : jrvM (keysJ (v.mems.take (j + 1))) (v.mems.drop (j + 1)) = R := by
                            rw [HKT.out, ← HRR.out, hcn]; simp
                          have HNX := Lib.hid hnx
                          clear hcn hnx hjlt
                          go_wp2_with fail
                          go_roundw
                          case rel => exact ⟨j + 1, by omega, by go_num, HNX.out, HBJ.out, cj5, hszj⟩
                          case measure => simp [intOf]; omega
                · have hil' : i = nm := by omega
                  subst hil'
                  have hlt' : ¬ ((i : Int) < i) := by omega
                  have hd : v.mems.drop i = [] := by rw [← HNM.out]; exact List.drop_length
                  rw [hd, jrvM] at hres
                  have HRR := Lib.hid hres
                  clear hres hlt hd
                  go_wp2_with fail
                  go_ret
                  exact ⟨ret_bool HRR.out, HB.out⟩
        · -- a plain value
          obtain rfl : nm = 0 := z5'.resolve_left hB
          have hm0 : v.mems = [] := z5.resolve_left hB
          rw [hm0, show jrvM [] [] = true by rw [jrvM]] at hR
          have HR := Lib.hid hR
          clear hR
          have hk4 : v.kind = 0 ∨ v.kind = 1 ∨ v.kind = 2 ∨ v.kind = 3 := by omega
          rcases hk4 with h | h | h | h
          all_goals
            have t1 := congrArg (fun x => x == (1 : Int)) h
            have t2 := congrArg (fun x => x == (2 : Int)) h
            have t3 := congrArg (fun x => x == (3 : Int)) h
            have t4 := congrArg (fun x => x == (4 : Int)) h
            have t5 := congrArg (fun x => x == (5 : Int)) h
            have u1 := congrArg (fun x => x != (1 : Int)) h
            have u2 := congrArg (fun x => x != (2 : Int)) h
            have u3 := congrArg (fun x => x != (3 : Int)) h
            have u4 := congrArg (fun x => x != (4 : Int)) h
            have u5 := congrArg (fun x => x != (5 : Int)) h
            simp only [show ((1 : Int) == 1) = true from rfl, show ((2 : Int) == 2) = true from rfl, show ((3 : Int) == 3) = true from rfl, show ((4 : Int) == 4) = true from rfl, show ((5 : Int) == 5) = true from rfl, Int.reduceBEq, Int.reduceBNe] at t1 t2 t3 t4 t5 u1 u2 u3 u4 u5
            first | (have y1 : v.b = false := z1.resolve_left (by omega)) | skip
            first | (have y2 : (v.n == 0) = true := by rw [z2.resolve_left (by omega)]; rfl) | skip
            first | (have y2' : (v.n != 0) = false := by rw [z2.resolve_left (by omega)]; rfl) | skip
            first | (have y3 : (v.s == []) = true := by rw [z3.resolve_left (by omega)]; rfl) | skip
            first | (have y3' : (v.s != []) = false := by rw [z3.resolve_left (by omega)]; rfl) | skip
            first | (have y3'' : v.s.isEmpty = true := by rw [z3.resolve_left (by omega)]; rfl) | skip
            clear z1 z2 z3 z4' z5' z4 z5 z45 hkk hA hB h hi0 hm0 hz0
            cases U
            · go_enter Tryz.func28, Tryz.ntmps28
              go_wp2_with (go_at_call 59; refine (HUT.out _).mono ?_; rintro e w1 ⟨rfl, hb1⟩)
              go_ret
              exact ⟨ret_bool (by rw [← HR.out]; rfl), (F1.out _).trans (hb1.mono (by simp))⟩
            · go_enter Tryz.func28, Tryz.ntmps28
              go_wp2_with (go_at_call 59; refine (HUT.out _).mono ?_; rintro e w1 ⟨rfl, hb1⟩)
              have X1 := (hb1.block w.heap.size (by simp)).trans (heap_alloc_new w _)
              have c4 : w1.cell? ⟨w.heap.size, 4, none⟩ = some (.slice IA 0 ic) := by rw [Lib.cell_of_heap X1]; rfl
              have c5 : w1.cell? ⟨w.heap.size, 5, none⟩ = some (.slice MA 0 mc) := by rw [Lib.cell_of_heap X1]; rfl
              have HB1 := Lib.hid ((F1.out _).trans (hb1.mono (by simp)))
              clear X1 hb1
              go_loopw [4] (fun i4 wq => i4 = .int .i64 0 ∧ wq = w1) (fun i4 _ => 0)
              case atStart => exact ⟨rfl, rfl⟩
              case round =>
                obtain ⟨rfl, rfl⟩ := hrel
                go_wp2_with fail
                go_loopw [5] (fun i5 wq => i5 = .int .i64 0 ∧ wq = wr) (fun i5 _ => 0)
                case atStart => exact ⟨rfl, rfl⟩
                case round =>
                  obtain ⟨rfl, rfl⟩ := hrel
                  go_wp2_with fail
                  go_ret
                  exact ⟨ret_bool (by rw [← HR.out]; rfl), HB1.out⟩
end Go.Proofs.YthlppbpccldikaaGreatDoor
