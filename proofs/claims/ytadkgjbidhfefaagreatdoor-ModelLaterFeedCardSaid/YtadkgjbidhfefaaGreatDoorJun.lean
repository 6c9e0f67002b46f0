/-
  Walk of chapter 12: unused (the program). Made by gen_jun.py.
-/
import Derived.Test.YtadkgjbidhfefaaGreatDoorSpec12
import Derived.Test.YtadkgjbidhfefaaGreatDoorTabJ
import Derived.WalkSpells
import Derived.WalkLawsBesides
set_option linter.unusedVariables false
namespace Go.Proofs.YtadkgjbidhfefaaGreatDoor
open Go.RowKit

theorem isEmpty_len {α : Type} (l : List α) : ((l.length : Int) == 0) = l.isEmpty := by cases l <;> simp <;> omega
set_option maxHeartbeats 4000000 in
set_option maxRecDepth 100000 in
theorem unused_any (v : JV) (u : Value) (w : World) (hv : ValV w (· < w.heap.size) v u) :
    Calls Tryz.prog 78 #[u] w fun e w' => e = .returned (.bool (jun v)) ∧ Below w.heap.size w w' := by
  obtain ⟨IA, ic, MA, mc, rfl, hi, hm, hc, hd⟩ := hv.open_
  clear hv hi hm
  obtain ⟨R, hR⟩ : ∃ R, jun v = R := ⟨_, rfl⟩
  rw [hR]
  unfold jun at hR
  have F1 : Hid (∀ o, Below w.heap.size w (w.alloc o)) := fun o => (Below.refl _ w).alloc (Nat.le_refl _) o
  have hk : v.kind = 1 ∨ v.kind = 2 ∨ v.kind = 3 ∨ v.kind = 4 ∨ v.kind = 5 ∨ (v.kind ≠ 1 ∧ v.kind ≠ 2 ∧ v.kind ≠ 3 ∧ v.kind ≠ 4 ∧ v.kind ≠ 5) := by omega
  rcases hk with h | h | h | h | h | h
  · have t1 : (v.kind == 1) = true := by rw [h]; rfl
    have t2 : (v.kind == 2) = false := by rw [h]; rfl
    have t3 : (v.kind == 3) = false := by rw [h]; rfl
    have t4 : (v.kind == 4) = false := by rw [h]; rfl
    have t5 : (v.kind == 5) = false := by rw [h]; rfl
    rw [t1, t2, t3, t4, t5] at hR
    clear h
    rcases hn : (v.n == 0) with _ | _
    · rw [hn] at hR
      have HR := Lib.hid hR
      clear hR
      go_enter Tryz.func78, Tryz.ntmps78
      go_wp2_with fail
      go_ret
      exact ⟨ret_bool (by rw [← HR.out]; simp), F1.out _⟩
    · rw [hn] at hR
      rcases hs : v.s.isEmpty with _ | _
      · rw [hs] at hR
        have hs2 : (v.s == []) = false := by cases hx : v.s <;> simp_all
        have HR := Lib.hid hR
        clear hR
        go_enter Tryz.func78, Tryz.ntmps78
        go_wp2_with fail
        go_ret
        exact ⟨ret_bool (by rw [← HR.out]; simp), F1.out _⟩
      · rw [hs] at hR
        have hs2 : (v.s == []) = true := by cases hx : v.s <;> simp_all
        rcases hi : v.items.isEmpty with _ | _
        · rw [hi] at hR
          have hi2 : ((v.items.length : Int) == 0) = false := by rw [isEmpty_len, hi]
          have HR := Lib.hid hR
          clear hR
          go_enter Tryz.func78, Tryz.ntmps78
          go_wp2_with fail
          go_ret
          exact ⟨ret_bool (by rw [← HR.out]; simp), F1.out _⟩
        · rw [hi] at hR
          have hi2 : ((v.items.length : Int) == 0) = true := by rw [isEmpty_len, hi]
          rcases hm : v.mems.isEmpty with _ | _
          · rw [hm] at hR
            have hm2 : ((v.mems.length : Int) == 0) = false := by rw [isEmpty_len, hm]
            have HR := Lib.hid hR
            clear hR
            go_enter Tryz.func78, Tryz.ntmps78
            go_wp2_with fail
            go_ret
            exact ⟨ret_bool (by rw [← HR.out]; simp), F1.out _⟩
          · rw [hm] at hR
            have hm2 : ((v.mems.length : Int) == 0) = true := by rw [isEmpty_len, hm]
            have HR := Lib.hid hR
            clear hR
            go_enter Tryz.func78, Tryz.ntmps78
            go_wp2_with fail
            go_ret
            exact ⟨ret_bool (by rw [← HR.out]; simp), F1.out _⟩
  · have t1 : (v.kind == 1) = false := by rw [h]; rfl
    have t2 : (v.kind == 2) = true := by rw [h]; rfl
    have t3 : (v.kind == 3) = false := by rw [h]; rfl
    have t4 : (v.kind == 4) = false := by rw [h]; rfl
    have t5 : (v.kind == 5) = false := by rw [h]; rfl
    rw [t1, t2, t3, t4, t5] at hR
    clear h
    rcases hb : v.b with _ | _
    · rw [hb] at hR
      rcases hs : v.s.isEmpty with _ | _
      · rw [hs] at hR
        have hs2 : (v.s == []) = false := by cases hx : v.s <;> simp_all
        have HR := Lib.hid hR
        clear hR
        go_enter Tryz.func78, Tryz.ntmps78
        go_wp2_with fail
        go_ret
        exact ⟨ret_bool (by rw [← HR.out]; simp), F1.out _⟩
      · rw [hs] at hR
        have hs2 : (v.s == []) = true := by cases hx : v.s <;> simp_all
        rcases hi : v.items.isEmpty with _ | _
        · rw [hi] at hR
          have hi2 : ((v.items.length : Int) == 0) = false := by rw [isEmpty_len, hi]
          have HR := Lib.hid hR
          clear hR
          go_enter Tryz.func78, Tryz.ntmps78
          go_wp2_with fail
          go_ret
          exact ⟨ret_bool (by rw [← HR.out]; simp), F1.out _⟩
        · rw [hi] at hR
          have hi2 : ((v.items.length : Int) == 0) = true := by rw [isEmpty_len, hi]
          rcases hm : v.mems.isEmpty with _ | _
          · rw [hm] at hR
            have hm2 : ((v.mems.length : Int) == 0) = false := by rw [isEmpty_len, hm]
            have HR := Lib.hid hR
            clear hR
            go_enter Tryz.func78, Tryz.ntmps78
            go_wp2_with fail
            go_ret
            exact ⟨ret_bool (by rw [← HR.out]; simp), F1.out _⟩
          · rw [hm] at hR
            have hm2 : ((v.mems.length : Int) == 0) = true := by rw [isEmpty_len, hm]
            have HR := Lib.hid hR
            clear hR
            go_enter Tryz.func78, Tryz.ntmps78
            go_wp2_with fail
            go_ret
            exact ⟨ret_bool (by rw [← HR.out]; simp), F1.out _⟩
    · rw [hb] at hR
      have HR := Lib.hid hR
      clear hR
      go_enter Tryz.func78, Tryz.ntmps78
      go_wp2_with fail
      go_ret
      exact ⟨ret_bool (by rw [← HR.out]; simp), F1.out _⟩
  · have t1 : (v.kind == 1) = false := by rw [h]; rfl
    have t2 : (v.kind == 2) = false := by rw [h]; rfl
    have t3 : (v.kind == 3) = true := by rw [h]; rfl
    have t4 : (v.kind == 4) = false := by rw [h]; rfl
    have t5 : (v.kind == 5) = false := by rw [h]; rfl
    rw [t1, t2, t3, t4, t5] at hR
    clear h
    rcases hb : v.b with _ | _
    · rw [hb] at hR
      rcases hn : (v.n == 0) with _ | _
      · rw [hn] at hR
        have HR := Lib.hid hR
        clear hR
        go_enter Tryz.func78, Tryz.ntmps78
        go_wp2_with fail
        go_ret
        exact ⟨ret_bool (by rw [← HR.out]; simp), F1.out _⟩
      · rw [hn] at hR
        rcases hi : v.items.isEmpty with _ | _
        · rw [hi] at hR
          have hi2 : ((v.items.length : Int) == 0) = false := by rw [isEmpty_len, hi]
          have HR := Lib.hid hR
          clear hR
          go_enter Tryz.func78, Tryz.ntmps78
          go_wp2_with fail
          go_ret
          exact ⟨ret_bool (by rw [← HR.out]; simp), F1.out _⟩
        · rw [hi] at hR
          have hi2 : ((v.items.length : Int) == 0) = true := by rw [isEmpty_len, hi]
          rcases hm : v.mems.isEmpty with _ | _
          · rw [hm] at hR
            have hm2 : ((v.mems.length : Int) == 0) = false := by rw [isEmpty_len, hm]
            have HR := Lib.hid hR
            clear hR
            go_enter Tryz.func78, Tryz.ntmps78
            go_wp2_with fail
            go_ret
            exact ⟨ret_bool (by rw [← HR.out]; simp), F1.out _⟩
          · rw [hm] at hR
            have hm2 : ((v.mems.length : Int) == 0) = true := by rw [isEmpty_len, hm]
            have HR := Lib.hid hR
            clear hR
            go_enter Tryz.func78, Tryz.ntmps78
            go_wp2_with fail
            go_ret
            exact ⟨ret_bool (by rw [← HR.out]; simp), F1.out _⟩
    · rw [hb] at hR
      have HR := Lib.hid hR
      clear hR
      go_enter Tryz.func78, Tryz.ntmps78
      go_wp2_with fail
      go_ret
      exact ⟨ret_bool (by rw [← HR.out]; simp), F1.out _⟩
  · have t1 : (v.kind == 1) = false := by rw [h]; rfl
    have t2 : (v.kind == 2) = false := by rw [h]; rfl
    have t3 : (v.kind == 3) = false := by rw [h]; rfl
    have t4 : (v.kind == 4) = true := by rw [h]; rfl
    have t5 : (v.kind == 5) = false := by rw [h]; rfl
    rw [t1, t2, t3, t4, t5] at hR
    clear h
    rcases hb : v.b with _ | _
    · rw [hb] at hR
      rcases hn : (v.n == 0) with _ | _
      · rw [hn] at hR
        have HR := Lib.hid hR
        clear hR
        go_enter Tryz.func78, Tryz.ntmps78
        go_wp2_with fail
        go_ret
        exact ⟨ret_bool (by rw [← HR.out]; simp), F1.out _⟩
      · rw [hn] at hR
        rcases hs : v.s.isEmpty with _ | _
        · rw [hs] at hR
          have hs2 : (v.s == []) = false := by cases hx : v.s <;> simp_all
          have HR := Lib.hid hR
          clear hR
          go_enter Tryz.func78, Tryz.ntmps78
          go_wp2_with fail
          go_ret
          exact ⟨ret_bool (by rw [← HR.out]; simp), F1.out _⟩
        · rw [hs] at hR
          have hs2 : (v.s == []) = true := by cases hx : v.s <;> simp_all
          rcases hm : v.mems.isEmpty with _ | _
          · rw [hm] at hR
            have hm2 : ((v.mems.length : Int) == 0) = false := by rw [isEmpty_len, hm]
            have HR := Lib.hid hR
            clear hR
            go_enter Tryz.func78, Tryz.ntmps78
            go_wp2_with fail
            go_ret
            exact ⟨ret_bool (by rw [← HR.out]; simp), F1.out _⟩
          · rw [hm] at hR
            have hm2 : ((v.mems.length : Int) == 0) = true := by rw [isEmpty_len, hm]
            have HR := Lib.hid hR
            clear hR
            go_enter Tryz.func78, Tryz.ntmps78
            go_wp2_with fail
            go_ret
            exact ⟨ret_bool (by rw [← HR.out]; simp), F1.out _⟩
    · rw [hb] at hR
      have HR := Lib.hid hR
      clear hR
      go_enter Tryz.func78, Tryz.ntmps78
      go_wp2_with fail
      go_ret
      exact ⟨ret_bool (by rw [← HR.out]; simp), F1.out _⟩
  · have t1 : (v.kind == 1) = false := by rw [h]; rfl
    have t2 : (v.kind == 2) = false := by rw [h]; rfl
    have t3 : (v.kind == 3) = false := by rw [h]; rfl
    have t4 : (v.kind == 4) = false := by rw [h]; rfl
    have t5 : (v.kind == 5) = true := by rw [h]; rfl
    rw [t1, t2, t3, t4, t5] at hR
    clear h
    rcases hb : v.b with _ | _
    · rw [hb] at hR
      rcases hn : (v.n == 0) with _ | _
      · rw [hn] at hR
        have HR := Lib.hid hR
        clear hR
        go_enter Tryz.func78, Tryz.ntmps78
        go_wp2_with fail
        go_ret
        exact ⟨ret_bool (by rw [← HR.out]; simp), F1.out _⟩
      · rw [hn] at hR
        rcases hs : v.s.isEmpty with _ | _
        · rw [hs] at hR
          have hs2 : (v.s == []) = false := by cases hx : v.s <;> simp_all
          have HR := Lib.hid hR
          clear hR
          go_enter Tryz.func78, Tryz.ntmps78
          go_wp2_with fail
          go_ret
          exact ⟨ret_bool (by rw [← HR.out]; simp), F1.out _⟩
        · rw [hs] at hR
          have hs2 : (v.s == []) = true := by cases hx : v.s <;> simp_all
          rcases hi : v.items.isEmpty with _ | _
          · rw [hi] at hR
            have hi2 : ((v.items.length : Int) == 0) = false := by rw [isEmpty_len, hi]
            have HR := Lib.hid hR
            clear hR
            go_enter Tryz.func78, Tryz.ntmps78
            go_wp2_with fail
            go_ret
            exact ⟨ret_bool (by rw [← HR.out]; simp), F1.out _⟩
          · rw [hi] at hR
            have hi2 : ((v.items.length : Int) == 0) = true := by rw [isEmpty_len, hi]
            have HR := Lib.hid hR
            clear hR
            go_enter Tryz.func78, Tryz.ntmps78
            go_wp2_with fail
            go_ret
            exact ⟨ret_bool (by rw [← HR.out]; simp), F1.out _⟩
    · rw [hb] at hR
      have HR := Lib.hid hR
      clear hR
      go_enter Tryz.func78, Tryz.ntmps78
      go_wp2_with fail
      go_ret
      exact ⟨ret_bool (by rw [← HR.out]; simp), F1.out _⟩
  · have t1 : (v.kind == 1) = false := by rw [beq_eq_false_iff_ne]; exact h.1
    have t2 : (v.kind == 2) = false := by rw [beq_eq_false_iff_ne]; exact h.2.1
    have t3 : (v.kind == 3) = false := by rw [beq_eq_false_iff_ne]; exact h.2.2.1
    have t4 : (v.kind == 4) = false := by rw [beq_eq_false_iff_ne]; exact h.2.2.2.1
    have t5 : (v.kind == 5) = false := by rw [beq_eq_false_iff_ne]; exact h.2.2.2.2
    rw [t1, t2, t3, t4, t5] at hR
    clear h
    rcases hb : v.b with _ | _
    · rw [hb] at hR
      rcases hn : (v.n == 0) with _ | _
      · rw [hn] at hR
        have HR := Lib.hid hR
        clear hR
        go_enter Tryz.func78, Tryz.ntmps78
        go_wp2_with fail
        go_ret
        exact ⟨ret_bool (by rw [← HR.out]; simp), F1.out _⟩
      · rw [hn] at hR
        rcases hs : v.s.isEmpty with _ | _
        · rw [hs] at hR
          have hs2 : (v.s == []) = false := by cases hx : v.s <;> simp_all
          have HR := Lib.hid hR
          clear hR
          go_enter Tryz.func78, Tryz.ntmps78
          go_wp2_with fail
          go_ret
          exact ⟨ret_bool (by rw [← HR.out]; simp), F1.out _⟩
        · rw [hs] at hR
          have hs2 : (v.s == []) = true := by cases hx : v.s <;> simp_all
          rcases hi : v.items.isEmpty with _ | _
          · rw [hi] at hR
            have hi2 : ((v.items.length : Int) == 0) = false := by rw [isEmpty_len, hi]
            have HR := Lib.hid hR
            clear hR
            go_enter Tryz.func78, Tryz.ntmps78
            go_wp2_with fail
            go_ret
            exact ⟨ret_bool (by rw [← HR.out]; simp), F1.out _⟩
          · rw [hi] at hR
            have hi2 : ((v.items.length : Int) == 0) = true := by rw [isEmpty_len, hi]
            rcases hm : v.mems.isEmpty with _ | _
            · rw [hm] at hR
              have hm2 : ((v.mems.length : Int) == 0) = false := by rw [isEmpty_len, hm]
              have HR := Lib.hid hR
              clear hR
              go_enter Tryz.func78, Tryz.ntmps78
              go_wp2_with fail
              go_ret
              exact ⟨ret_bool (by rw [← HR.out]; simp), F1.out _⟩
            · rw [hm] at hR
              have hm2 : ((v.mems.length : Int) == 0) = true := by rw [isEmpty_len, hm]
              have HR := Lib.hid hR
              clear hR
              go_enter Tryz.func78, Tryz.ntmps78
              go_wp2_with fail
              go_ret
              exact ⟨ret_bool (by rw [← HR.out]; simp), F1.out _⟩
    · rw [hb] at hR
      have HR := Lib.hid hR
      clear hR
      go_enter Tryz.func78, Tryz.ntmps78
      go_wp2_with fail
      go_ret
      exact ⟨ret_bool (by rw [← HR.out]; simp), F1.out _⟩
end Go.Proofs.YtadkgjbidhfefaaGreatDoor
