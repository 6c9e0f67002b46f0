/-
  Walk of chapter 9: the reference's valid, at an element.
-/
import Derived.Test.YthilaolkkamedaaDoorRefV1
import Derived.Test.YthilaolkkamedaaDoorSpec11
set_option linter.unusedVariables false
namespace Go.Proofs.YthilaolkkamedaaDoor
open Go.RowKit

set_option maxHeartbeats 4000000 in
set_option maxRecDepth 200000 in
/-- An element whose head is amiss. -/
theorem refValid_head (n : Node) (v : Value) (w : World) (hk1 : ¬ n.kind = 1) (hs : full n ≤ 1000000) (hv : NodeV w w.heap.size n v) (hh : (n.kind == 0 && n.space == [] && n.text == [] && isQName n.name) = false) :
    Calls Tryd.prog 29 #[v] w fun e w' => e = .returned (.bool false) ∧ Below w.heap.size w w' := by
  obtain ⟨A, cap, K, kcap, rfl, ha, hkk, hcap, hkcap⟩ := hv.open_
  have hpn : n.name.length < 1000000 := (parts n hs).name
  have hq := fun W => refIsQName_any n.name W (by omega)
  obtain ⟨k, s, nm, ats, ks, t, p⟩ := n
  simp only [Node.kind, Node.space, Node.name, Node.attrs, Node.kids, Node.text, Node.pos] at *
  have t1 : (k == 1) = false := by rw [beq_eq_false_iff_ne]; exact hk1
  have F1 : Hid (∀ o, Below w.heap.size w (w.alloc o)) := fun o => (Below.refl _ _).alloc (Nat.le_refl _) o
  clear ha hkk hs hv hk1
  by_cases h1 : k = 0
  · subst h1
    by_cases h3 : s = []
    · subst h3
      by_cases h4 : t = []
      · subst h4
        have h5 : isQName nm = false := by simpa using hh
        rw [h5] at hq
        have HQ := Lib.hid hq
        clear hq hh h5
        go_enter Tryd.func29, Tryd.ntmps29
        go_wp2_with (go_at_call 38; refine (HQ.out _).mono ?_; rintro e w1 ⟨rfl, hb1⟩)
        go_ret
        exact ⟨rfl, (F1.out _).trans (hb1.mono (by simp))⟩
      · have e4 : List.isEmpty t = false := by cases t with
          | nil => exact (h4 rfl).elim
          | cons a l => rfl
        clear hq hh
        go_enter Tryd.func29, Tryd.ntmps29
        go_wp2_with fail
        go_ret
        exact ⟨rfl, F1.out _⟩
    · have e3 : List.isEmpty s = false := by cases s with
        | nil => exact (h3 rfl).elim
        | cons a l => rfl
      clear hq hh
      go_enter Tryd.func29, Tryd.ntmps29
      go_wp2_with fail
      go_ret
      exact ⟨rfl, F1.out _⟩
  · have t0 : (k == 0) = false := by rw [beq_eq_false_iff_ne]; exact h1
    have t2 : (k != 0) = true := by rw [bne, t0]; rfl
    clear hq hh h1
    go_enter Tryd.func29, Tryd.ntmps29
    go_wp2_with fail
    go_ret
    exact ⟨rfl, F1.out _⟩
end Go.Proofs.YthilaolkkamedaaDoor
