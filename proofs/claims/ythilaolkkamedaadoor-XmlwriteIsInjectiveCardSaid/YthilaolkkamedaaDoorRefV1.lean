/-
  Walk of chapter 9: the reference's valid, at character data.
-/
import Derived.Test.YthilaolkkamedaaDoorRefW1
set_option linter.unusedVariables false
namespace Go.Proofs.YthilaolkkamedaaDoor
open Go.RowKit

/-- What the reference asks of a node within a tree. -/
def rvl (n : Node) : Bool := if n.kind == 1 then dataOk n else vld false n 0

set_option maxHeartbeats 4000000 in
set_option maxRecDepth 200000 in
theorem refValid_text (n : Node) (v : Value) (w : World) (hk1 : n.kind = 1) (hs : full n ≤ 1000000) (hv : NodeV w w.heap.size n v) :
    Calls Tryd.prog 29 #[v] w fun e w' => e = .returned (.bool (dataOk n)) ∧ Below w.heap.size w w' := by
  obtain ⟨A, cap, K, kcap, rfl, ha, hkk, hcap, hkcap⟩ := hv.open_
  have hpt : n.text.length < 1000000 := (parts n hs).text
  have hch := fun W => refChars_any n.text W (by omega)
  obtain ⟨k, s, nm, ats, ks, t, p⟩ := n
  simp only [Node.kind, Node.space, Node.name, Node.attrs, Node.kids, Node.text, Node.pos] at *
  subst hk1
  have hd : dataOk (.mk 1 s nm ats ks t p) = (t != [] && charsOk t && s == [] && nm == [] && ats.length == 0 && ks.length == 0) := rfl
  generalize dataOk (.mk 1 s nm ats ks t p) = E at *
  have F1 : Hid (∀ o, Below w.heap.size w (w.alloc o)) := fun o => (Below.refl _ _).alloc (Nat.le_refl _) o
  clear ha hkk hs hv
  by_cases g1 : t = []
  · subst g1
    have hF : E = false := by rw [hd]; rfl
    have HF := Lib.hid hF
    clear hF hd hch
    go_enter Tryd.func29, Tryd.ntmps29
    go_wp2_with fail
    go_ret
    exact ⟨ret_bool HF.out.symm, F1.out _⟩
  · have e0 : List.isEmpty t = false := by cases t with
      | nil => exact (g1 rfl).elim
      | cons a l => rfl
    cases g2 : charsOk t
    · rw [g2] at hch hd
      have HC := Lib.hid hch
      clear hch g2
      have hF : E = false := by rw [hd]; simp
      have HF := Lib.hid hF
      clear hF hd
      go_enter Tryd.func29, Tryd.ntmps29
      go_wp2_with (go_at_call 37; refine (HC.out _).mono ?_; rintro e w1 ⟨rfl, hb1⟩; have k1 := hb1.cell (p := ⟨w.heap.size, 1, none⟩) (by simp); have k2 := hb1.cell (p := ⟨w.heap.size, 2, none⟩) (by simp); have k3 := hb1.cell (p := ⟨w.heap.size, 3, none⟩) (by simp); have k4 := hb1.cell (p := ⟨w.heap.size, 4, none⟩) (by simp))
      go_ret
      exact ⟨ret_bool HF.out.symm, (F1.out _).trans (hb1.mono (by simp))⟩
    · rw [g2] at hch hd
      have HC := Lib.hid hch
      clear hch g2
      by_cases g3 : s = []
      · subst g3
        by_cases g4 : nm = []
        · subst g4
          by_cases g5 : ats.length = 0
          · have t5 : (((ats.length : Nat) : Int) == 0) = true := by rw [g5]; rfl
            by_cases g6 : ks.length = 0
            · have t6 : (((ks.length : Nat) : Int) == 0) = true := by rw [g6]; rfl
              have hF : E = true := by rw [hd, g5, g6]; simp [g1]
              have HF := Lib.hid hF
              clear hF hd g5 g6 g1
              go_enter Tryd.func29, Tryd.ntmps29
              go_wp2_with (go_at_call 37; refine (HC.out _).mono ?_; rintro e w1 ⟨rfl, hb1⟩; have k1 := hb1.cell (p := ⟨w.heap.size, 1, none⟩) (by simp); have k2 := hb1.cell (p := ⟨w.heap.size, 2, none⟩) (by simp); have k3 := hb1.cell (p := ⟨w.heap.size, 3, none⟩) (by simp); have k4 := hb1.cell (p := ⟨w.heap.size, 4, none⟩) (by simp))
              go_ret
              exact ⟨ret_bool HF.out.symm, (F1.out _).trans (hb1.mono (by simp))⟩
            · have t6 : (((ks.length : Nat) : Int) == 0) = false := by rw [beq_eq_false_iff_ne]; omega
              have hF : E = false := by rw [hd, show (ks.length == 0) = false from by rw [beq_eq_false_iff_ne]; omega]; simp
              have HF := Lib.hid hF
              clear hF hd g5 g6 g1
              go_enter Tryd.func29, Tryd.ntmps29
              go_wp2_with (go_at_call 37; refine (HC.out _).mono ?_; rintro e w1 ⟨rfl, hb1⟩; have k1 := hb1.cell (p := ⟨w.heap.size, 1, none⟩) (by simp); have k2 := hb1.cell (p := ⟨w.heap.size, 2, none⟩) (by simp); have k3 := hb1.cell (p := ⟨w.heap.size, 3, none⟩) (by simp); have k4 := hb1.cell (p := ⟨w.heap.size, 4, none⟩) (by simp))
              go_ret
              exact ⟨ret_bool HF.out.symm, (F1.out _).trans (hb1.mono (by simp))⟩
          · have t5 : (((ats.length : Nat) : Int) == 0) = false := by rw [beq_eq_false_iff_ne]; omega
            have hF : E = false := by rw [hd, show (ats.length == 0) = false from by rw [beq_eq_false_iff_ne]; omega]; simp
            have HF := Lib.hid hF
            clear hF hd g5 g1
            go_enter Tryd.func29, Tryd.ntmps29
            go_wp2_with (go_at_call 37; refine (HC.out _).mono ?_; rintro e w1 ⟨rfl, hb1⟩; have k1 := hb1.cell (p := ⟨w.heap.size, 1, none⟩) (by simp); have k2 := hb1.cell (p := ⟨w.heap.size, 2, none⟩) (by simp); have k3 := hb1.cell (p := ⟨w.heap.size, 3, none⟩) (by simp); have k4 := hb1.cell (p := ⟨w.heap.size, 4, none⟩) (by simp))
            go_ret
            exact ⟨ret_bool HF.out.symm, (F1.out _).trans (hb1.mono (by simp))⟩
        · have e4 : List.isEmpty nm = false := by cases nm with
            | nil => exact (g4 rfl).elim
            | cons a l => rfl
          have hF : E = false := by rw [hd]; simp [g4]
          have HF := Lib.hid hF
          clear hF hd g4 g1
          go_enter Tryd.func29, Tryd.ntmps29
          go_wp2_with (go_at_call 37; refine (HC.out _).mono ?_; rintro e w1 ⟨rfl, hb1⟩; have k1 := hb1.cell (p := ⟨w.heap.size, 1, none⟩) (by simp); have k2 := hb1.cell (p := ⟨w.heap.size, 2, none⟩) (by simp); have k3 := hb1.cell (p := ⟨w.heap.size, 3, none⟩) (by simp); have k4 := hb1.cell (p := ⟨w.heap.size, 4, none⟩) (by simp))
          go_ret
          exact ⟨ret_bool HF.out.symm, (F1.out _).trans (hb1.mono (by simp))⟩
      · have e3 : List.isEmpty s = false := by cases s with
          | nil => exact (g3 rfl).elim
          | cons a l => rfl
        have hF : E = false := by rw [hd]; simp [g3]
        have HF := Lib.hid hF
        clear hF hd g3 g1
        go_enter Tryd.func29, Tryd.ntmps29
        go_wp2_with (go_at_call 37; refine (HC.out _).mono ?_; rintro e w1 ⟨rfl, hb1⟩; have k1 := hb1.cell (p := ⟨w.heap.size, 1, none⟩) (by simp); have k2 := hb1.cell (p := ⟨w.heap.size, 2, none⟩) (by simp); have k3 := hb1.cell (p := ⟨w.heap.size, 3, none⟩) (by simp); have k4 := hb1.cell (p := ⟨w.heap.size, 4, none⟩) (by simp))
        go_ret
        exact ⟨ret_bool HF.out.symm, (F1.out _).trans (hb1.mono (by simp))⟩
end Go.Proofs.YthilaolkkamedaaDoor
