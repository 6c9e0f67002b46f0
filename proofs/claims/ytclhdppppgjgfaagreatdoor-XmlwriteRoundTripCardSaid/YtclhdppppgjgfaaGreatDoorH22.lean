/-
  Several texts in one file, in build order:
  - Walk of chapter 7's reference: the comparison of two trees.
-/
import Derived.Test.YtclhdppppgjgfaaGreatDoorH4
import Derived.WalkSpells
import Derived.WalkLawsBesides
import Derived.StillTailTactics
set_option linter.unusedVariables false
namespace Go.Proofs.YtclhdppppgjgfaaGreatDoor
open Go.RowKit

set_option maxHeartbeats 2000000 in
set_option maxRecDepth 100000 in
theorem refEqual_no (o : Bool) (n m : Node) (v u : Value) (w : World) (hv : NodeV w w.heap.size n v) (hu : NodeV w w.heap.size m u) (hne : headEqv o n m = false)
    (hl1 : n.attrs.length ≤ 4611686018427387904) (hl2 : m.attrs.length ≤ 4611686018427387904) (hl3 : n.kids.length ≤ 4611686018427387904) (hl4 : m.kids.length ≤ 4611686018427387904) :
    Calls Tryz.prog 14 #[v, u, .bool o] w fun e w' => e = .returned (.bool false) ∧ Below w.heap.size w w' := by
  obtain ⟨A, c, K, d, rfl, ha, hk, hc, hd⟩ := hv.open_
  obtain ⟨A', c', K', d', rfl, ha', hk', hc', hd'⟩ := hu.open_
  clear hv hu ha hk ha' hk'
  unfold headEqv at hne
  have fin : ∀ w : World, Below w.heap.size w ((w.alloc (nodeBox n A c K d)).alloc (nodeBox m A' c' K' d')) := fun w => ((Below.refl _ _).alloc (Nat.le_refl _) _).alloc (by simp) _
  have FIN := Lib.hid fin
  clear fin
  have e6 : ((n.attrs.length : Int) == (m.attrs.length : Int)) = (n.attrs.length == m.attrs.length) := by rw [Bool.eq_iff_iff]; simp; omega
  have e7 : ((n.kids.length : Int) == (m.kids.length : Int)) = (n.kids.length == m.kids.length) := by rw [Bool.eq_iff_iff]; simp; omega
  rw [← e6, ← e7] at hne
  have HNE := Lib.hid hne
  clear hne e6 e7
  rcases tk : (n.kind == m.kind) with _ | _
  · have uk : (n.kind != m.kind) = true := by rw [bne, tk]; rfl
    go_enter Tryz.func14, Tryz.ntmps14
    go_wp2_with fail
    go_ret
    exact ⟨rfl, FIN.out _⟩
  · have uk : (n.kind != m.kind) = false := by rw [bne, tk]; rfl
    rcases ts : (n.space == m.space) with _ | _
    · have us : (n.space != m.space) = true := by rw [bne, ts]; rfl
      go_enter Tryz.func14, Tryz.ntmps14
      go_wp2_with fail
      go_ret
      exact ⟨rfl, FIN.out _⟩
    · have us : (n.space != m.space) = false := by rw [bne, ts]; rfl
      rcases tnm : (n.name == m.name) with _ | _
      · have unm : (n.name != m.name) = true := by rw [bne, tnm]; rfl
        go_enter Tryz.func14, Tryz.ntmps14
        go_wp2_with fail
        go_ret
        exact ⟨rfl, FIN.out _⟩
      · have unm : (n.name != m.name) = false := by rw [bne, tnm]; rfl
        rcases tt : (n.text == m.text) with _ | _
        · have ut : (n.text != m.text) = true := by rw [bne, tt]; rfl
          go_enter Tryz.func14, Tryz.ntmps14
          go_wp2_with fail
          go_ret
          exact ⟨rfl, FIN.out _⟩
        · have ut : (n.text != m.text) = false := by rw [bne, tt]; rfl
          cases o
          · skip
            rcases ta : ((n.attrs.length : Int) == (m.attrs.length : Int)) with _ | _
            · have ua : ((n.attrs.length : Int) != (m.attrs.length : Int)) = true := by rw [bne, ta]; rfl
              go_enter Tryz.func14, Tryz.ntmps14
              go_wp2_with fail
              go_ret
              exact ⟨rfl, FIN.out _⟩
            · have ua : ((n.attrs.length : Int) != (m.attrs.length : Int)) = false := by rw [bne, ta]; rfl
              rcases tc : ((n.kids.length : Int) == (m.kids.length : Int)) with _ | _
              · have uc : ((n.kids.length : Int) != (m.kids.length : Int)) = true := by rw [bne, tc]; rfl
                go_enter Tryz.func14, Tryz.ntmps14
                go_wp2_with fail
                go_ret
                exact ⟨rfl, FIN.out _⟩
              · have uc : ((n.kids.length : Int) != (m.kids.length : Int)) = false := by rw [bne, tc]; rfl
                exact absurd HNE.out (by simp [tk, ts, tnm, tt, ta, tc])
          · skip
            rcases tp : (n.pos == m.pos) with _ | _
            · have up : (n.pos != m.pos) = true := by rw [bne, tp]; rfl
              go_enter Tryz.func14, Tryz.ntmps14
              go_wp2_with fail
              go_ret
              exact ⟨rfl, FIN.out _⟩
            · have up : (n.pos != m.pos) = false := by rw [bne, tp]; rfl
              rcases ta : ((n.attrs.length : Int) == (m.attrs.length : Int)) with _ | _
              · have ua : ((n.attrs.length : Int) != (m.attrs.length : Int)) = true := by rw [bne, ta]; rfl
                go_enter Tryz.func14, Tryz.ntmps14
                go_wp2_with fail
                go_ret
                exact ⟨rfl, FIN.out _⟩
              · have ua : ((n.attrs.length : Int) != (m.attrs.length : Int)) = false := by rw [bne, ta]; rfl
                rcases tc : ((n.kids.length : Int) == (m.kids.length : Int)) with _ | _
                · have uc : ((n.kids.length : Int) != (m.kids.length : Int)) = true := by rw [bne, tc]; rfl
                  go_enter Tryz.func14, Tryz.ntmps14
                  go_wp2_with fail
                  go_ret
                  exact ⟨rfl, FIN.out _⟩
                · have uc : ((n.kids.length : Int) != (m.kids.length : Int)) = false := by rw [bne, tc]; rfl
                  exact absurd HNE.out (by simp [tk, ts, tnm, tt, tp, ta, tc])

theorem headEqv_true {o : Bool} {n m : Node} (h : headEqv o n m = true) : (n.kind == m.kind) = true ∧ (n.space == m.space) = true ∧ (n.name == m.name) = true ∧ (n.text == m.text) = true ∧ (o = true → (n.pos == m.pos) = true) ∧ n.attrs.length = m.attrs.length ∧ n.kids.length = m.kids.length := by
  unfold headEqv at h
  simp only [Bool.and_eq_true, Bool.or_eq_true, Bool.not_eq_true'] at h
  obtain ⟨⟨⟨⟨⟨⟨h1, h2⟩, h3⟩, h4⟩, h5⟩, h6⟩, h7⟩ := h
  exact ⟨h1, h2, h3, h4, fun e => h5.resolve_left (by rw [e]; decide), eq_of_beq h6, eq_of_beq h7⟩

end Go.Proofs.YtclhdppppgjgfaaGreatDoor
