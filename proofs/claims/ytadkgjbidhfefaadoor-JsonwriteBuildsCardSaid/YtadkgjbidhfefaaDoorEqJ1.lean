/-
  Walk of chapter 11's reference: the comparison of two values whose heads differ. Written by gen_eqj.py.
-/
import Derived.Test.YtadkgjbidhfefaaDoorRefJ2
set_option linter.unusedVariables false
namespace Go.Proofs.YtadkgjbidhfefaaDoor
open Go.RowKit

set_option maxHeartbeats 4000000 in
set_option maxRecDepth 100000 in
theorem refEqual11_no (o : Bool) (v m : JV) (x u : Value) (w : World) (hv : ValV w (· < w.heap.size) v x) (hu : ValV w (· < w.heap.size) m u) (hne : jhEq o v m = false) :
    Calls Tryd.prog 20 #[x, u, .bool o] w fun e w' => e = .returned (.bool false) ∧ Below w.heap.size w w' := by
  obtain ⟨A, c, K, d, rfl, ha, hk, hc, hd⟩ := hv.open_
  obtain ⟨A', c', K', d', rfl, ha', hk', hc', hd'⟩ := hu.open_
  clear hv hu ha hk ha' hk'
  have fin : ∀ w : World, Below w.heap.size w ((w.alloc (valBox v A c K d)).alloc (valBox m A' c' K' d')) := fun w => ((Below.refl _ _).alloc (Nat.le_refl _) _).alloc (by simp) _
  have FIN := Lib.hid fin
  clear fin
  unfold jhEq at hne
  have e6 : ((v.items.length : Int) == (m.items.length : Int)) = (v.items.length == m.items.length) := by rw [Bool.eq_iff_iff]; simp; omega
  have e7 : ((v.mems.length : Int) == (m.mems.length : Int)) = (v.mems.length == m.mems.length) := by rw [Bool.eq_iff_iff]; simp; omega
  rw [← e6, ← e7] at hne
  have HNE := Lib.hid hne
  clear hne e6 e7
  rcases tk : (v.kind == m.kind) with _ | _
  · have uk : (v.kind != m.kind) = true := by rw [bne, tk]; rfl
    go_enter Tryd.func20, Tryd.ntmps20
    go_wp2_with fail
    go_ret
    exact ⟨rfl, FIN.out _⟩
  · have uk : (v.kind != m.kind) = false := by rw [bne, tk]; rfl
    rcases tb : (v.b == m.b) with _ | _
    · have ub : (v.b != m.b) = true := by rw [bne, tb]; rfl
      go_enter Tryd.func20, Tryd.ntmps20
      go_wp2_with fail
      go_ret
      exact ⟨rfl, FIN.out _⟩
    · have ub : (v.b != m.b) = false := by rw [bne, tb]; rfl
      rcases tn : (v.n == m.n) with _ | _
      · have un : (v.n != m.n) = true := by rw [bne, tn]; rfl
        go_enter Tryd.func20, Tryd.ntmps20
        go_wp2_with fail
        go_ret
        exact ⟨rfl, FIN.out _⟩
      · have un : (v.n != m.n) = false := by rw [bne, tn]; rfl
        rcases ts : (v.s == m.s) with _ | _
        · have us : (v.s != m.s) = true := by rw [bne, ts]; rfl
          go_enter Tryd.func20, Tryd.ntmps20
          go_wp2_with fail
          go_ret
          exact ⟨rfl, FIN.out _⟩
        · have us : (v.s != m.s) = false := by rw [bne, ts]; rfl
          cases o
          · skip
            rcases ti : ((v.items.length : Int) == (m.items.length : Int)) with _ | _
            · have ui : ((v.items.length : Int) != (m.items.length : Int)) = true := by rw [bne, ti]; rfl
              go_enter Tryd.func20, Tryd.ntmps20
              go_wp2_with fail
              go_ret
              exact ⟨rfl, FIN.out _⟩
            · have ui : ((v.items.length : Int) != (m.items.length : Int)) = false := by rw [bne, ti]; rfl
              rcases tj : ((v.mems.length : Int) == (m.mems.length : Int)) with _ | _
              · have uj : ((v.mems.length : Int) != (m.mems.length : Int)) = true := by rw [bne, tj]; rfl
                go_enter Tryd.func20, Tryd.ntmps20
                go_wp2_with fail
                go_ret
                exact ⟨rfl, FIN.out _⟩
              · have uj : ((v.mems.length : Int) != (m.mems.length : Int)) = false := by rw [bne, tj]; rfl
                exact absurd HNE.out (by simp [tk, tb, tn, ts, ti, tj])
          · skip
            rcases tp : (v.pos == m.pos) with _ | _
            · have up : (v.pos != m.pos) = true := by rw [bne, tp]; rfl
              go_enter Tryd.func20, Tryd.ntmps20
              go_wp2_with fail
              go_ret
              exact ⟨rfl, FIN.out _⟩
            · have up : (v.pos != m.pos) = false := by rw [bne, tp]; rfl
              rcases ti : ((v.items.length : Int) == (m.items.length : Int)) with _ | _
              · have ui : ((v.items.length : Int) != (m.items.length : Int)) = true := by rw [bne, ti]; rfl
                go_enter Tryd.func20, Tryd.ntmps20
                go_wp2_with fail
                go_ret
                exact ⟨rfl, FIN.out _⟩
              · have ui : ((v.items.length : Int) != (m.items.length : Int)) = false := by rw [bne, ti]; rfl
                rcases tj : ((v.mems.length : Int) == (m.mems.length : Int)) with _ | _
                · have uj : ((v.mems.length : Int) != (m.mems.length : Int)) = true := by rw [bne, tj]; rfl
                  go_enter Tryd.func20, Tryd.ntmps20
                  go_wp2_with fail
                  go_ret
                  exact ⟨rfl, FIN.out _⟩
                · have uj : ((v.mems.length : Int) != (m.mems.length : Int)) = false := by rw [bne, tj]; rfl
                  exact absurd HNE.out (by simp [tk, tb, tn, ts, tp, ti, tj])
end Go.Proofs.YtadkgjbidhfefaaDoor
