/-
  Walk of chapter 6: the program's fail.
-/
import Derived.Test.YthbfahbjfioghaaGreatDoorName2
set_option linter.unusedVariables false
namespace Go.Proofs.YthbfahbjfioghaaGreatDoor
open Go.RowKit

theorem Cur.err {w : World} {b : Nat} {l : Bytes} {n ea er : Int} (h : Cur w b l n ea er) (x y : Int) : Cur ((w.setCell ⟨b, 2, none⟩ (.int .i64 x)).setCell ⟨b, 3, none⟩ (.int .i64 y)) b l n x y := by
  unfold Cur at h ⊢
  simp [World.setCell, Array.getElem?_modify, h]
set_option maxHeartbeats 1000000 in
theorem curFail_any (b : Nat) (l : Bytes) (n ea er x y : Int) (w : World) (hC : Cur w b l n ea er) :
    Calls Tryz.prog 72 #[.pointer (some ⟨b, 0, none⟩), .int .i64 x, .int .i64 y] w fun e w' =>
      e = .returned (.tuple #[]) ∧ Cur w' b l n (if er = 0 then x else ea) (if er = 0 then y else er) ∧ Upd b w w' := by
  have HC := Lib.hid hC
  have c2 := hC.c2
  have c3 := hC.c3
  have f2 := hC.free 2
  have f3 := hC.free 3
  have f4 : (w.setCell ⟨b, 2, none⟩ (.int .i64 x)).frozen? ⟨b, 3, none⟩ = false := (World.frozen?_setCell _ _ _ _).trans f3
  have f5 : (w.setCell ⟨b, 3, none⟩ (.int .i64 y)).frozen? ⟨b, 2, none⟩ = false := (World.frozen?_setCell _ _ _ _).trans f2
  clear hC
  by_cases h : er = 0
  · subst h
    go_enter Tryz.func72, Tryz.ntmps72
    go_wp2
    all_goals go_end0
    all_goals exact ⟨rfl, HC.out.err _ _, (Upd.set_ _ _ _ _).trans (Upd.set_ _ _ _ _)⟩
  · have t : (er == 0) = false := by rw [beq_eq_false_iff_ne]; exact h
    rw [if_neg h, if_neg h]
    clear h
    go_enter Tryz.func72, Tryz.ntmps72
    go_wp2
    all_goals go_end0
    exact ⟨rfl, HC.out, Upd.refl _ _⟩
end Go.Proofs.YthbfahbjfioghaaGreatDoor
