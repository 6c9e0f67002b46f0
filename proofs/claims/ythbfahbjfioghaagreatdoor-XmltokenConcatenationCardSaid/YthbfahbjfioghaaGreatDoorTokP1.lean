/-
  Walks of chapter 6: the program's small functions over a position.
-/
import Derived.Test.YthbfahbjfioghaaGreatDoorName2
import Derived.Test.YthbfahbjfioghaaGreatDoorPl06
import Derived.Test.YthbfahbjfioghaaGreatDoorShelf
set_option linter.unusedVariables false
namespace Go.Proofs.YthbfahbjfioghaaGreatDoor
open Go.RowKit

set_option maxHeartbeats 1000000 in
theorem curAccept_any (b : Nat) (l : Bytes) (n : Nat) (ea er : Int) (t : Bytes) (w : World) (hC : Cur w b l n ea er) (hn : n ≤ l.length) (hl : l.length ≤ 4611686018427387904) :
    Calls Tryz.prog 41 #[.pointer (some ⟨b, 0, none⟩), .string (S t)] w fun e w' =>
      e = .returned (.bool (Lib.hasPrefix (l.drop n) t)) ∧ Cur w' b l (if Lib.hasPrefix (l.drop n) t = true then n + t.length else n : Nat) ea er ∧ Upd b w w' := by
  have hp := fun w => Tryz.strings_HasPrefix (S (l.drop n)) (S t) w
  rw [S_data, S_data] at hp
  have ht : Lib.hasPrefix (l.drop n) t = true → n + t.length ≤ l.length := by
    intro h
    have := (List.isPrefixOf_iff_prefix.1 h).length_le
    rw [List.length_drop] at this
    omega
  generalize Lib.hasPrefix (l.drop n) t = ok at *
  have HP := Lib.hid hp
  have HC := Lib.hid hC
  have c0 := hC.c0
  have c1 := hC.c1
  have f1 := hC.free 1
  clear hp hC
  cases ok
  · clear ht
    go_enter Tryz.func41, Tryz.ntmps41
    go_wp2_with fail
    go_region_with (go_at_call 19; refine (HP.out _).mono ?_; rintro e w' ⟨rfl, rfl⟩)
    all_goals (go_wp2_with fail)
    all_goals go_ret
    all_goals exact ⟨rfl, HC.out.drew, (Upd.refl _ _).drew⟩
  · have h1 := ht rfl
    clear ht
    go_enter Tryz.func41, Tryz.ntmps41
    go_wp2_with fail
    go_region_with (go_at_call 19; refine (HP.out _).mono ?_; rintro e w' ⟨rfl, rfl⟩)
    all_goals (go_wp2_with fail)
    all_goals go_ret
    all_goals exact ⟨rfl, HC.out.drew.move _, ((Upd.refl _ _).drew).trans (Upd.set_ _ _ _ _)⟩

/-- The table's cell that the library's search reads. -/
def MaxLen (m : Int) (w : World) : Prop := w.cell? ⟨0, 0, none⟩ = some (.int .i64 m)
/-- What until returns: what stands ahead of t, and whether t stands there. -/
def untlS (t l : Bytes) : Bytes × Bool := match findS t l with | none => (l, false) | some j => (l.take j, true)
def untlN (t l : Bytes) : Nat := match findS t l with | none => 0 | some j => j + t.length
theorem drewN_upd (b : Nat) (w : World) (k : Nat) : Upd b w (w.drewN k) := by
  induction k with
  | zero => exact Upd.refl _ _
  | succ k ih => exact ih.drew
theorem Cur.drewN {w : World} {b : Nat} {l : Bytes} {n ea er : Int} (h : Cur w b l n ea er) (k : Nat) : Cur (w.drewN k) b l n ea er := by
  induction k with
  | zero => exact h
  | succ k ih => exact ih.drew
set_option maxHeartbeats 1000000 in
theorem curUntil_any (b : Nat) (l : Bytes) (n : Nat) (ea er : Int) (t : Bytes) (m : Int) (w : World) (hM : MaxLen m w) (hC : Cur w b l n ea er) (hn : n ≤ l.length) (hl : l.length < 4294967281) :
    Calls Tryz.prog 70 #[.pointer (some ⟨b, 0, none⟩), .string (S t)] w fun e w' =>
      e = .returned (.tuple #[.string (S (untlS t (l.drop n)).1), .bool (untlS t (l.drop n)).2]) ∧ Cur w' b l (n + untlN t (l.drop n) : Nat) ea er ∧ Upd b w w' := by
  have hp := fun w => Tryz.strings_Cut (S (l.drop n)) (S t) m w (by show (l.drop n).toArray.size < _; simp; omega)
  rw [S_data, S_data, cut_find] at hp
  have hj : ∀ j, findS t (l.drop n) = some j → n + j + t.length ≤ l.length := by
    intro j h
    have := findS_le h
    rw [List.length_drop] at this
    omega
  unfold untlS untlN
  generalize findS t (l.drop n) = o at *
  have HC := Lib.hid hC
  have c0 := hC.c0
  have c1 := hC.c1
  have f1 := hC.free 1
  clear hC
  cases o with
  | none =>
    clear hj
    have HP := Lib.hid (hp w.drew hM)
    clear hp hM
    go_enter Tryz.func70, Tryz.ntmps70
    go_wp2_with fail
    go_region_with (go_at_call 100; refine HP.out.mono ?_; rintro e w' ⟨rfl, kk, rfl⟩)
    all_goals (go_wp2_with fail)
    all_goals go_ret2
    all_goals exact ⟨rfl, HC.out.drewN _, drewN_upd _ _ _⟩
  | some j =>
    have h1 := hj j rfl
    have HP := Lib.hid (hp w.drew hM)
    clear hj hp hM
    go_enter Tryz.func70, Tryz.ntmps70
    go_wp2_with fail
    go_region_with (go_at_call 100; refine HP.out.mono ?_; rintro e w' ⟨rfl, kk, rfl⟩)
    all_goals (go_wp2_with fail)
    all_goals go_ret2
    all_goals
      refine ⟨rfl, ?_, (drewN_upd _ _ _).trans (Upd.set_ _ _ _ _)⟩
      rw [show ((n + (j + t.length) : Nat) : Int) = (n : Int) + (((min j (l.length - n) : Nat) : Int) + (t.length : Int)) by omega]
      exact (HC.out.drewN _).move _
end Go.Proofs.YthbfahbjfioghaaGreatDoor
