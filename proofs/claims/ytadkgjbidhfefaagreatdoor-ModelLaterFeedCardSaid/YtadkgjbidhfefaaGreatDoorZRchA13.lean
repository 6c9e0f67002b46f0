/-
  Walks of chapter 13: Check of an archive (both).
-/
import Derived.Test.YtadkgjbidhfefaaGreatDoorF4
import Derived.Test.YtadkgjbidhfefaaGreatDoorZOrdf13
set_option linter.unusedVariables false
set_option linter.unusedSimpArgs false
namespace Go.Proofs.YtadkgjbidhfefaaGreatDoor
open Go.RowKit

set_option maxHeartbeats 1000000 in
set_option maxRecDepth 100000 in
theorem checkA_any (l : List Fe) (u : Value) (w : World) (hT : TabJ w) (h : ElsP feeE w (· < w.heap.size) u l) (hl : l.length ≤ 1000000000000) (hs : ∀ f ∈ l, FSz f) :
    Calls Tryz.prog 14 #[.agg #[u]] w fun x w' => x = .returned (.int .i64 (er13 (ordFs l))) ∧ Below w.heap.size w w' := by
  have hA0 : Below w.heap.size w (w.alloc (.cells #[u] 35)) := (Below.refl _ _).alloc (Nat.le_refl _) _
  have hor := orderedF_any l u (w.alloc (.cells #[u] 35)) (hT.next hA0) (h.keep feeE_ok hA0.block (fun k hk => Nat.lt_of_lt_of_le hk hA0.size)) hl hs
  obtain ⟨FA, fc, rfl, _⟩ := h.slice
  have HOR := Lib.hid hor
  have HA0 := Lib.hid hA0
  have HCK := Lib.hid (fun b W => checked_any b W)
  clear hor hA0 hT h hs
  generalize ordFs l = R at *
  go_enter Tryz.func14, Tryz.ntmps14
  go_wp2_with (first
    | (go_at_call 36; refine HOR.out.mono ?_; rintro x w1 ⟨rfl, hb1⟩)
    | (go_at_call 35; refine (HCK.out _ _).mono ?_; rintro x w1 ⟨rfl, rfl⟩))
  go_ret
  exact ⟨rfl, HA0.out.trans (hb1.mono (by simp))⟩
end Go.Proofs.YtadkgjbidhfefaaGreatDoor
