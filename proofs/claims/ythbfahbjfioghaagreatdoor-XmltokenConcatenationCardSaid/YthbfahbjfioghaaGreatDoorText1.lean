/-
  Walks of chapter 1: which numbers are characters, which may stand in names (program and reference).
-/
import Derived.Test.YthbfahbjfioghaaGreatDoorSpec01
import Derived.Test.YthbfahbjfioghaaGreatDoorBuild
import Derived.WalkSpells
import Derived.WalkLawsBesides
import Derived.Deep.DeepCutAuto
import Derived.Laws.Rows
set_option linter.unusedVariables false
namespace Go.Proofs.YthbfahbjfioghaaGreatDoor
open Go.RowKit


set_option maxHeartbeats 400000 in
theorem refIsChar_any (r : Int) (w : World) :
    Calls Tryz.prog 49 #[.int .i64 r] w fun e w' => e = .returned (.bool (isChar r)) ∧ w = w' := by
  go_enter Tryz.func49, Tryz.ntmps49
  go_wp2
  all_goals go_ret
  all_goals exact ⟨ret_bool (by rw [Bool.eq_iff_iff]; simp [isChar] <;> omega), rfl⟩

set_option maxHeartbeats 400000 in
theorem isChar_any (r : Int) (w : World) :
    Calls Tryz.prog 69 #[.int .i32 r] w fun e w' => e = .returned (.bool (isChar r)) ∧ w = w' := by
  go_enter Tryz.func69, Tryz.ntmps69
  go_wp2
  all_goals go_ret
  all_goals exact ⟨ret_bool (by rw [Bool.eq_iff_iff]; simp [isChar] <;> omega), rfl⟩


set_option maxHeartbeats 1000000 in
set_option maxRecDepth 100000 in
theorem refNameStart_any (r : Int) (w : World) :
    Calls Tryz.prog 138 #[.int .i64 r] w fun e w' => e = .returned (.bool (nameStart r)) ∧ w = w' := by
  rw [nameStart_eq]
  generalize h1 : nsLetter r = b1
  generalize h2 : nsLow r = b2
  generalize h3 : nsMiddle r = b3
  generalize h4 : nsHigh r = b4
  have H1 := Lib.hid h1
  have H2 := Lib.hid h2
  have H3 := Lib.hid h3
  have H4 := Lib.hid h4
  clear h1 h2 h3 h4
  go_enter Tryz.func138, Tryz.ntmps138
  go_upto_region 1 with fail
  go_cut [3] from 7 to 25 (fun s wx => s = .bool b1 ∧ w = wx)
  case first =>
    go_wp2
    all_goals first | go_meet | (subst_vars; go_meet)
    all_goals first | exact ⟨val_bool (by rw [← H1.out, Bool.eq_iff_iff]; simp [nsLetter] <;> omega), rfl⟩ | exact ⟨val_bool (by decide), rfl⟩
  case rest =>
    obtain ⟨rfl, rfl⟩ := hcut
    go_upto_region 2 with fail
    go_cut [4] from 25 to 51 (fun s wx => s = .bool b2 ∧ w = wx)
    case first =>
      go_wp2
      all_goals first | go_meet | (subst_vars; go_meet)
      all_goals first | exact ⟨val_bool (by rw [← H2.out, Bool.eq_iff_iff]; simp [nsLow] <;> omega), rfl⟩ | exact ⟨val_bool (by decide), rfl⟩
    case rest =>
      obtain ⟨rfl, rfl⟩ := hcut
      go_upto_region 3 with fail
      go_cut [5] from 51 to 81 (fun s wx => s = .bool b3 ∧ w = wx)
      case first =>
        go_wp2
        all_goals first | go_meet | (subst_vars; go_meet)
        all_goals first | exact ⟨val_bool (by rw [← H3.out, Bool.eq_iff_iff]; simp [nsMiddle] <;> omega), rfl⟩ | exact ⟨val_bool (by decide), rfl⟩
      case rest =>
        obtain ⟨rfl, rfl⟩ := hcut
        go_upto_region 4 with fail
        go_cut [6] from 81 to 103 (fun s wx => s = .bool b4 ∧ w = wx)
        case first =>
          go_wp2
          all_goals first | go_meet | (subst_vars; go_meet)
          all_goals first | exact ⟨val_bool (by rw [← H4.out, Bool.eq_iff_iff]; simp [nsHigh] <;> omega), rfl⟩ | exact ⟨val_bool (by decide), rfl⟩
        case rest =>
          obtain ⟨rfl, rfl⟩ := hcut
          cases b1 <;> cases b2 <;> cases b3
          all_goals go_wp2
          all_goals go_ret
          all_goals exact ⟨ret_bool (by simp), rfl⟩

set_option maxHeartbeats 1000000 in
theorem refNameChar_any (r : Int) (w : World) :
    Calls Tryz.prog 137 #[.int .i64 r] w fun e w' => e = .returned (.bool (nameChar r)) ∧ w = w' := by
  obtain ⟨b, hb⟩ : ∃ b, nameStart r = b := ⟨_, rfl⟩
  have hc : ∀ w, Calls Tryz.prog 138 #[.int .i64 r] w fun e w' => e = .returned (.bool b) ∧ w = w' := fun w => by rw [← hb]; exact refNameStart_any r w
  have hn : nameChar r = (inRanges moreRanges r || b) := by rw [nameChar, hb]
  rw [hn]
  generalize hm : inRanges moreRanges r = m
  have hmi := more_iff r
  rw [hm] at hmi
  have HM := Lib.hid hmi
  have HC := Lib.hid hc
  clear hb hn hm hmi hc
  cases b
  · go_enter Tryz.func137, Tryz.ntmps137
    go_wp2_with (go_at_call 138; refine (HC.out _).mono ?_; rintro e w' ⟨rfl, rfl⟩)
    all_goals go_ret
    all_goals exact ⟨ret_bool (by have hmi := HM.out; clear HM HC; rw [Bool.eq_iff_iff]; simp [hmi] <;> omega), rfl⟩
  · go_enter Tryz.func137, Tryz.ntmps137
    go_wp2_with (go_at_call 138; refine (HC.out _).mono ?_; rintro e w' ⟨rfl, rfl⟩)
    all_goals go_ret
    all_goals exact ⟨ret_bool (by simp), rfl⟩
end Go.Proofs.YthbfahbjfioghaaGreatDoor
