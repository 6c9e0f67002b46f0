/-
  Walks of chapter 1, what chapter 4 uses of it: white space and Collapse, of the program and of the reference. (The walks are XCol13's.)
-/
import Derived.Test.YtooabnmmgmmklaaDoorMem
import Derived.Test.YtooabnmmgmmklaaDoorApL
import Derived.Test.YtooabnmmgmmklaaDoorColP
set_option linter.unusedVariables false
namespace Go.Proofs.YtooabnmmgmmklaaDoor
open Go.RowKit

set_option maxHeartbeats 1000000 in
theorem space1_any (c : UInt8) (w : World) :
    Calls Tryd.prog 54 #[.int .u8 c.toNat] w fun e w' => e = .returned (.bool (spc c)) ∧ w' = w := by
  unfold spc
  generalize (c.toNat : Int) = n
  rcases h1 : (n == 32) with _ | _ <;> rcases h2 : (n == 9) with _ | _ <;> rcases h3 : (n == 10) with _ | _ <;> rcases h4 : (n == 13) with _ | _
  all_goals
    go_enter Tryd.func54, Tryd.ntmps54
    go_wp2
    go_ret
    exact ⟨rfl, rfl⟩
set_option maxHeartbeats 1000000 in
theorem refSpace1_any (c : UInt8) (w : World) :
    Calls Tryd.prog 40 #[.int .u8 c.toNat] w fun e w' => e = .returned (.bool (spc c)) ∧ w' = w := by
  unfold spc
  generalize (c.toNat : Int) = n
  rcases h1 : (n == 32) with _ | _ <;> rcases h2 : (n == 9) with _ | _ <;> rcases h3 : (n == 10) with _ | _ <;> rcases h4 : (n == 13) with _ | _
  all_goals
    go_enter Tryd.func40, Tryd.ntmps40
    go_wp2
    go_ret
    exact ⟨rfl, rfl⟩
theorem builderLen_any {B b : Nat} {l : Bytes} {w : World} (h : Bld B b l w) :
    Calls Tryd.prog 55 #[.pointer (some ⟨b, 0, none⟩)] w fun e w' => e = .returned (.int .i64 l.length) ∧ w' = w := by
  have := Tryd.Builder_Len_f B b _ w h
  rw [Lib.byteCells_length] at this
  exact this

set_option maxHeartbeats 2000000 in
set_option maxRecDepth 100000 in
theorem collapse_any (l : Bytes) (w : World) (hl : l.length ≤ 1000000) :
    Calls Tryd.prog 26 #[.string (S l)] w fun e w' => e = .returned (.string (S (collapse l))) ∧ Below w.heap.size w w' := by
  unfold collapse
  obtain ⟨T, hT⟩ : ∃ T, colG false [] l = T := ⟨_, rfl⟩
  rw [hT]
  have HT := Lib.hid hT
  have HN := Lib.hid (Bld.new w)
  clear hT
  go_enter Tryd.func26, Tryd.ntmps26
  go_wp2_with fail
  go_loopw [4, 8] (fun g4 i8 wr => ∃ (i : Nat) (Y : Bytes) (g : Bool), i ≤ l.length ∧ g4 = .bool g ∧ i8 = .int .i64 i ∧ Bld w.heap.size w.heap.size Y wr ∧ Y.length ≤ 2 * i ∧ colG g Y (l.drop i) = T ∧ Below w.heap.size w wr) (fun _ i8 _ => l.length - (intOf i8).toNat)
  case atStart => exact ⟨0, [], false, Nat.zero_le _, rfl, rfl, HN.out, Nat.le_refl _, HT.out, (Below.refl _ _).alloc (Nat.le_refl _) _⟩
  case round =>
    obtain ⟨i, Y, g, hi, rfl, rfl, hbl, hYl, hres, hb⟩ := hrel
    have HBL := Lib.hid hbl
    have HB := Lib.hid hb
    have hsz := hb.size
    clear hbl hb HT HN
    by_cases hlt : i < l.length
    · have hlt' : (i : Int) < l.length := by omega
      have hc := fun W => space1_any l[i] W
      cases hs : spc l[i] with
      | true =>
        rw [colG_sp hlt hs] at hres
        rw [hs] at hc
        have HC := Lib.hid hc
        have HRES := Lib.hid hres
        clear hc hres hs
        by_cases hY : Y = []
        · have q : ¬ (0 : Int) < Y.length := by rw [hY]; simp
          have hg : (!Y.isEmpty) = false := by rw [hY]; rfl
          have HG := Lib.hid hg
          clear hg hY
          go_wp2_with (first
            | (go_at_call 54; refine (HC.out _).mono ?_; rintro e wq ⟨rfl, rfl⟩)
            | (go_at_call 55; refine (builderLen_any HBL.out).mono ?_; rintro e wq ⟨rfl, rfl⟩))
          go_roundw
          case rel => exact ⟨i + 1, Y, false, by omega, val_bool (decide_eq_false (by omega)), by go_num, HBL.out, by omega, by rw [← HG.out]; exact HRES.out, HB.out⟩
          case measure => simp [intOf]; omega
        · have q : (0 : Int) < Y.length := by have := List.length_pos_iff.2 hY; omega
          have hg : (!Y.isEmpty) = true := by cases Y with | nil => exact absurd rfl hY | cons _ _ => rfl
          have HG := Lib.hid hg
          clear hg hY
          go_wp2_with (first
            | (go_at_call 54; refine (HC.out _).mono ?_; rintro e wq ⟨rfl, rfl⟩)
            | (go_at_call 55; refine (builderLen_any HBL.out).mono ?_; rintro e wq ⟨rfl, rfl⟩))
          go_roundw
          case rel => exact ⟨i + 1, Y, true, by omega, val_bool (decide_eq_true (by omega)), by go_num, HBL.out, by omega, by rw [← HG.out]; exact HRES.out, HB.out⟩
          case measure => simp [intOf]; omega
      | false =>
        rw [colG_no hlt hs] at hres
        rw [hs] at hc
        have HC := Lib.hid hc
        clear hc hs
        have hcb := UInt8.toNat_lt l[i]
        cases g with
        | true =>
          simp only [if_true] at hres
          have HRES := Lib.hid hres
          clear hres
          go_wp2_with (go_at_call 54; refine (HC.out _).mono ?_; rintro e wq ⟨rfl, rfl⟩)
          refine (writeByte_any w.heap.size w.heap.size Y 32 _ HBL.out (by omega) (by omega) (by omega)).mono ?_
          rintro e w1 ⟨rfl, hb1, hbel1, _⟩
          have H1 := Lib.hid (show Bld w.heap.size w.heap.size (Y ++ [32]) w1 from hb1)
          have hz1 := hbel1.size
          have HE1 := Lib.hid hbel1
          clear hb1 hbel1
          go_wp2_with fail
          refine (writeByte_any w.heap.size w.heap.size (Y ++ [32]) _ _ H1.out (by omega) (by simp only [List.length_append, List.length_cons, List.length_nil]; omega) (by omega)).mono ?_
          rintro e w2 ⟨rfl, hb2, hbel2, _⟩
          rw [Int.toNat_natCast, UInt8.ofNat_toNat] at hb2
          have H2 := Lib.hid hb2
          have HE2 := Lib.hid hbel2
          clear hb2 hbel2
          go_wp2_with fail
          go_roundw
          case rel => exact ⟨i + 1, Y ++ [32] ++ [l[i]], false, by omega, rfl, by go_num, H2.out, by simp only [List.length_append, List.length_cons, List.length_nil]; omega, HRES.out, HB.out.trans (HE1.out.trans HE2.out)⟩
          case measure => simp [intOf]; omega
        | false =>
          simp only [Bool.false_eq_true, if_false] at hres
          have HRES := Lib.hid hres
          clear hres
          go_wp2_with (go_at_call 54; refine (HC.out _).mono ?_; rintro e wq ⟨rfl, rfl⟩)
          refine (writeByte_any w.heap.size w.heap.size Y _ _ HBL.out (by omega) (by omega) (by omega)).mono ?_
          rintro e w2 ⟨rfl, hb2, hbel2, _⟩
          rw [Int.toNat_natCast, UInt8.ofNat_toNat] at hb2
          have H2 := Lib.hid hb2
          have HE2 := Lib.hid hbel2
          clear hb2 hbel2
          go_wp2_with fail
          go_roundw
          case rel => exact ⟨i + 1, Y ++ [l[i]], false, by omega, rfl, by go_num, H2.out, by simp only [List.length_append, List.length_cons, List.length_nil]; omega, HRES.out, HB.out.trans HE2.out⟩
          case measure => simp [intOf]; omega
    · obtain rfl : i = l.length := by omega
      rw [List.drop_length, colG] at hres
      subst hres
      go_wp2_with fail
      refine (builderString_any w.heap.size w.heap.size _ _ HBL.out hsz).mono ?_
      rintro e w5 ⟨rfl, hb5, hbel5, _⟩
      go_wp2_with fail
      go_ret
      exact ⟨rfl, HB.out.trans hbel5⟩

theorem own_slice13 {B : Nat} {v : Value} {l : Bytes} {w : World} (h : Own B v l w) : ∃ A c, v = .slice A l.length c := by
  rcases h.2 with ⟨hv, hn⟩ | ⟨g, cap, cur, hv, _⟩
  · exact ⟨none, 0, by rw [hv, hn]⟩
  · exact ⟨_, cap, hv⟩
/-- Was the byte ahead white space? -/
def spAt (l : Bytes) (i : Nat) : Bool := decide (0 < i) && spc (l.getD (i - 1) 0)
theorem spAt_next {l : Bytes} {i : Nat} (h : i < l.length) : spAt l (i + 1) = spc l[i] := by
  unfold spAt
  simp [h]
theorem spAt_pos {l : Bytes} {i : Nat} (h : i < l.length) (h0 : 0 < i) : spAt l i = spc (l[i - 1]'(by omega)) := by
  unfold spAt
  simp [h0, List.getElem?_eq_getElem (show i - 1 < l.length by omega)]

set_option maxHeartbeats 4000000 in
set_option maxRecDepth 100000 in
theorem refCollapse_any (l : Bytes) (w : World) (hl : l.length ≤ 1000000) :
    Calls Tryd.prog 16 #[.string (S l)] w fun e w' => e = .returned (.string (S (collapse l))) ∧ Below w.heap.size w w' := by
  unfold collapse
  obtain ⟨T, hT⟩ : ∃ T, colG false [] l = T := ⟨_, rfl⟩
  rw [hT]
  have HT := Lib.hid hT
  clear hT
  go_enter Tryd.func16, Tryd.ntmps16
  go_wp2_with fail
  go_loopw [3, 4] (fun v3 i4 wr => ∃ (i : Nat) (Y : Bytes), i ≤ l.length ∧ i4 = .int .i64 i ∧ Own w.heap.size v3 Y wr ∧ Y.length ≤ 2 * i ∧ colG (spAt l i && !Y.isEmpty) Y (l.drop i) = T ∧ Below w.heap.size w wr) (fun _ i4 _ => l.length - (intOf i4).toNat)
  case atStart => exact ⟨0, [], Nat.zero_le _, rfl, World.ownsRow_nil w _ _ _, Nat.le_refl _, HT.out, Below.refl _ _⟩
  case round =>
    obtain ⟨i, Y, hi, rfl, hown, hYl, hres, hb⟩ := hrel
    have HO := Lib.hid hown
    have HB := Lib.hid hb
    have hsz := hb.size
    obtain ⟨A3, c3, rfl⟩ := own_slice13 hown
    clear hown hb HT
    by_cases hlt : i < l.length
    · have hlt' : (i : Int) < l.length := by omega
      have hc := fun W => refSpace1_any l[i] W
      cases hs : spc l[i] with
      | true =>
        rw [colG_sp hlt hs] at hres
        rw [hs] at hc
        have HC := Lib.hid hc
        have HRES := Lib.hid (show colG (spAt l (i + 1) && !Y.isEmpty) Y (l.drop (i + 1)) = T by rw [spAt_next hlt, hs]; exact hres)
        clear hc hres hs
        go_wp2_with (go_at_call 40; refine (HC.out _).mono ?_; rintro e wq ⟨rfl, rfl⟩)
        go_roundw
        case rel => exact ⟨i + 1, Y, by omega, by go_num, HO.out, by omega, HRES.out, HB.out⟩
        case measure => simp [intOf]; omega
      | false =>
        rw [colG_no hlt hs] at hres
        have hres2 : colG (spAt l (i + 1) && !((if (spAt l i && !Y.isEmpty) = true then Y ++ [32] else Y) ++ [l[i]]).isEmpty) ((if (spAt l i && !Y.isEmpty) = true then Y ++ [32] else Y) ++ [l[i]]) (l.drop (i + 1)) = T := by rw [spAt_next hlt, hs]; exact hres
        rw [hs] at hc
        have HC := Lib.hid hc
        have hcb := UInt8.toNat_lt l[i]
        have HO1 := fun (A' : Option Addr) (c' : Nat) (Y' : Bytes) (W : World) (h : Own w.heap.size (.slice A' Y'.length c') Y' W) => h
        clear hc hs hres
        by_cases h0 : i = 0
        · subst h0
          have hg : (spAt l 0 && !Y.isEmpty) = false := rfl
          rw [hg] at hres2
          simp only [Bool.false_eq_true, if_false] at hres2
          have HRES := Lib.hid hres2
          clear hres2 hg
          go_wp2_with fail
          refine (HC.out _).mono ?_
          rintro e wq ⟨rfl, rfl⟩
          have hYl10 : Y.length + 10 ≤ 140737488355328 := by omega
          go_wp2_with ((at_builtin; refine own_append_list rfl _ _ rfl _ w.heap.size (.slice A3 Y.length c3) Y [l[0]] #[.int .u8 l[0].toNat] 1 rfl rfl (by decide) rfl HO.out _ rfl rfl hYl10 hsz ?_; intro v' w' hown' hb'))
          go_roundw
          case rel => exact ⟨1, Y ++ [l[0]], by omega, by go_num, hown', by simp only [List.length_append, List.length_cons, List.length_nil]; omega, HRES.out, HB.out.trans hb'⟩
          case measure => simp [intOf]; omega
        · have q0 : (0 : Int) < i := by omega
          have hp := fun W => refSpace1_any (l[i - 1]'(by omega)) W
          rw [spAt_pos hlt (by omega)] at hres2
          cases hs2 : spc (l[i - 1]'(by omega)) with
          | false =>
            rw [hs2] at hp hres2
            simp only [Bool.false_and, Bool.false_eq_true, if_false] at hres2
            have HP := Lib.hid hp
            have HRES := Lib.hid hres2
            clear hp hres2 hs2
            go_wp2_with fail
            refine (HC.out _).mono ?_
            rintro e wq ⟨rfl, rfl⟩
            have hYl10 : Y.length + 10 ≤ 140737488355328 := by omega
            go_wp2_with (first
              | (go_at_call 40; refine (HP.out _).mono ?_; rintro e wq ⟨rfl, rfl⟩)
              | (at_builtin; refine own_append_list rfl _ _ rfl _ w.heap.size (.slice A3 Y.length c3) Y [l[i]] #[.int .u8 l[i].toNat] 1 rfl rfl (by decide) rfl HO.out _ rfl rfl hYl10 hsz ?_; intro v' w' hown' hb'))
            go_roundw
            case rel => exact ⟨i + 1, Y ++ [l[i]], by omega, by go_num, hown', by simp only [List.length_append, List.length_cons, List.length_nil]; omega, HRES.out, HB.out.trans hb'⟩
            case measure => simp [intOf]; omega
          | true =>
            rw [hs2] at hp hres2
            simp only [Bool.true_and] at hres2
            have HP := Lib.hid hp
            clear hp hs2
            have hYl10 : Y.length + 10 ≤ 140737488355328 := by omega
            by_cases hY : Y = []
            · subst hY
              simp only [List.isEmpty_nil, Bool.not_true, Bool.false_eq_true, if_false, List.nil_append] at hres2
              have HRES := Lib.hid hres2
              clear hres2
              go_wp2_with fail
              refine (HC.out _).mono ?_
              rintro e wq ⟨rfl, rfl⟩
              go_wp2_with (first
                | (go_at_call 40; refine (HP.out _).mono ?_; rintro e wq ⟨rfl, rfl⟩)
                | (at_builtin; refine own_append_list rfl _ _ rfl _ w.heap.size (.slice A3 0 c3) [] [l[i]] #[.int .u8 l[i].toNat] 1 rfl rfl (by decide) rfl HO.out _ rfl rfl hYl10 hsz ?_; intro v' w' hown' hb'))
              go_roundw
              case rel => exact ⟨i + 1, [l[i]], by omega, by go_num, hown', by simp only [List.length_cons, List.length_nil]; omega, HRES.out, HB.out.trans hb'⟩
              case measure => simp [intOf]; omega
            · have q : (0 : Int) < Y.length := by have := List.length_pos_iff.2 hY; omega
              have hg : (!Y.isEmpty) = true := by cases Y with | nil => exact absurd rfl hY | cons _ _ => rfl
              rw [hg] at hres2
              simp only [if_true] at hres2
              have HRES := Lib.hid hres2
              clear hres2 hY hg
              go_wp2_with fail
              refine (HC.out _).mono ?_
              rintro e wq ⟨rfl, rfl⟩
              go_wp2_with fail
              refine (HP.out _).mono ?_
              rintro e wq ⟨rfl, rfl⟩
              have hYl11 : (Y ++ [32]).length + 10 ≤ 140737488355328 := by simp only [List.length_append, List.length_cons, List.length_nil]; omega
              go_wp2_with (first
                | (at_builtin; refine own_append_list rfl (.tmp 30) (.tmp 31) rfl _ w.heap.size (.slice A3 Y.length c3) Y [32] #[.int .u8 32] 1 rfl rfl (by decide) rfl HO.out _ rfl rfl hYl10 hsz ?_; intro v1 w1 hown1 hb1; obtain ⟨A4, c4, rfl⟩ : ∃ A c, v1 = .slice A (Y.length + 1) c := (by simpa using own_slice13 hown1); have HO1 := Lib.hid hown1; have hz1 := hb1.size; have hz2 := Nat.le_trans hsz hz1; have HB1 := Lib.hid hb1; clear hown1 hb1)
                | (at_builtin; refine own_append_list rfl (.tmp 33) (.tmp 37) rfl _ w.heap.size (.slice A4 (Y.length + 1) c4) (Y ++ [32]) [l[i]] #[.int .u8 l[i].toNat] 1 rfl rfl (by decide) rfl HO1.out _ rfl rfl hYl11 (by omega) ?_; intro v' w' hown' hb'))
              go_roundw
              case rel => exact ⟨i + 1, Y ++ [32] ++ [l[i]], by omega, by go_num, hown', by simp only [List.length_append, List.length_cons, List.length_nil]; omega, HRES.out, HB.out.trans (HB1.out.trans hb')⟩
              case measure => simp [intOf]; omega
    · obtain rfl : i = l.length := by omega
      rw [List.drop_length, colG] at hres
      subst hres
      have hcv := own_string HO.out
      go_wp2_with fail
      go_ret
      exact ⟨rfl, HB.out⟩
end Go.Proofs.YtooabnmmgmmklaaDoor
