/-
  Walks of chapter 13: the comparisons, of the program and of the reference.
-/
import Derived.Test.YtadkgjbidhfefaaGreatDoorEnt13
import Derived.Test.YtadkgjbidhfefaaGreatDoorOrd13
import Derived.Sort.Walk0
import Derived.Deep.RegionHeld3
import Derived.Deep.QuietTactic
import Derived.BigQuiet
import Derived.WalkSpells
import Derived.WalkLawsBesides
set_option linter.unusedVariables false
namespace Go.Proofs.YtadkgjbidhfefaaGreatDoor
open Go.RowKit

/-- Entries: the later one first, then by identifier. -/
def cmpE (a b : En) : Int := lex3 (fun a b : En => cmpI b.upd a.upd) (fun a b : En => cmpB a.id b.id) a b
theorem ordE : Ord3 cmpE := by
  have h1 : Ord3 (fun a b : En => cmpI b.upd a.upd) := by
    refine ⟨fun a b => ordI.rng _ _, fun a b => ordI.anti _ _, fun a b c h1 h2 => ?_⟩
    have := ordI.tr c.upd b.upd a.upd h2 h1
    rw [this, Int.min_comm]
  exact h1.lex (ordB.on (fun e : En => e.id))
/-- Feeds: by path, then by identifier. -/
def cmpF (a b : Fe) : Int := lex3 (fun a b : Fe => cmpP a.path b.path) (fun a b : Fe => cmpB a.id b.id) a b
theorem ordF : Ord3 cmpF := (ordP.on (fun f : Fe => f.path)).lex (ordB.on (fun f : Fe => f.id))

theorem less_yes {a b : Bytes} (h : cmpB a b = -1) : Op.bytesLess a b = true := by
  rw [Go.Proofs.bytesLess_eq]; exact decide_eq_true ((cmpB_lt a b).1 h)
theorem less_no {a b : Bytes} (h : cmpB a b ≠ -1) : Op.bytesLess a b = false := by
  rw [Go.Proofs.bytesLess_eq]; exact decide_eq_false (fun e => h ((cmpB_lt a b).2 e))
theorem ne_of_cmp {a b : Bytes} (h : cmpB a b ≠ 0) : (a == b) = false := by
  rw [beq_eq_false_iff_ne]; exact fun e => h (cmpB_zero.2 e)

set_option maxHeartbeats 1000000 in
theorem isNaNs_any (x : Bytes) (w : World) : Calls Tryz.prog 50 #[.string (S x)] w fun e w' => e = .returned (.bool false) ∧ w' = w := by
  go_enter Tryz.func50, Tryz.ntmps50
  go_wp2
  go_ret
  exact ⟨ret_bool (by simp), rfl⟩
set_option maxHeartbeats 1000000 in
theorem isNaNi_any (x : Int) (w : World) : Calls Tryz.prog 49 #[.int .i64 x] w fun e w' => e = .returned (.bool false) ∧ w' = w := by
  go_enter Tryz.func49, Tryz.ntmps49
  go_wp2
  go_ret
  exact ⟨ret_bool (by simp), rfl⟩
set_option maxHeartbeats 1000000 in
theorem cmpStr_any (x y : Bytes) (w : World) : Calls Tryz.prog 30 #[.string (S x), .string (S y)] w fun e w' => e = .returned (.int .i64 (cmpB x y)) ∧ w' = w := by
  rcases ordB.rng x y with h | h | h
  · rw [h]
    have t1 := less_yes h
    clear h
    go_enter Tryz.func30, Tryz.ntmps30
    go_wp2_with (go_at_call 50; refine (isNaNs_any _ _).mono ?_; rintro e wq ⟨rfl, rfl⟩)
    go_ret
    exact ⟨rfl, rfl⟩
  · have t1 := less_no (show cmpB x y ≠ -1 by omega)
    rw [h]
    have e := cmpB_eq h
    subst e
    clear h
    go_enter Tryz.func30, Tryz.ntmps30
    go_wp2_with (go_at_call 50; refine (isNaNs_any _ _).mono ?_; rintro e wq ⟨rfl, rfl⟩)
    go_ret
    exact ⟨rfl, rfl⟩
  · rw [h]
    have t1 := less_no (show cmpB x y ≠ -1 by omega)
    have t2 := ne_of_cmp (show cmpB x y ≠ 0 by omega)
    clear h
    go_enter Tryz.func30, Tryz.ntmps30
    go_wp2_with (go_at_call 50; refine (isNaNs_any _ _).mono ?_; rintro e wq ⟨rfl, rfl⟩)
    go_ret
    exact ⟨rfl, rfl⟩
set_option maxHeartbeats 1000000 in
theorem cmpInt_any (x y : Int) (w : World) : Calls Tryz.prog 29 #[.int .i64 x, .int .i64 y] w fun e w' => e = .returned (.int .i64 (cmpI x y)) ∧ w' = w := by
  unfold cmpI
  by_cases h : x < y
  · rw [if_pos h]
    go_enter Tryz.func29, Tryz.ntmps29
    go_wp2_with (go_at_call 49; refine (isNaNi_any _ _).mono ?_; rintro e wq ⟨rfl, rfl⟩)
    go_ret
    exact ⟨rfl, rfl⟩
  · rw [if_neg h]
    by_cases h2 : y < x
    · rw [if_pos h2]
      go_enter Tryz.func29, Tryz.ntmps29
      go_wp2_with (go_at_call 49; refine (isNaNi_any _ _).mono ?_; rintro e wq ⟨rfl, rfl⟩)
      go_ret
      exact ⟨rfl, rfl⟩
    · rw [if_neg h2]
      go_enter Tryz.func29, Tryz.ntmps29
      go_wp2_with (go_at_call 49; refine (isNaNi_any _ _).mono ?_; rintro e wq ⟨rfl, rfl⟩)
      go_ret
      exact ⟨rfl, rfl⟩
set_option maxHeartbeats 1000000 in
theorem refCompare_any (x y : Bytes) (w : World) : Calls Tryz.prog 44 #[.string (S x), .string (S y)] w fun e w' => e = .returned (.int .i64 (cmpB x y)) ∧ w' = w := by
  rcases ordB.rng x y with h | h | h
  · rw [h]
    have t1 := less_yes h
    clear h
    go_enter Tryz.func44, Tryz.ntmps44
    go_wp2
    go_ret
    exact ⟨rfl, rfl⟩
  · have t1 := less_no (show cmpB x y ≠ -1 by omega)
    rw [h]
    have e := cmpB_eq h
    subst e
    clear h
    go_enter Tryz.func44, Tryz.ntmps44
    go_wp2
    go_ret
    exact ⟨rfl, rfl⟩
  · rw [h]
    have t1 := less_no (show cmpB x y ≠ -1 by omega)
    have t2 := ne_of_cmp (show cmpB x y ≠ 0 by omega)
    clear h
    go_enter Tryz.func44, Tryz.ntmps44
    go_wp2
    go_ret
    exact ⟨rfl, rfl⟩

/-- cmp.Or of two numbers. -/
def or3 (x y : Int) : Int := if x = 0 then y else x
set_option maxHeartbeats 1000000 in
theorem or_any (x y : Int) (b : Nat) (w : World) (h0 : w.cell? ⟨b, 0, none⟩ = some (.int .i64 x)) (h1 : w.cell? ⟨b, 1, none⟩ = some (.int .i64 y)) :
    Calls Tryz.prog 28 #[.slice (some ⟨b, 0, none⟩) 2 2] w fun e w' => e = .returned (.int .i64 (or3 x y)) ∧ w' = w := by
  unfold or3
  by_cases hx : x = 0
  · subst hx
    rw [if_pos rfl]
    by_cases hy : y = 0
    · subst hy
      go_enter Tryz.func28, Tryz.ntmps28
      go_wp2_with fail
      refine wp_loop_rounds 3 ?_
      rw [rounds_succ]
      go_wp2
      rw [rounds_succ]
      go_wp2
      rw [rounds_succ]
      go_wp2
      go_ret
      exact ⟨rfl, rfl⟩
    · have t : (y == 0) = false := by rw [beq_eq_false_iff_ne]; exact hy
      have t' : (y != 0) = true := by rw [bne, t]; rfl
      go_enter Tryz.func28, Tryz.ntmps28
      go_wp2_with fail
      refine wp_loop_rounds 2 ?_
      rw [rounds_succ]
      go_wp2
      rw [rounds_succ]
      go_wp2
      go_ret
      exact ⟨rfl, rfl⟩
  · rw [if_neg hx]
    have t : (x == 0) = false := by rw [beq_eq_false_iff_ne]; exact hx
    have t' : (x != 0) = true := by rw [bne, t]; rfl
    go_enter Tryz.func28, Tryz.ntmps28
    go_wp2_with fail
    refine wp_loop_rounds 1 ?_
    rw [rounds_succ]
    go_wp2
    go_ret
    exact ⟨rfl, rfl⟩

theorem cmpP_nil_cons (b : Bytes) (r : List Bytes) : cmpP [] (b :: r) = -1 := rfl
/-- Where two paths are compared from element i on. -/
theorem cmpP_step {l r : List Bytes} {i : Nat} (h1 : i < l.length) (h2 : i < r.length) : cmpP (l.drop i) (r.drop i) = if cmpB l[i] r[i] = 0 then cmpP (l.drop (i + 1)) (r.drop (i + 1)) else cmpB l[i] r[i] := by
  rw [List.drop_eq_getElem_cons h1, List.drop_eq_getElem_cons h2]; rfl
theorem cmpP_left {l r : List Bytes} {i : Nat} (h1 : l.length ≤ i) (h2 : i < r.length) : cmpP (l.drop i) (r.drop i) = -1 := by
  rw [List.drop_of_length_le h1, List.drop_eq_getElem_cons h2]; rfl
theorem cmpP_right {l r : List Bytes} {i : Nat} (h1 : i < l.length) (h2 : r.length ≤ i) : cmpP (l.drop i) (r.drop i) = 1 := by
  rw [List.drop_of_length_le h2, List.drop_eq_getElem_cons h1]; rfl
theorem cmpP_end {l r : List Bytes} {i : Nat} (h1 : l.length ≤ i) (h2 : r.length ≤ i) : cmpP (l.drop i) (r.drop i) = 0 := by
  rw [List.drop_of_length_le h1, List.drop_of_length_le h2]; rfl

set_option maxHeartbeats 2000000 in
set_option maxRecDepth 100000 in
theorem slicesCompare_any (l r : List Bytes) (A B : Option Addr) (c d : Nat) (w : World) (p : Nat → Prop) (hl : ElsP strE w p (.slice A l.length c) l) (hr : ElsP strE w p (.slice B r.length d) r) (hll : l.length ≤ 1000000000000) (hrl : r.length ≤ 1000000000000) :
    Calls Tryz.prog 27 #[.slice A l.length c, .slice B r.length d] w fun e w' => e = .returned (.int .i64 (cmpP l r)) ∧ w' = w := by
  obtain ⟨T, hT⟩ : ∃ T, cmpP l r = T := ⟨_, rfl⟩
  rw [hT]
  have HT := Lib.hid hT
  have HL := Lib.hid hl
  have HR := Lib.hid hr
  clear hT hl hr
  go_enter Tryz.func27, Tryz.ntmps27
  go_wp2_with fail
  go_loop [11] (fun i11 => ∃ i : Nat, i ≤ l.length ∧ i11 = .int .i64 i ∧ cmpP (l.drop i) (r.drop i) = T) (fun i11 => l.length - (intOf i11).toNat)
  case atStart => exact ⟨0, Nat.zero_le _, rfl, HT.out⟩
  case round =>
    obtain ⟨i, hi, rfl, hres⟩ := hrel
    clear HT
    by_cases hlt : i < l.length
    · have hlt' : (i : Int) < l.length := by omega
      obtain ⟨b, off, rfl, hpb, hc1⟩ := strs_cell HL.out hlt
      by_cases hlr : i < r.length
      · have hlr' : ¬ (r.length : Int) ≤ i := by omega
        have hlr2 : (i : Int) < r.length := by omega
        obtain ⟨b2, off2, rfl, hpb2, hc2⟩ := strs_cell HR.out hlr
        rw [cmpP_step hlt hlr] at hres
        generalize l[i] = x at *
        generalize r[i] = y at *
        have hcs := fun W => cmpStr_any x y W
        generalize cmpB x y = q at *
        have HC := Lib.hid hcs
        clear hcs
        by_cases hq : q = 0
        · subst hq
          rw [if_pos rfl] at hres
          have HRES := Lib.hid hres
          clear hres
          go_wp2_with (go_at_call 30; refine (HC.out _).mono ?_; rintro e wq ⟨rfl, rfl⟩)
          go_round
          case rel => exact ⟨i + 1, by omega, by go_num, HRES.out⟩
          case measure => simp [intOf]; omega
        · rw [if_neg hq] at hres
          have t : (q == 0) = false := by rw [beq_eq_false_iff_ne]; exact hq
          have t' : (q != 0) = true := by rw [bne, t]; rfl
          subst hres
          clear hq
          go_wp2_with (go_at_call 30; refine (HC.out _).mono ?_; rintro e wq ⟨rfl, rfl⟩)
          go_ret
          exact ⟨rfl, rfl⟩
      · have hlr' : (r.length : Int) ≤ i := by omega
        rw [cmpP_right hlt (by omega)] at hres
        subst hres
        go_wp2_with fail
        go_ret
        exact ⟨rfl, rfl⟩
    · obtain rfl : i = l.length := by omega
      by_cases hlr : l.length < r.length
      · have hlr' : (l.length : Int) < r.length := by omega
        rw [cmpP_left (Nat.le_refl _) hlr] at hres
        subst hres
        go_wp2_with fail
        go_ret
        exact ⟨rfl, rfl⟩
      · have hlr' : ¬ (l.length : Int) < r.length := by omega
        rw [cmpP_end (Nat.le_refl _) (by omega)] at hres
        subst hres
        go_wp2_with fail
        go_ret
        exact ⟨rfl, rfl⟩
set_option maxHeartbeats 1000000 in
theorem cmpPaths_any (l r : List Bytes) (u v : Value) (w : World) (p : Nat → Prop) (hl : ElsP strE w p u l) (hr : ElsP strE w p v r) (hll : l.length ≤ 1000000000000) (hrl : r.length ≤ 1000000000000) :
    Calls Tryz.prog 11 #[u, v] w fun e w' => e = .returned (.int .i64 (cmpP l r)) ∧ w' = w := by
  obtain ⟨A, c, rfl, _⟩ := hl.slice
  obtain ⟨B, d, rfl, _⟩ := hr.slice
  have HC := Lib.hid (slicesCompare_any l r A B c d w p hl hr hll hrl)
  clear hl hr
  go_enter Tryz.func11, Tryz.ntmps11
  go_wp2_with (go_at_call 27; refine HC.out.mono ?_; rintro e wq ⟨rfl, rfl⟩)
  go_ret
  exact ⟨rfl, rfl⟩
end Go.Proofs.YtadkgjbidhfefaaGreatDoor
