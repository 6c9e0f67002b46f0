/-
  Walks of chapter 13: the comparisons of paths (the reference), of entries and of feeds (both).
-/
import Derived.Test.YtadkgjbidhfefaaGreatDoorCmp13
set_option linter.unusedVariables false
namespace Go.Proofs.YtadkgjbidhfefaaGreatDoor
open Go.RowKit

theorem below_drewN13 (w : World) (n : Nat) : Below w.heap.size w (w.drewN n) := by
  induction n with
  | zero => exact Below.refl _ _
  | succ n ih => exact ih.trans ((Below.refl _ _).drew)

set_option maxHeartbeats 2000000 in
set_option maxRecDepth 100000 in
theorem refCmpPaths_any (l r : List Bytes) (u v : Value) (w : World) (hl : ElsP strE w (· < w.heap.size) u l) (hr : ElsP strE w (· < w.heap.size) v r) (hll : l.length ≤ 1000000000000) (hrl : r.length ≤ 1000000000000) :
    Calls Tryz.prog 21 #[u, v] w fun e w' => e = .returned (.int .i64 (cmpP l r)) ∧ Below w.heap.size w w' := by
  obtain ⟨A, c, rfl, _⟩ := hl.slice
  obtain ⟨B, d, rfl, _⟩ := hr.slice
  obtain ⟨T, hT⟩ : ∃ T, cmpP l r = T := ⟨_, rfl⟩
  rw [hT]
  have HT := Lib.hid hT
  have HL := Lib.hid hl
  have HR := Lib.hid hr
  clear hT hl hr
  go_enter Tryz.func21, Tryz.ntmps21
  go_wp2_with fail
  go_loopw [5] (fun i5 wr => ∃ i : Nat, i ≤ l.length ∧ i ≤ r.length ∧ i5 = .int .i64 i ∧ cmpP (l.drop i) (r.drop i) = T ∧ Below w.heap.size w wr) (fun i5 _ => l.length - (intOf i5).toNat)
  case atStart => exact ⟨0, Nat.zero_le _, Nat.zero_le _, rfl, HT.out, Below.refl _ _⟩
  case round =>
    obtain ⟨i, hi, hir, rfl, hres, hb⟩ := hrel
    clear HT
    have HB := Lib.hid hb
    have hsz := hb.size
    clear hb
    by_cases hlt : i < l.length
    · have hlt' : (i : Int) < l.length := by omega
      by_cases hlr : i < r.length
      · have hlr2 : (i : Int) < r.length := by omega
        obtain ⟨b, off, rfl, hpb, hc1⟩ := strs_cell (HL.out.keep strE_ok HB.out.block (fun _ h => h)) hlt
        obtain ⟨b2, off2, rfl, hpb2, hc2⟩ := strs_cell (HR.out.keep strE_ok HB.out.block (fun _ h => h)) hlr
        rw [cmpP_step hlt hlr] at hres
        generalize l[i] = x at *
        generalize r[i] = y at *
        have hcs := fun W => refCompare_any x y W
        by_cases hq : cmpB x y = 0
        · have e := cmpB_eq hq
          subst e
          rw [if_pos hq] at hres
          have HRES := Lib.hid hres
          clear hres hcs hq
          go_wp2_with fail
          go_quiet (fail)
          go_wp2_with fail
          go_roundw
          case rel => exact ⟨i + 1, by omega, by omega, by go_num, HRES.out, HB.out.trans ((below_drewN13 _ _).mono hsz)⟩
          case measure => simp [intOf]; omega
        · rw [if_neg hq] at hres
          have t := ne_of_cmp hq
          have t' : (x != y) = true := by rw [bne, t]; rfl
          rw [hres] at hcs
          have HC := Lib.hid hcs
          clear hq hres hcs
          go_wp2_with fail
          go_quiet (fail)
          go_wp2_with fail
          have HB2 := Lib.hid (HB.out.trans ((below_drewN13 wr nq).mono hsz))
          have e1 : (wr.drewN nq).cell? ⟨b, off + i, none⟩ = some (.string (S x)) := by simpa using hc1
          have e2 : (wr.drewN nq).cell? ⟨b2, off2 + i, none⟩ = some (.string (S y)) := by simpa using hc2
          have hsz2 := HB2.out.size
          clear hc1 hc2
          generalize wr.drewN nq = W1 at *
          go_quiet ((go_at_call 44; exact Calls.quiet_of_same (HC.out _)))
          go_wp2_with fail
          go_ret
          exact ⟨rfl, HB2.out.trans ((below_drewN13 _ _).mono hsz2)⟩
      · have hlr' : ¬ (i : Int) < r.length := by omega
        rw [cmpP_right hlt (by omega)] at hres
        have q1 : ¬ (l.length : Int) < r.length := by omega
        have q2 : (r.length : Int) < l.length := by omega
        subst hres
        go_wp2_with fail
        go_ret
        exact ⟨rfl, HB.out⟩
    · obtain rfl : i = l.length := by omega
      by_cases hlr : l.length < r.length
      · have hlr' : (l.length : Int) < r.length := by omega
        rw [cmpP_left (Nat.le_refl _) hlr] at hres
        subst hres
        go_wp2_with fail
        go_ret
        exact ⟨rfl, HB.out⟩
      · have hlr' : ¬ (l.length : Int) < r.length := by omega
        rw [cmpP_end (Nat.le_refl _) (by omega)] at hres
        subst hres
        have hq : ¬ (r.length : Int) < l.length := by omega
        go_wp2_with fail
        go_ret
        exact ⟨rfl, HB.out⟩

theorem or_two (x y : Int) (w : World) (A B : Obj) (t : TypeId) :
    Calls Tryz.prog 28 #[.slice (some ⟨w.heap.size + 1 + 1, 0, none⟩) 2 2] (((w.alloc A).alloc B).alloc (.cells #[.int .i64 x, .int .i64 y] t)).drew fun e w' => e = .returned (.int .i64 (or3 x y)) ∧ w' = (((w.alloc A).alloc B).alloc (.cells #[.int .i64 x, .int .i64 y] t)).drew := by
  have h : (((w.alloc A).alloc B).alloc (.cells #[.int .i64 x, .int .i64 y] t)).drew.heap[w.heap.size + 1 + 1]? = some (.cells #[.int .i64 x, .int .i64 y] t) := by
    show (((w.alloc A).alloc B).alloc (.cells #[.int .i64 x, .int .i64 y] t)).heap[w.heap.size + 1 + 1]? = _
    have := heap_alloc_new ((w.alloc A).alloc B) (.cells #[.int .i64 x, .int .i64 y] t)
    simpa using this
  exact or_any x y _ _ (by rw [Lib.cell_of_heap h]; rfl) (by rw [Lib.cell_of_heap h]; rfl)
set_option maxHeartbeats 2000000 in
set_option maxRecDepth 100000 in
theorem refCmpEntries_any (a b : En) (w : World) :
    Calls Tryz.prog 26 #[entV a, entV b] w fun e w' => e = .returned (.int .i64 (cmpE a b)) ∧ Below w.heap.size w w' := by
  unfold cmpE lex3 cmpI
  dsimp only
  have F2 : Hid (∀ x y, Below w.heap.size w ((w.alloc x).alloc y)) := fun x y => ((Below.refl _ _).alloc (Nat.le_refl _) x).alloc (by simp) y
  have hcs := fun W => refCompare_any a.id b.id W
  generalize cmpB a.id b.id = q at *
  have HC := Lib.hid hcs
  clear hcs
  by_cases h : b.upd < a.upd
  · simp only [if_pos h]
    go_enter Tryz.func26, Tryz.ntmps26
    go_wp2_with fail
    go_ret
    exact ⟨rfl, F2.out _ _⟩
  · by_cases h2 : a.upd < b.upd
    · simp only [if_neg h, if_pos h2]
      go_enter Tryz.func26, Tryz.ntmps26
      go_wp2_with fail
      go_ret
      exact ⟨rfl, F2.out _ _⟩
    · simp only [if_neg h, if_neg h2]
      go_enter Tryz.func26, Tryz.ntmps26
      go_wp2_with (go_at_call 44; refine (HC.out _).mono ?_; rintro e wq ⟨rfl, rfl⟩)
      go_ret
      exact ⟨rfl, F2.out _ _⟩
set_option maxHeartbeats 4000000 in
set_option maxRecDepth 100000 in
theorem cmpEntries_any (a b : En) (w : World) :
    Calls Tryz.prog 12 #[entV a, entV b] w fun e w' => e = .returned (.int .i64 (cmpE a b)) ∧ Below w.heap.size w w' := by
  rw [show cmpE a b = or3 (cmpI b.upd a.upd) (cmpB a.id b.id) from rfl]
  have F2 : Hid (∀ x y, Below w.heap.size w ((w.alloc x).alloc y)) := fun x y => ((Below.refl _ _).alloc (Nat.le_refl _) x).alloc (by simp) y
  have h1 := fun W => cmpInt_any b.upd a.upd W
  have h2 := fun W => cmpStr_any a.id b.id W
  generalize cmpI b.upd a.upd = p at *
  generalize cmpB a.id b.id = q at *
  have H1 := Lib.hid h1
  have H2 := Lib.hid h2
  clear h1 h2
  have hx : ∀ W, Below (w.heap.size + 2) ((w.alloc (entBox a)).alloc (entBox b)) W → W.cell? ⟨w.heap.size + 1, 4, none⟩ = some (.int .i64 b.upd) ∧ W.cell? ⟨w.heap.size, 4, none⟩ = some (.int .i64 a.upd) ∧ W.cell? ⟨w.heap.size, 0, none⟩ = some (.string (S a.id)) ∧ W.cell? ⟨w.heap.size + 1, 0, none⟩ = some (.string (S b.id)) := fun W hW => by
    have e1 := (hW.block w.heap.size (by omega)).trans ((Below.heap_alloc _ _ _ (by simp)).trans (heap_alloc_new w (entBox a)))
    have e2 : W.heap[w.heap.size + 1]? = some (entBox b) := (hW.block (w.heap.size + 1) (by omega)).trans (by have := heap_alloc_new (w.alloc (entBox a)) (entBox b); simpa using this)
    exact ⟨(cells5 e2).2.2.2.2, (cells5 e1).2.2.2.2, (cells5 e1).1, (cells5 e2).1⟩
  have KEEP := Lib.hid hx
  clear hx
  go_enter Tryz.func12, Tryz.ntmps12
  go_wp2_with fail
  go_region_held3 (fun x => x.cell? ⟨w.heap.size + 1, 4, none⟩ = some (.int .i64 b.upd) ∧ x.cell? ⟨w.heap.size, 4, none⟩ = some (.int .i64 a.upd) ∧ x.cell? ⟨w.heap.size, 0, none⟩ = some (.string (S a.id)) ∧ x.cell? ⟨w.heap.size + 1, 0, none⟩ = some (.string (S b.id)))
    (first | exact KEEP.out _ (Below.refl _ _).drew | exact KEEP.out _ ((Below.refl _ _).alloc (by simp) _).drew)
    (first
      | ((go_at_call 29; (with_reducible refine (H1.out _).mono ?_); rintro e w1 ⟨rfl, rfl⟩))
      | ((go_at_call 30; (with_reducible refine (H2.out _).mono ?_); rintro e w1 ⟨rfl, rfl⟩))
      | ((go_at_call 28; (with_reducible refine (or_two p q _ _ _ _).mono ?_); rintro e w1 ⟨rfl, rfl⟩)))
  go_wp2_with fail
  go_ret
  exact ⟨rfl, ((F2.out _ _).drew).alloc (by simp; omega) _⟩
set_option maxHeartbeats 4000000 in
set_option maxRecDepth 100000 in
theorem cmpFeeds_any (a b : Fe) (u v : Value) (w : World) (hu : FeeV w (· < w.heap.size) a u) (hv : FeeV w (· < w.heap.size) b v) (hf : a.path.length ≤ 1000000000000) (hg : b.path.length ≤ 1000000000000) :
    Calls Tryz.prog 38 #[u, v] w fun e w' => e = .returned (.int .i64 (cmpF a b)) ∧ Below w.heap.size w w' := by
  rw [show cmpF a b = or3 (cmpP a.path b.path) (cmpB a.id b.id) from rfl]
  obtain ⟨PA, pc, EA, ec, rfl, hp, he, hpc, hec⟩ := hu.open_
  obtain ⟨PB, pd, EB, ed, rfl, hq, hd, hpd, hed⟩ := hv.open_
  have F2 : Hid (∀ x y, Below w.heap.size w ((w.alloc x).alloc y)) := fun x y => ((Below.refl _ _).alloc (Nat.le_refl _) x).alloc (by simp) y
  have h1 := fun W => fun (hW : Below w.heap.size w W) => cmpPaths_any a.path b.path _ _ W (· < w.heap.size) (hp.keep strE_ok hW.block (fun _ h => h)) (hq.keep strE_ok hW.block (fun _ h => h)) hf hg
  have h2 := fun W => cmpStr_any a.id b.id W
  generalize cmpP a.path b.path = p at *
  generalize cmpB a.id b.id = q at *
  have H1 := Lib.hid h1
  have H2 := Lib.hid h2
  clear h1 h2 hu hv hp hq he hd
  have hx : ∀ W, Below (w.heap.size + 2) ((w.alloc (feeBox a PA pc EA ec)).alloc (feeBox b PB pd EB ed)) W → W.cell? ⟨w.heap.size, 0, none⟩ = some (.slice PA a.path.length pc) ∧ W.cell? ⟨w.heap.size + 1, 0, none⟩ = some (.slice PB b.path.length pd) ∧ W.cell? ⟨w.heap.size, 1, none⟩ = some (.string (S a.id)) ∧ W.cell? ⟨w.heap.size + 1, 1, none⟩ = some (.string (S b.id)) := fun W hW => by
    have e1 := (hW.block w.heap.size (by omega)).trans ((Below.heap_alloc _ _ _ (by simp)).trans (heap_alloc_new w (feeBox a PA pc EA ec)))
    have e2 : W.heap[w.heap.size + 1]? = some (feeBox b PB pd EB ed) := (hW.block (w.heap.size + 1) (by omega)).trans (by have := heap_alloc_new (w.alloc (feeBox a PA pc EA ec)) (feeBox b PB pd EB ed); simpa using this)
    exact ⟨(cells6 e1).1, (cells6 e2).1, (cells6 e1).2.1, (cells6 e2).2.1⟩
  have KEEP := Lib.hid hx
  clear hx
  go_enter Tryz.func38, Tryz.ntmps38
  go_wp2_with fail
  go_region_held3 (fun x => x.cell? ⟨w.heap.size, 0, none⟩ = some (.slice PA a.path.length pc) ∧ x.cell? ⟨w.heap.size + 1, 0, none⟩ = some (.slice PB b.path.length pd) ∧ x.cell? ⟨w.heap.size, 1, none⟩ = some (.string (S a.id)) ∧ x.cell? ⟨w.heap.size + 1, 1, none⟩ = some (.string (S b.id)))
    (first | exact KEEP.out _ (Below.refl _ _).drew | exact KEEP.out _ ((Below.refl _ _).alloc (by simp) _).drew)
    (first
      | ((go_at_call 11; (with_reducible refine (H1.out _ (F2.out _ _).drew).mono ?_); rintro e w1 ⟨rfl, rfl⟩))
      | ((go_at_call 30; (with_reducible refine (H2.out _).mono ?_); rintro e w1 ⟨rfl, rfl⟩))
      | ((go_at_call 28; (with_reducible refine (or_two p q _ _ _ _).mono ?_); rintro e w1 ⟨rfl, rfl⟩)))
  go_wp2_with fail
  go_ret
  exact ⟨rfl, ((F2.out _ _).drew).alloc (by simp; omega) _⟩
end Go.Proofs.YtadkgjbidhfefaaGreatDoor
