/-
  Walks of chapter 13: which feeds are valid (the program).
-/
import Derived.Test.YtadkgjbidhfefaaDoorZOrdd13
import Derived.Test.YtadkgjbidhfefaaDoorCmp13b
set_option linter.unusedVariables false
namespace Go.Proofs.YtadkgjbidhfefaaDoor
open Go.RowKit

theorem contains_any (l : List Bytes) (x : Bytes) (u : Value) (w : World) (p : Nat → Prop) (h : ElsP strE w p u l) (hl : l.length ≤ 1000000000000) :
    Calls Tryd.prog 59 #[u, .string (S x)] w fun e w' => e = .returned (.bool (l.contains x)) ∧ w' = w := by
  obtain ⟨A, c, rfl, _⟩ := h.slice
  by_cases hn : l = []
  · subst hn
    exact Tryd.slices_Contains_string_empty A c (S x) w
  · have hlt : 0 < l.length := List.length_pos_iff.2 hn
    obtain ⟨b, off, rfl, hpb, _⟩ := strs_cell h hlt
    have := Tryd.slices_Contains_string b off l.length c (l.map S) (S x) w (by simp) (by omega) (fun j hj => by
      have hj' : j < l.length := by simpa using hj
      obtain ⟨b', off', hA, _, hc⟩ := strs_cell h hj'
      cases hA
      rw [hc]
      simp [List.getD, hj'])
    refine this.mono ?_
    rintro e w' ⟨rfl, rfl⟩
    refine ⟨?_, rfl⟩
    congr 2
    rw [List.take_of_length_le (by simp), Bool.eq_iff_iff, Go.Lib.containsS_iff]
    simp only [List.mem_map, List.contains_iff_mem]
    constructor
    · rintro ⟨y, hy, he⟩
      have : y = x := by have := congrArg (fun s : ByteArray => s.data.toList) he; simpa [S] using this
      subst this
      exact hy
    · exact fun h => ⟨x, h, rfl⟩
theorem containsE_any (l : List Bytes) (u : Value) (w : World) (p : Nat → Prop) (h : ElsP strE w p u l) (hl : l.length ≤ 1000000000000) :
    Calls Tryd.prog 59 #[u, .string ⟨#[]⟩] w fun e w' => e = .returned (.bool (l.contains [])) ∧ w' = w := contains_any l [] u w p h hl

/-- Which feeds are valid. -/
def vldF (f : Fe) : Bool := (decide (f.path.length ≤ 64) && !(f.path.contains []) && f.path.all vldT) && !f.id.isEmpty && inT f.upd && (strsF f).all vldT && ordEs f.ents
/-- A feed that is not too large. -/
structure FSz (f : Fe) : Prop where
  path : f.path.length ≤ 100000
  strs : (f.path.map List.length).sum ≤ 100000
  head : f.id.length + f.title.length + f.link.length ≤ 100000
  ents : ∀ e ∈ f.ents, esz e ≤ 100000
  many : f.ents.length ≤ 1000000
theorem FSz.each {f : Fe} (h : FSz f) : ∀ s ∈ f.path, s.length ≤ 1000000 := fun s hs => by
  obtain ⟨i, hi, rfl⟩ := List.getElem_of_mem hs
  have := mem_sum hi
  have := h.strs
  omega

set_option maxHeartbeats 4000000 in
set_option maxRecDepth 100000 in
theorem checkFeed_any (f : Fe) (u : Value) (w : World) (hT : TabJ w) (hs : FSz f) (hu : FeeV w (· < w.heap.size) f u) :
    Calls Tryd.prog 28 #[u] w fun x w' => x = .returned (.int .i64 (er13 (vldF f))) ∧ Below w.heap.size w w' := by
  obtain ⟨PA, pc, EA, ec, rfl, hp, he, hpc, hec⟩ := hu.open_
  have hA0 : Below w.heap.size w (w.alloc (feeBox f PA pc EA ec)) := (Below.refl _ _).alloc (Nat.le_refl _) _
  have hz0 : (w.alloc (feeBox f PA pc EA ec)).heap.size = w.heap.size + 1 := by simp
  have hco := fun W => fun (hW : Below w.heap.size w W) => containsE_any f.path _ W (· < w.heap.size) (hp.keep strE_ok hW.block (fun _ h => h)) (by have := hs.path; omega)
  have hal := fun W => fun (hW : Below w.heap.size w W) => all13_any f.path _ W (hT.next hW) (hp.keep strE_ok hW.block (fun k hk => Nat.lt_of_lt_of_le hk hW.size)) (by have := hs.path; omega) hs.each
  have hor := fun W => fun (hW : Below w.heap.size w W) => orderedE_any f.ents _ W (hT.next hW) (he.keep entE_ok hW.block (fun k hk => Nat.lt_of_lt_of_le hk hW.size)) (by have := hs.many; omega) hs.ents
  have hal2 := fun (W : World) (b : Nat) (hW : Below w.heap.size w W) (hb : W.heap[b]? = some (.cells #[.string (S f.id), .string (S f.title), .string (S f.link)] 9)) => all13_any (strsF f) _ W (hT.next hW) (els_three hb) (by simp [strsF]) (fun s hs2 => by have := hs.head; simp [strsF] at hs2; rcases hs2 with rfl | rfl | rfl <;> omega)
  have hti := fun W => inTime_any f.upd W
  have hkp : ∀ W, Below (w.heap.size + 1) (w.alloc (feeBox f PA pc EA ec)) W → W.cell? ⟨w.heap.size, 0, none⟩ = some (.slice PA f.path.length pc) ∧ W.cell? ⟨w.heap.size, 1, none⟩ = some (.string (S f.id)) ∧ W.cell? ⟨w.heap.size, 2, none⟩ = some (.string (S f.title)) ∧ W.cell? ⟨w.heap.size, 3, none⟩ = some (.string (S f.link)) ∧ W.cell? ⟨w.heap.size, 4, none⟩ = some (.int .i64 f.upd) ∧ W.cell? ⟨w.heap.size, 5, none⟩ = some (.slice EA f.ents.length ec) := fun W hW =>
    cells6 ((hW.block w.heap.size (by omega)).trans (heap_alloc_new w (feeBox f PA pc EA ec)))
  have HCK := Lib.hid (fun b W => checked_any b W)
  have KEEP := Lib.hid hkp
  have HA0 := Lib.hid hA0
  have R0 := Lib.hid (show Below (w.heap.size + 1) (w.alloc (feeBox f PA pc EA ec)) (w.alloc (feeBox f PA pc EA ec)) from Below.refl _ _)
  have HCO := Lib.hid hco
  have HAL := Lib.hid hal
  have HOR := Lib.hid hor
  have HAL2 := Lib.hid hal2
  have HTI := Lib.hid hti
  have hpl : f.path.length ≤ 1000000 := by have := hs.path; omega
  clear hkp hA0 hco hal hor hal2 hti hT hs hp he hu hz0
  unfold vldF
  generalize f.path.contains [] = qc at *
  generalize f.path.all vldT = qa at *
  generalize ordEs f.ents = qo at *
  generalize (strsF f).all vldT = qs at *
  generalize inT f.upd = qt at *
  by_cases h64 : f.path.length ≤ 64
  · have q64 : (f.path.length : Int) ≤ 64 := by omega
    rw [decide_eq_true h64, Bool.true_and]
    clear h64
    cases qc with
    | true =>
      rw [Bool.not_true, Bool.false_and, Bool.false_and, Bool.false_and, Bool.false_and, Bool.false_and]
      go_enter Tryd.func28, Tryd.ntmps28
      go_wp2_with (first
        | (go_at_call 59; (with_reducible refine (HCO.out _ HA0.out).mono ?_); rintro x wq ⟨rfl, rfl⟩)
        | (go_at_call 60; (with_reducible refine (HAL.out _ HA0.out).mono ?_); rintro x w1 ⟨rfl, hb1⟩; have r1 := R0.out.trans (hb1.mono (by simp)); have hz1 : w.heap.size + 1 ≤ w1.heap.size := (by have := r1.size; simpa using this); have HW1 := Lib.hid (HA0.out.trans (r1.mono (by omega))); have R1 := Lib.hid r1; obtain ⟨k0, k1, k2, k3, k4, k5⟩ := KEEP.out _ r1; clear hb1 r1)
        | (go_at_call 63; (with_reducible refine (HTI.out _).mono ?_); rintro x w1 ⟨rfl, rfl⟩)
        | (go_at_call 60; (with_reducible refine (HAL2.out _ _ (HW1.out.alloc (by omega) _) (heap_alloc_new w1 _)).mono ?_); rintro x w2 ⟨rfl, hb2⟩; have r2 := (R1.out.alloc hz1 (.cells #[.string (S f.id), .string (S f.title), .string (S f.link)] 9)).trans (hb2.mono (by simp; omega)); have hz2 : w.heap.size + 1 ≤ w2.heap.size := (by have := r2.size; simpa using this); have HW2 := Lib.hid (HA0.out.trans (r2.mono (by omega))); have R2 := Lib.hid r2; clear k0 k1 k2 k3 k4 k5; obtain ⟨k0, k1, k2, k3, k4, k5⟩ := KEEP.out _ r2; clear hb2 r2)
        | (go_at_call 64; (with_reducible refine (HOR.out _ HW2.out).mono ?_); rintro x w3 ⟨rfl, hb3⟩; have R3 := Lib.hid (R2.out.trans (hb3.mono hz2)); clear hb3)
        | (go_at_call 62; refine (HCK.out _ _).mono ?_; rintro x wq ⟨rfl, rfl⟩))
      go_ret
      exact ⟨rfl, HA0.out.trans (R0.out.mono (Nat.le_succ _))⟩
    | false =>
      rw [Bool.not_false, Bool.true_and]
      cases qa with
      | false =>
        rw [Bool.false_and, Bool.false_and, Bool.false_and, Bool.false_and]
        go_enter Tryd.func28, Tryd.ntmps28
        go_wp2_with (first
          | (go_at_call 59; (with_reducible refine (HCO.out _ HA0.out).mono ?_); rintro x wq ⟨rfl, rfl⟩)
          | (go_at_call 60; (with_reducible refine (HAL.out _ HA0.out).mono ?_); rintro x w1 ⟨rfl, hb1⟩; have r1 := R0.out.trans (hb1.mono (by simp)); have hz1 : w.heap.size + 1 ≤ w1.heap.size := (by have := r1.size; simpa using this); have HW1 := Lib.hid (HA0.out.trans (r1.mono (by omega))); have R1 := Lib.hid r1; obtain ⟨k0, k1, k2, k3, k4, k5⟩ := KEEP.out _ r1; clear hb1 r1)
          | (go_at_call 63; (with_reducible refine (HTI.out _).mono ?_); rintro x w1 ⟨rfl, rfl⟩)
          | (go_at_call 60; (with_reducible refine (HAL2.out _ _ (HW1.out.alloc (by omega) _) (heap_alloc_new w1 _)).mono ?_); rintro x w2 ⟨rfl, hb2⟩; have r2 := (R1.out.alloc hz1 (.cells #[.string (S f.id), .string (S f.title), .string (S f.link)] 9)).trans (hb2.mono (by simp; omega)); have hz2 : w.heap.size + 1 ≤ w2.heap.size := (by have := r2.size; simpa using this); have HW2 := Lib.hid (HA0.out.trans (r2.mono (by omega))); have R2 := Lib.hid r2; clear k0 k1 k2 k3 k4 k5; obtain ⟨k0, k1, k2, k3, k4, k5⟩ := KEEP.out _ r2; clear hb2 r2)
          | (go_at_call 64; (with_reducible refine (HOR.out _ HW2.out).mono ?_); rintro x w3 ⟨rfl, hb3⟩; have R3 := Lib.hid (R2.out.trans (hb3.mono hz2)); clear hb3)
          | (go_at_call 62; refine (HCK.out _ _).mono ?_; rintro x wq ⟨rfl, rfl⟩))
        go_ret
        exact ⟨rfl, HA0.out.trans (R1.out.mono (Nat.le_succ _))⟩
      | true =>
        rw [Bool.true_and]
        cases hi : f.id.isEmpty with
        | true =>
          have t2 : (f.id == []) = true := by cases h : f.id with | nil => rfl | cons _ _ => rw [h] at hi; cases hi
          have t3 : (f.id != []) = false := by rw [bne, t2]; rfl
          rw [Bool.not_true, Bool.false_and, Bool.false_and, Bool.false_and]
          go_enter Tryd.func28, Tryd.ntmps28
          go_wp2_with (first
            | (go_at_call 59; (with_reducible refine (HCO.out _ HA0.out).mono ?_); rintro x wq ⟨rfl, rfl⟩)
            | (go_at_call 60; (with_reducible refine (HAL.out _ HA0.out).mono ?_); rintro x w1 ⟨rfl, hb1⟩; have r1 := R0.out.trans (hb1.mono (by simp)); have hz1 : w.heap.size + 1 ≤ w1.heap.size := (by have := r1.size; simpa using this); have HW1 := Lib.hid (HA0.out.trans (r1.mono (by omega))); have R1 := Lib.hid r1; obtain ⟨k0, k1, k2, k3, k4, k5⟩ := KEEP.out _ r1; clear hb1 r1)
            | (go_at_call 63; (with_reducible refine (HTI.out _).mono ?_); rintro x w1 ⟨rfl, rfl⟩)
            | (go_at_call 60; (with_reducible refine (HAL2.out _ _ (HW1.out.alloc (by omega) _) (heap_alloc_new w1 _)).mono ?_); rintro x w2 ⟨rfl, hb2⟩; have r2 := (R1.out.alloc hz1 (.cells #[.string (S f.id), .string (S f.title), .string (S f.link)] 9)).trans (hb2.mono (by simp; omega)); have hz2 : w.heap.size + 1 ≤ w2.heap.size := (by have := r2.size; simpa using this); have HW2 := Lib.hid (HA0.out.trans (r2.mono (by omega))); have R2 := Lib.hid r2; clear k0 k1 k2 k3 k4 k5; obtain ⟨k0, k1, k2, k3, k4, k5⟩ := KEEP.out _ r2; clear hb2 r2)
            | (go_at_call 64; (with_reducible refine (HOR.out _ HW2.out).mono ?_); rintro x w3 ⟨rfl, hb3⟩; have R3 := Lib.hid (R2.out.trans (hb3.mono hz2)); clear hb3)
            | (go_at_call 62; refine (HCK.out _ _).mono ?_; rintro x wq ⟨rfl, rfl⟩))
          go_ret
          exact ⟨rfl, HA0.out.trans (R1.out.mono (Nat.le_succ _))⟩
        | false =>
          have t2 : (f.id == []) = false := by cases h : f.id with | nil => rw [h] at hi; cases hi | cons _ _ => rfl
          have t3 : (f.id != []) = true := by rw [bne, t2]; rfl
          rw [Bool.not_false, Bool.true_and]
          cases qt with
          | false =>
            rw [Bool.false_and, Bool.false_and]
            go_enter Tryd.func28, Tryd.ntmps28
            go_wp2_with (first
              | (go_at_call 59; (with_reducible refine (HCO.out _ HA0.out).mono ?_); rintro x wq ⟨rfl, rfl⟩)
              | (go_at_call 60; (with_reducible refine (HAL.out _ HA0.out).mono ?_); rintro x w1 ⟨rfl, hb1⟩; have r1 := R0.out.trans (hb1.mono (by simp)); have hz1 : w.heap.size + 1 ≤ w1.heap.size := (by have := r1.size; simpa using this); have HW1 := Lib.hid (HA0.out.trans (r1.mono (by omega))); have R1 := Lib.hid r1; obtain ⟨k0, k1, k2, k3, k4, k5⟩ := KEEP.out _ r1; clear hb1 r1)
              | (go_at_call 63; (with_reducible refine (HTI.out _).mono ?_); rintro x w1 ⟨rfl, rfl⟩)
              | (go_at_call 60; (with_reducible refine (HAL2.out _ _ (HW1.out.alloc (by omega) _) (heap_alloc_new w1 _)).mono ?_); rintro x w2 ⟨rfl, hb2⟩; have r2 := (R1.out.alloc hz1 (.cells #[.string (S f.id), .string (S f.title), .string (S f.link)] 9)).trans (hb2.mono (by simp; omega)); have hz2 : w.heap.size + 1 ≤ w2.heap.size := (by have := r2.size; simpa using this); have HW2 := Lib.hid (HA0.out.trans (r2.mono (by omega))); have R2 := Lib.hid r2; clear k0 k1 k2 k3 k4 k5; obtain ⟨k0, k1, k2, k3, k4, k5⟩ := KEEP.out _ r2; clear hb2 r2)
              | (go_at_call 64; (with_reducible refine (HOR.out _ HW2.out).mono ?_); rintro x w3 ⟨rfl, hb3⟩; have R3 := Lib.hid (R2.out.trans (hb3.mono hz2)); clear hb3)
              | (go_at_call 62; refine (HCK.out _ _).mono ?_; rintro x wq ⟨rfl, rfl⟩))
            go_ret
            exact ⟨rfl, HA0.out.trans (R1.out.mono (Nat.le_succ _))⟩
          | true =>
            rw [Bool.true_and]
            cases qs with
            | false =>
              rw [Bool.false_and]
              go_enter Tryd.func28, Tryd.ntmps28
              go_wp2_with (first
                | (go_at_call 59; (with_reducible refine (HCO.out _ HA0.out).mono ?_); rintro x wq ⟨rfl, rfl⟩)
                | (go_at_call 60; (with_reducible refine (HAL.out _ HA0.out).mono ?_); rintro x w1 ⟨rfl, hb1⟩; have r1 := R0.out.trans (hb1.mono (by simp)); have hz1 : w.heap.size + 1 ≤ w1.heap.size := (by have := r1.size; simpa using this); have HW1 := Lib.hid (HA0.out.trans (r1.mono (by omega))); have R1 := Lib.hid r1; obtain ⟨k0, k1, k2, k3, k4, k5⟩ := KEEP.out _ r1; clear hb1 r1)
                | (go_at_call 63; (with_reducible refine (HTI.out _).mono ?_); rintro x w1 ⟨rfl, rfl⟩)
                | (go_at_call 60; (with_reducible refine (HAL2.out _ _ (HW1.out.alloc (by omega) _) (heap_alloc_new w1 _)).mono ?_); rintro x w2 ⟨rfl, hb2⟩; have r2 := (R1.out.alloc hz1 (.cells #[.string (S f.id), .string (S f.title), .string (S f.link)] 9)).trans (hb2.mono (by simp; omega)); have hz2 : w.heap.size + 1 ≤ w2.heap.size := (by have := r2.size; simpa using this); have HW2 := Lib.hid (HA0.out.trans (r2.mono (by omega))); have R2 := Lib.hid r2; clear k0 k1 k2 k3 k4 k5; obtain ⟨k0, k1, k2, k3, k4, k5⟩ := KEEP.out _ r2; clear hb2 r2)
                | (go_at_call 64; (with_reducible refine (HOR.out _ HW2.out).mono ?_); rintro x w3 ⟨rfl, hb3⟩; have R3 := Lib.hid (R2.out.trans (hb3.mono hz2)); clear hb3)
                | (go_at_call 62; refine (HCK.out _ _).mono ?_; rintro x wq ⟨rfl, rfl⟩))
              go_ret
              exact ⟨rfl, HA0.out.trans (R2.out.mono (Nat.le_succ _))⟩
            | true =>
              rw [Bool.true_and]
              go_enter Tryd.func28, Tryd.ntmps28
              go_wp2_with (first
                | (go_at_call 59; (with_reducible refine (HCO.out _ HA0.out).mono ?_); rintro x wq ⟨rfl, rfl⟩)
                | (go_at_call 60; (with_reducible refine (HAL.out _ HA0.out).mono ?_); rintro x w1 ⟨rfl, hb1⟩; have r1 := R0.out.trans (hb1.mono (by simp)); have hz1 : w.heap.size + 1 ≤ w1.heap.size := (by have := r1.size; simpa using this); have HW1 := Lib.hid (HA0.out.trans (r1.mono (by omega))); have R1 := Lib.hid r1; obtain ⟨k0, k1, k2, k3, k4, k5⟩ := KEEP.out _ r1; clear hb1 r1)
                | (go_at_call 63; (with_reducible refine (HTI.out _).mono ?_); rintro x w1 ⟨rfl, rfl⟩)
                | (go_at_call 60; (with_reducible refine (HAL2.out _ _ (HW1.out.alloc (by omega) _) (heap_alloc_new w1 _)).mono ?_); rintro x w2 ⟨rfl, hb2⟩; have r2 := (R1.out.alloc hz1 (.cells #[.string (S f.id), .string (S f.title), .string (S f.link)] 9)).trans (hb2.mono (by simp; omega)); have hz2 : w.heap.size + 1 ≤ w2.heap.size := (by have := r2.size; simpa using this); have HW2 := Lib.hid (HA0.out.trans (r2.mono (by omega))); have R2 := Lib.hid r2; clear k0 k1 k2 k3 k4 k5; obtain ⟨k0, k1, k2, k3, k4, k5⟩ := KEEP.out _ r2; clear hb2 r2)
                | (go_at_call 64; (with_reducible refine (HOR.out _ HW2.out).mono ?_); rintro x w3 ⟨rfl, hb3⟩; have R3 := Lib.hid (R2.out.trans (hb3.mono hz2)); clear hb3)
                | (go_at_call 62; refine (HCK.out _ _).mono ?_; rintro x wq ⟨rfl, rfl⟩))
              go_ret
              exact ⟨rfl, HA0.out.trans (R3.out.mono (Nat.le_succ _))⟩
  · have q64 : ¬ (f.path.length : Int) ≤ 64 := by omega
    rw [decide_eq_false h64, Bool.false_and, Bool.false_and, Bool.false_and, Bool.false_and, Bool.false_and, Bool.false_and]
    clear h64
    go_enter Tryd.func28, Tryd.ntmps28
    go_wp2_with (first
      | (go_at_call 59; (with_reducible refine (HCO.out _ HA0.out).mono ?_); rintro x wq ⟨rfl, rfl⟩)
      | (go_at_call 60; (with_reducible refine (HAL.out _ HA0.out).mono ?_); rintro x w1 ⟨rfl, hb1⟩; have r1 := R0.out.trans (hb1.mono (by simp)); have hz1 : w.heap.size + 1 ≤ w1.heap.size := (by have := r1.size; simpa using this); have HW1 := Lib.hid (HA0.out.trans (r1.mono (by omega))); have R1 := Lib.hid r1; obtain ⟨k0, k1, k2, k3, k4, k5⟩ := KEEP.out _ r1; clear hb1 r1)
      | (go_at_call 63; (with_reducible refine (HTI.out _).mono ?_); rintro x w1 ⟨rfl, rfl⟩)
      | (go_at_call 60; (with_reducible refine (HAL2.out _ _ (HW1.out.alloc (by omega) _) (heap_alloc_new w1 _)).mono ?_); rintro x w2 ⟨rfl, hb2⟩; have r2 := (R1.out.alloc hz1 (.cells #[.string (S f.id), .string (S f.title), .string (S f.link)] 9)).trans (hb2.mono (by simp; omega)); have hz2 : w.heap.size + 1 ≤ w2.heap.size := (by have := r2.size; simpa using this); have HW2 := Lib.hid (HA0.out.trans (r2.mono (by omega))); have R2 := Lib.hid r2; clear k0 k1 k2 k3 k4 k5; obtain ⟨k0, k1, k2, k3, k4, k5⟩ := KEEP.out _ r2; clear hb2 r2)
      | (go_at_call 64; (with_reducible refine (HOR.out _ HW2.out).mono ?_); rintro x w3 ⟨rfl, hb3⟩; have R3 := Lib.hid (R2.out.trans (hb3.mono hz2)); clear hb3)
      | (go_at_call 62; refine (HCK.out _ _).mono ?_; rintro x wq ⟨rfl, rfl⟩))
    go_ret
    exact ⟨rfl, HA0.out.trans (R0.out.mono (Nat.le_succ _))⟩
end Go.Proofs.YtadkgjbidhfefaaDoor
