/-
  Several texts in one file, in build order:
  - Walks of chapter 13: LaterEntry (the program); which entries are valid (both).
  - Walks of chapter 13: ordered, at entries (the program).
  - Walks of chapter 13: which feeds are valid (the program).
  - Walks of chapter 13: which feeds are valid (the reference).
-/
import Derived.Test.YtadkgjbidhfefaaGreatDoorLat13b
import Derived.Test.YtadkgjbidhfefaaGreatDoorCol13
import Derived.Test.YtadkgjbidhfefaaGreatDoorSeen
import Derived.Test.YtadkgjbidhfefaaGreatDoorCmp13b
set_option linter.unusedVariables false
namespace Go.Proofs.YtadkgjbidhfefaaGreatDoor
open Go.RowKit

set_option maxHeartbeats 4000000 in
set_option maxRecDepth 100000 in
theorem laterEntry_any (a b : En) (w : World) (hT : TabJ w) (hf : EFit a) (hg : EFit b) (hs : a.id.length + a.title.length + a.link.length + a.content.length ≤ 100000) (ht : b.id.length + b.title.length + b.link.length + b.content.length ≤ 100000) :
    Calls Tryz.prog 16 #[entV a, entV b] w fun x w' => x = .returned (entV (lat3 cmpK a b)) ∧ Below w.heap.size w w' := by
  have E0 := Lib.hid (Ent3.new w a b)
  have F3 : Hid (Below w.heap.size w (((w.alloc (entBox a)).alloc (entBox b)).alloc zEntO)) := (((Below.refl _ _).alloc (Nat.le_refl _) _).alloc (by simp) _).alloc (by simp; omega) _
  have hl := laterE_any a b (((w.alloc (entBox a)).alloc (entBox b)).alloc zEntO) (hT.next F3.out) hf hg hs ht
  generalize lat3 cmpK a b = L at *
  have HL := Lib.hid hl
  obtain ⟨⟨a0, a1, a2, a3, a4⟩, b0, b1, b2, b3, b4⟩ := E0.out.cells
  clear hl hT hf hg hs ht
  go_enter Tryz.func16, Tryz.ntmps16
  go_wp2_with fail
  refine HL.out.mono ?_
  rintro x w1 ⟨rfl, hb1⟩
  have E1 := E0.out.next hb1
  have R1 := E1.res
  go_wp2_with (with_reducible refine gate ?_; refine wp_store_ent rfl _ _ rfl (w.heap.size + 1 + 1) _ _ _ _ _ _ rfl rfl R1 rfl ?_; intro w4 hw4 hu4)
  refine bodyPost_ret (v := .agg _) (res_whole Tryz.results16 _ _ (w.heap.size + 1 + 1) rfl _ _ hw4 Tryz.underlying39 rfl entSize) rfl ⟨rfl, ?_⟩
  have hz1 := hb1.size
  simp only [World.size_alloc] at hz1
  exact (F3.out.trans (hb1.mono (by simp; omega))).trans (hu4.below (by omega) (by omega))

/-! Checks. -/
def inT (t : Int) : Bool := decide (-62135596800 ≤ t) && decide (t ≤ 253402300799)
set_option maxHeartbeats 1000000 in
theorem inTime_any (t : Int) (w : World) : Calls Tryz.prog 40 #[.int .i64 t] w fun x w' => x = .returned (.bool (inT t)) ∧ w' = w := by
  unfold inT
  by_cases h1 : -62135596800 ≤ t <;> by_cases h2 : t ≤ 253402300799
  all_goals
    go_enter Tryz.func40, Tryz.ntmps40
    go_wp2
    go_ret
    exact ⟨ret_bool (by simp [h1, h2]), rfl⟩
set_option maxHeartbeats 1000000 in
theorem refInTime_any (t : Int) (w : World) : Calls Tryz.prog 24 #[.int .i64 t] w fun x w' => x = .returned (.bool (inT t)) ∧ w' = w := by
  unfold inT
  by_cases h1 : -62135596800 ≤ t <;> by_cases h2 : t ≤ 253402300799
  all_goals
    go_enter Tryz.func24, Tryz.ntmps24
    go_wp2
    go_ret
    exact ⟨ret_bool (by simp [h1, h2]), rfl⟩
/-- The error of a check. -/
def er13 (b : Bool) : Int := if b = true then 0 else 22
set_option maxHeartbeats 1000000 in
theorem checked_any (b : Bool) (w : World) : Calls Tryz.prog 35 #[.bool b] w fun x w' => x = .returned (.int .i64 (er13 b)) ∧ w' = w := by
  cases b
  all_goals
    go_enter Tryz.func35, Tryz.ntmps35
    go_wp2
    go_ret
    exact ⟨rfl, rfl⟩
set_option maxHeartbeats 2000000 in
set_option maxRecDepth 100000 in
theorem all13_any (l : List Bytes) (u : Value) (w : World) (hT : TabJ w) (h : ElsP strE w (· < w.heap.size) u l) (hl : l.length ≤ 1000000000000) (hs : ∀ s ∈ l, s.length ≤ 1000000) :
    Calls Tryz.prog 41 #[u] w fun x w' => x = .returned (.bool (l.all vldT)) ∧ Below w.heap.size w w' := by
  obtain ⟨A0, c0, rfl, _⟩ := h.slice
  have HL := Lib.hid h
  have HT := Lib.hid hT
  have HS := Lib.hid hs
  obtain ⟨q, hq⟩ : ∃ q, l.all vldT = q := ⟨_, rfl⟩
  rw [hq]
  have HQ := Lib.hid (show (l.drop 0).all vldT = q from hq)
  clear h hT hs hq
  go_enter Tryz.func41, Tryz.ntmps41
  go_wp2_with fail
  go_loopw [7] (fun i7 wr => ∃ i : Nat, i ≤ l.length ∧ i7 = .int .i64 i ∧ (l.drop i).all vldT = q ∧ Below w.heap.size w wr) (fun i7 _ => l.length - (intOf i7).toNat)
  case atStart => exact ⟨0, Nat.zero_le _, rfl, HQ.out, Below.refl _ _⟩
  case round =>
    obtain ⟨i, hi, rfl, hres, hb⟩ := hrel
    have HB := Lib.hid hb
    have hsz := hb.size
    clear hb HQ
    by_cases hlt : i < l.length
    · have hlt' : (i : Int) < l.length := by omega
      obtain ⟨b, off, rfl, hpb, hc1⟩ := strs_cell (HL.out.keep strE_ok HB.out.block (fun _ h => h)) hlt
      have hxl := HS.out _ (List.getElem_mem hlt)
      rw [List.drop_eq_getElem_cons hlt, List.all_cons] at hres
      generalize l[i] = x at *
      have hv := validT_any x wr (HT.out.next HB.out) hxl
      cases hu : vldT x with
      | false =>
        rw [hu] at hv hres
        rw [Bool.false_and] at hres
        subst hres
        have HV := Lib.hid hv
        clear hv hu
        go_wp2_with (go_at_call 59; refine HV.out.mono ?_; rintro e w2 ⟨rfl, hb2⟩)
        go_ret
        exact ⟨rfl, HB.out.trans (hb2.mono hsz)⟩
      | true =>
        rw [hu] at hv hres
        rw [Bool.true_and] at hres
        have HV := Lib.hid hv
        have HRES := Lib.hid hres
        clear hv hu hres
        go_wp2_with (go_at_call 59; refine HV.out.mono ?_; rintro e w2 ⟨rfl, hb2⟩)
        go_roundw
        case rel => exact ⟨i + 1, by omega, by go_num, HRES.out, HB.out.trans (hb2.mono hsz)⟩
        case measure => simp [intOf]; omega
    · obtain rfl : i = l.length := by omega
      rw [List.drop_length] at hres
      subst hres
      have hlt' : ¬ (l.length : Int) < l.length := by omega
      go_wp2_with fail
      go_ret
      exact ⟨rfl, HB.out⟩

/-- Which entries are valid. -/
def vldE (e : En) : Bool := !e.id.isEmpty && inT e.upd && (strsE e).all vldT

set_option maxHeartbeats 4000000 in
set_option maxRecDepth 100000 in
theorem checkEntry_any (e : En) (w : World) (hT : TabJ w) (hs : e.id.length + e.title.length + e.link.length + e.content.length ≤ 100000) :
    Calls Tryz.prog 15 #[entV e] w fun x w' => x = .returned (.int .i64 (er13 (vldE e))) ∧ Below w.heap.size w w' := by
  have hA0 : Below w.heap.size w (w.alloc (entBox e)) := (Below.refl _ _).alloc (Nat.le_refl _) _
  have hnew : ((w.alloc (entBox e)).alloc (.cells #[.string (S e.id), .string (S e.title), .string (S e.link), .string (S e.content)] 9)).heap[w.heap.size + 1]? = some (.cells #[.string (S e.id), .string (S e.title), .string (S e.link), .string (S e.content)] 9) := by
    have := heap_alloc_new (w.alloc (entBox e)) (.cells #[.string (S e.id), .string (S e.title), .string (S e.link), .string (S e.content)] 9)
    simpa using this
  have hall := all13_any (strsE e) _ _ (hT.next (hA0.alloc (by simp) _)) (els_four hnew) (by simp [strsE]) (fun s hs => by simp [strsE] at hs; rcases hs with rfl | rfl | rfl | rfl <;> omega)
  have hti := fun W => inTime_any e.upd W
  have HALL := Lib.hid hall
  have HTI := Lib.hid hti
  have HA0 := Lib.hid hA0
  have HCK := Lib.hid (fun b W => checked_any b W)
  clear hnew hall hti hA0 hT hs
  unfold vldE
  cases hi : e.id.isEmpty with
  | true =>
    have t2 : (e.id == []) = true := by cases h : e.id with | nil => rfl | cons _ _ => rw [h] at hi; cases hi
    have t3 : (e.id != []) = false := by rw [bne, t2]; rfl
    rw [Bool.not_true, Bool.false_and, Bool.false_and]
    go_enter Tryz.func15, Tryz.ntmps15
    go_wp2_with (go_at_call 35; refine (HCK.out _ _).mono ?_; rintro x wq ⟨rfl, rfl⟩)
    go_ret
    exact ⟨rfl, HA0.out⟩
  | false =>
    have t2 : (e.id == []) = false := by cases h : e.id with | nil => rw [h] at hi; cases hi | cons _ _ => rfl
    have t3 : (e.id != []) = true := by rw [bne, t2]; rfl
    rw [Bool.not_false, Bool.true_and]
    generalize inT e.upd = q at *
    generalize (strsE e).all vldT = r at *
    cases q with
    | false =>
      rw [Bool.false_and]
      go_enter Tryz.func15, Tryz.ntmps15
      go_wp2_with (first
        | (go_at_call 40; refine (HTI.out _).mono ?_; rintro x wq ⟨rfl, rfl⟩)
        | (go_at_call 35; refine (HCK.out _ _).mono ?_; rintro x wq ⟨rfl, rfl⟩))
      go_ret
      exact ⟨rfl, HA0.out⟩
    | true =>
      rw [Bool.true_and]
      go_enter Tryz.func15, Tryz.ntmps15
      go_wp2_with (first
        | (go_at_call 40; refine (HTI.out _).mono ?_; rintro x wq ⟨rfl, rfl⟩)
        | (go_at_call 41; refine HALL.out.mono ?_; rintro x w2 ⟨rfl, hb2⟩)
        | (go_at_call 35; refine (HCK.out _ _).mono ?_; rintro x wq ⟨rfl, rfl⟩))
      go_ret
      exact ⟨rfl, (HA0.out.alloc (by simp) _).trans (hb2.mono (by simp; omega))⟩
set_option maxHeartbeats 4000000 in
set_option maxRecDepth 100000 in
theorem refCheckEntry_any (e : En) (w : World) (hs : e.id.length + e.title.length + e.link.length + e.content.length ≤ 100000) :
    Calls Tryz.prog 25 #[entV e] w fun x w' => x = .returned (.int .i64 (er13 (vldE e))) ∧ Below w.heap.size w w' := by
  have hA0 : Below w.heap.size w (w.alloc (entBox e)) := (Below.refl _ _).alloc (Nat.le_refl _) _
  have h0 := fun W => refValidT_any e.id W (by omega)
  have h1 := fun W => refValidT_any e.title W (by omega)
  have h2 := fun W => refValidT_any e.link W (by omega)
  have h3 := fun W => refValidT_any e.content W (by omega)
  have hti := fun W => refInTime_any e.upd W
  have HTI := Lib.hid hti
  have HA0 := Lib.hid hA0
  have hx : ∀ W, Below (w.heap.size + 1) (w.alloc (entBox e)) W → W.cell? ⟨w.heap.size, 0, none⟩ = some (.string (S e.id)) ∧ W.cell? ⟨w.heap.size, 1, none⟩ = some (.string (S e.title)) ∧ W.cell? ⟨w.heap.size, 2, none⟩ = some (.string (S e.link)) ∧ W.cell? ⟨w.heap.size, 3, none⟩ = some (.string (S e.content)) ∧ W.cell? ⟨w.heap.size, 4, none⟩ = some (.int .i64 e.upd) := fun W hW =>
    cells5 ((hW.block w.heap.size (by omega)).trans (heap_alloc_new w (entBox e)))
  have KEEP := Lib.hid hx
  have hv : vldE e = (vldT e.id && (vldT e.title && (vldT e.link && (vldT e.content && (!e.id.isEmpty && inT e.upd))))) := by
    unfold vldE strsE
    simp only [List.all_cons, List.all_nil, Bool.and_true]
    cases e.id.isEmpty <;> cases inT e.upd <;> cases vldT e.id <;> cases vldT e.title <;> cases vldT e.link <;> cases vldT e.content <;> rfl
  rw [hv]
  clear hx hv hti hA0 hs
  have hz : (w.alloc (entBox e)).heap.size = w.heap.size + 1 := by simp
  have R0 := Lib.hid (show Below (w.heap.size + 1) (w.alloc (entBox e)) (w.alloc (entBox e)) from Below.refl _ _)
  generalize vldT e.id = v0 at *
  generalize vldT e.title = v1 at *
  generalize vldT e.link = v2 at *
  generalize vldT e.content = v3 at *
  generalize inT e.upd = q at *
  have H0 := Lib.hid h0
  have H1 := Lib.hid h1
  have H2 := Lib.hid h2
  have H3 := Lib.hid h3
  clear h0 h1 h2 h3 hz
  cases v0 with
  | false =>
    rw [Bool.false_and]
    go_enter Tryz.func25, Tryz.ntmps25
    go_wp2_with (first
      | (go_at_call 23; (with_reducible refine (H0.out _).mono ?_); rintro x w1 ⟨rfl, hb1⟩; have r1 := R0.out.trans (hb1.mono (by simp)); have hz1 : w.heap.size + 1 ≤ w1.heap.size := (by have := r1.size; simpa using this); obtain ⟨k0, k1, k2, k3, k4⟩ := KEEP.out _ r1; clear hb1)
      | (go_at_call 23; (with_reducible refine (H1.out _).mono ?_); rintro x w2 ⟨rfl, hb2⟩; have r2 := r1.trans (hb2.mono hz1); have hz2 : w.heap.size + 1 ≤ w2.heap.size := (by have := r2.size; simpa using this); clear k0 k1 k2 k3 k4; obtain ⟨k0, k1, k2, k3, k4⟩ := KEEP.out _ r2; clear hb2)
      | (go_at_call 23; (with_reducible refine (H2.out _).mono ?_); rintro x w3 ⟨rfl, hb3⟩; have r3 := r2.trans (hb3.mono hz2); have hz3 : w.heap.size + 1 ≤ w3.heap.size := (by have := r3.size; simpa using this); clear k0 k1 k2 k3 k4; obtain ⟨k0, k1, k2, k3, k4⟩ := KEEP.out _ r3; clear hb3)
      | (go_at_call 23; (with_reducible refine (H3.out _).mono ?_); rintro x w4 ⟨rfl, hb4⟩; have r4 := r3.trans (hb4.mono hz3); clear k0 k1 k2 k3 k4; obtain ⟨k0, k1, k2, k3, k4⟩ := KEEP.out _ r4; clear hb4)
      | (go_at_call 24; refine (HTI.out _).mono ?_; rintro x wq ⟨rfl, rfl⟩))
    go_ret
    exact ⟨rfl, HA0.out.trans (r1.mono (Nat.le_succ _))⟩
  | true =>
    rw [Bool.true_and]
    cases v1 with
    | false =>
      rw [Bool.false_and]
      go_enter Tryz.func25, Tryz.ntmps25
      go_wp2_with (first
        | (go_at_call 23; (with_reducible refine (H0.out _).mono ?_); rintro x w1 ⟨rfl, hb1⟩; have r1 := R0.out.trans (hb1.mono (by simp)); have hz1 : w.heap.size + 1 ≤ w1.heap.size := (by have := r1.size; simpa using this); obtain ⟨k0, k1, k2, k3, k4⟩ := KEEP.out _ r1; clear hb1)
        | (go_at_call 23; (with_reducible refine (H1.out _).mono ?_); rintro x w2 ⟨rfl, hb2⟩; have r2 := r1.trans (hb2.mono hz1); have hz2 : w.heap.size + 1 ≤ w2.heap.size := (by have := r2.size; simpa using this); clear k0 k1 k2 k3 k4; obtain ⟨k0, k1, k2, k3, k4⟩ := KEEP.out _ r2; clear hb2)
        | (go_at_call 23; (with_reducible refine (H2.out _).mono ?_); rintro x w3 ⟨rfl, hb3⟩; have r3 := r2.trans (hb3.mono hz2); have hz3 : w.heap.size + 1 ≤ w3.heap.size := (by have := r3.size; simpa using this); clear k0 k1 k2 k3 k4; obtain ⟨k0, k1, k2, k3, k4⟩ := KEEP.out _ r3; clear hb3)
        | (go_at_call 23; (with_reducible refine (H3.out _).mono ?_); rintro x w4 ⟨rfl, hb4⟩; have r4 := r3.trans (hb4.mono hz3); clear k0 k1 k2 k3 k4; obtain ⟨k0, k1, k2, k3, k4⟩ := KEEP.out _ r4; clear hb4)
        | (go_at_call 24; refine (HTI.out _).mono ?_; rintro x wq ⟨rfl, rfl⟩))
      go_ret
      exact ⟨rfl, HA0.out.trans (r2.mono (Nat.le_succ _))⟩
    | true =>
      rw [Bool.true_and]
      cases v2 with
      | false =>
        rw [Bool.false_and]
        go_enter Tryz.func25, Tryz.ntmps25
        go_wp2_with (first
          | (go_at_call 23; (with_reducible refine (H0.out _).mono ?_); rintro x w1 ⟨rfl, hb1⟩; have r1 := R0.out.trans (hb1.mono (by simp)); have hz1 : w.heap.size + 1 ≤ w1.heap.size := (by have := r1.size; simpa using this); obtain ⟨k0, k1, k2, k3, k4⟩ := KEEP.out _ r1; clear hb1)
          | (go_at_call 23; (with_reducible refine (H1.out _).mono ?_); rintro x w2 ⟨rfl, hb2⟩; have r2 := r1.trans (hb2.mono hz1); have hz2 : w.heap.size + 1 ≤ w2.heap.size := (by have := r2.size; simpa using this); clear k0 k1 k2 k3 k4; obtain ⟨k0, k1, k2, k3, k4⟩ := KEEP.out _ r2; clear hb2)
          | (go_at_call 23; (with_reducible refine (H2.out _).mono ?_); rintro x w3 ⟨rfl, hb3⟩; have r3 := r2.trans (hb3.mono hz2); have hz3 : w.heap.size + 1 ≤ w3.heap.size := (by have := r3.size; simpa using this); clear k0 k1 k2 k3 k4; obtain ⟨k0, k1, k2, k3, k4⟩ := KEEP.out _ r3; clear hb3)
          | (go_at_call 23; (with_reducible refine (H3.out _).mono ?_); rintro x w4 ⟨rfl, hb4⟩; have r4 := r3.trans (hb4.mono hz3); clear k0 k1 k2 k3 k4; obtain ⟨k0, k1, k2, k3, k4⟩ := KEEP.out _ r4; clear hb4)
          | (go_at_call 24; refine (HTI.out _).mono ?_; rintro x wq ⟨rfl, rfl⟩))
        go_ret
        exact ⟨rfl, HA0.out.trans (r3.mono (Nat.le_succ _))⟩
      | true =>
        rw [Bool.true_and]
        cases v3 with
        | false =>
          rw [Bool.false_and]
          go_enter Tryz.func25, Tryz.ntmps25
          go_wp2_with (first
            | (go_at_call 23; (with_reducible refine (H0.out _).mono ?_); rintro x w1 ⟨rfl, hb1⟩; have r1 := R0.out.trans (hb1.mono (by simp)); have hz1 : w.heap.size + 1 ≤ w1.heap.size := (by have := r1.size; simpa using this); obtain ⟨k0, k1, k2, k3, k4⟩ := KEEP.out _ r1; clear hb1)
            | (go_at_call 23; (with_reducible refine (H1.out _).mono ?_); rintro x w2 ⟨rfl, hb2⟩; have r2 := r1.trans (hb2.mono hz1); have hz2 : w.heap.size + 1 ≤ w2.heap.size := (by have := r2.size; simpa using this); clear k0 k1 k2 k3 k4; obtain ⟨k0, k1, k2, k3, k4⟩ := KEEP.out _ r2; clear hb2)
            | (go_at_call 23; (with_reducible refine (H2.out _).mono ?_); rintro x w3 ⟨rfl, hb3⟩; have r3 := r2.trans (hb3.mono hz2); have hz3 : w.heap.size + 1 ≤ w3.heap.size := (by have := r3.size; simpa using this); clear k0 k1 k2 k3 k4; obtain ⟨k0, k1, k2, k3, k4⟩ := KEEP.out _ r3; clear hb3)
            | (go_at_call 23; (with_reducible refine (H3.out _).mono ?_); rintro x w4 ⟨rfl, hb4⟩; have r4 := r3.trans (hb4.mono hz3); clear k0 k1 k2 k3 k4; obtain ⟨k0, k1, k2, k3, k4⟩ := KEEP.out _ r4; clear hb4)
            | (go_at_call 24; refine (HTI.out _).mono ?_; rintro x wq ⟨rfl, rfl⟩))
          go_ret
          exact ⟨rfl, HA0.out.trans (r4.mono (Nat.le_succ _))⟩
        | true =>
          rw [Bool.true_and]
          cases hi : e.id.isEmpty with
          | true =>
            have t2 : (e.id == []) = true := by cases h : e.id with | nil => rfl | cons _ _ => rw [h] at hi; cases hi
            rw [Bool.not_true, Bool.false_and]
            go_enter Tryz.func25, Tryz.ntmps25
            go_wp2_with (first
              | (go_at_call 23; (with_reducible refine (H0.out _).mono ?_); rintro x w1 ⟨rfl, hb1⟩; have r1 := R0.out.trans (hb1.mono (by simp)); have hz1 : w.heap.size + 1 ≤ w1.heap.size := (by have := r1.size; simpa using this); obtain ⟨k0, k1, k2, k3, k4⟩ := KEEP.out _ r1; clear hb1)
              | (go_at_call 23; (with_reducible refine (H1.out _).mono ?_); rintro x w2 ⟨rfl, hb2⟩; have r2 := r1.trans (hb2.mono hz1); have hz2 : w.heap.size + 1 ≤ w2.heap.size := (by have := r2.size; simpa using this); clear k0 k1 k2 k3 k4; obtain ⟨k0, k1, k2, k3, k4⟩ := KEEP.out _ r2; clear hb2)
              | (go_at_call 23; (with_reducible refine (H2.out _).mono ?_); rintro x w3 ⟨rfl, hb3⟩; have r3 := r2.trans (hb3.mono hz2); have hz3 : w.heap.size + 1 ≤ w3.heap.size := (by have := r3.size; simpa using this); clear k0 k1 k2 k3 k4; obtain ⟨k0, k1, k2, k3, k4⟩ := KEEP.out _ r3; clear hb3)
              | (go_at_call 23; (with_reducible refine (H3.out _).mono ?_); rintro x w4 ⟨rfl, hb4⟩; have r4 := r3.trans (hb4.mono hz3); clear k0 k1 k2 k3 k4; obtain ⟨k0, k1, k2, k3, k4⟩ := KEEP.out _ r4; clear hb4)
              | (go_at_call 24; refine (HTI.out _).mono ?_; rintro x wq ⟨rfl, rfl⟩))
            go_ret
            exact ⟨rfl, HA0.out.trans (r4.mono (Nat.le_succ _))⟩
          | false =>
            have t2 : (e.id == []) = false := by cases h : e.id with | nil => rw [h] at hi; cases hi | cons _ _ => rfl
            rw [Bool.not_false, Bool.true_and]
            cases q with
            | false =>
              go_enter Tryz.func25, Tryz.ntmps25
              go_wp2_with (first
                | (go_at_call 23; (with_reducible refine (H0.out _).mono ?_); rintro x w1 ⟨rfl, hb1⟩; have r1 := R0.out.trans (hb1.mono (by simp)); have hz1 : w.heap.size + 1 ≤ w1.heap.size := (by have := r1.size; simpa using this); obtain ⟨k0, k1, k2, k3, k4⟩ := KEEP.out _ r1; clear hb1)
                | (go_at_call 23; (with_reducible refine (H1.out _).mono ?_); rintro x w2 ⟨rfl, hb2⟩; have r2 := r1.trans (hb2.mono hz1); have hz2 : w.heap.size + 1 ≤ w2.heap.size := (by have := r2.size; simpa using this); clear k0 k1 k2 k3 k4; obtain ⟨k0, k1, k2, k3, k4⟩ := KEEP.out _ r2; clear hb2)
                | (go_at_call 23; (with_reducible refine (H2.out _).mono ?_); rintro x w3 ⟨rfl, hb3⟩; have r3 := r2.trans (hb3.mono hz2); have hz3 : w.heap.size + 1 ≤ w3.heap.size := (by have := r3.size; simpa using this); clear k0 k1 k2 k3 k4; obtain ⟨k0, k1, k2, k3, k4⟩ := KEEP.out _ r3; clear hb3)
                | (go_at_call 23; (with_reducible refine (H3.out _).mono ?_); rintro x w4 ⟨rfl, hb4⟩; have r4 := r3.trans (hb4.mono hz3); clear k0 k1 k2 k3 k4; obtain ⟨k0, k1, k2, k3, k4⟩ := KEEP.out _ r4; clear hb4)
                | (go_at_call 24; refine (HTI.out _).mono ?_; rintro x wq ⟨rfl, rfl⟩))
              go_ret
              exact ⟨rfl, HA0.out.trans (r4.mono (Nat.le_succ _))⟩
            | true =>
              go_enter Tryz.func25, Tryz.ntmps25
              go_wp2_with (first
                | (go_at_call 23; (with_reducible refine (H0.out _).mono ?_); rintro x w1 ⟨rfl, hb1⟩; have r1 := R0.out.trans (hb1.mono (by simp)); have hz1 : w.heap.size + 1 ≤ w1.heap.size := (by have := r1.size; simpa using this); obtain ⟨k0, k1, k2, k3, k4⟩ := KEEP.out _ r1; clear hb1)
                | (go_at_call 23; (with_reducible refine (H1.out _).mono ?_); rintro x w2 ⟨rfl, hb2⟩; have r2 := r1.trans (hb2.mono hz1); have hz2 : w.heap.size + 1 ≤ w2.heap.size := (by have := r2.size; simpa using this); clear k0 k1 k2 k3 k4; obtain ⟨k0, k1, k2, k3, k4⟩ := KEEP.out _ r2; clear hb2)
                | (go_at_call 23; (with_reducible refine (H2.out _).mono ?_); rintro x w3 ⟨rfl, hb3⟩; have r3 := r2.trans (hb3.mono hz2); have hz3 : w.heap.size + 1 ≤ w3.heap.size := (by have := r3.size; simpa using this); clear k0 k1 k2 k3 k4; obtain ⟨k0, k1, k2, k3, k4⟩ := KEEP.out _ r3; clear hb3)
                | (go_at_call 23; (with_reducible refine (H3.out _).mono ?_); rintro x w4 ⟨rfl, hb4⟩; have r4 := r3.trans (hb4.mono hz3); clear k0 k1 k2 k3 k4; obtain ⟨k0, k1, k2, k3, k4⟩ := KEEP.out _ r4; clear hb4)
                | (go_at_call 24; refine (HTI.out _).mono ?_; rintro x wq ⟨rfl, rfl⟩))
              go_ret
              exact ⟨rfl, HA0.out.trans (r4.mono (Nat.le_succ _))⟩
end Go.Proofs.YtadkgjbidhfefaaGreatDoor
set_option linter.unusedVariables false
set_option linter.unusedSimpArgs false
namespace Go.Proofs.YtadkgjbidhfefaaGreatDoor
open Go.RowKit

/-- Valid elements, in ascending order, of distinct names; pre: what stands ahead. -/
def ordG {α : Type} (chk : α → Bool) (cmp : α → α → Int) (idf : α → Bytes) : List α → List α → Bool
  | _, [] => true
  | pre, x :: r => chk x && (match pre.getLast? with | none => true | some p => decide (cmp p x < 0)) && !((pre.map idf).contains (idf x)) && ordG chk cmp idf (pre ++ [x]) r
section
variable {α : Type} {chk : α → Bool} {cmp : α → α → Int} {idf : α → Bytes} {l : List α} {i : Nat}
theorem ordG_zero (h : 0 < l.length) : ordG chk cmp idf (l.take 0) (l.drop 0) = (chk l[0] && ordG chk cmp idf (l.take 1) (l.drop 1)) := by
  rw [List.drop_eq_getElem_cons h, ordG]
  simp [List.take_succ_eq_append_getElem h]
theorem ordG_step (h : i < l.length) (h0 : 0 < i) : ordG chk cmp idf (l.take i) (l.drop i) = (chk l[i] && decide (cmp (l[i - 1]'(by omega)) l[i] < 0) && !(((l.take i).map idf).contains (idf l[i])) && ordG chk cmp idf (l.take (i + 1)) (l.drop (i + 1))) := by
  rw [List.drop_eq_getElem_cons h, ordG]
  have e : (l.take i).getLast? = some (l[i - 1]'(by omega)) := by
    rw [List.getLast?_eq_getElem?, List.length_take, Nat.min_eq_left (by omega), List.getElem?_take_of_lt (by omega), List.getElem?_eq_getElem (by omega)]
  rw [e]
  simp only [List.take_succ_eq_append_getElem h]
theorem ordG_end : ordG chk cmp idf (l.take l.length) (l.drop l.length) = true := by rw [List.drop_length, ordG]
end
def ordEs (l : List En) : Bool := ordG vldE cmpE En.id [] l
def esz (e : En) : Nat := e.id.length + e.title.length + e.link.length + e.content.length

set_option maxHeartbeats 1000000 in
theorem idE_any (e : En) (w : World) : Calls Tryz.prog 57 #[entV e] w fun x w' => x = .returned (.string (S e.id)) ∧ Below w.heap.size w w' := by
  go_enter Tryz.func57, Tryz.ntmps57
  go_wp2
  go_ret
  exact ⟨rfl, (Below.refl _ _).alloc (Nat.le_refl _) _⟩

set_option maxHeartbeats 8000000 in
set_option maxRecDepth 100000 in
theorem orderedE_any (l : List En) (u : Value) (w : World) (hT : TabJ w) (h : ElsP entE w (· < w.heap.size) u l) (hl : l.length ≤ 1000000000000) (hs : ∀ e ∈ l, esz e ≤ 100000) :
    Calls Tryz.prog 58 #[u, .func (.func 15) #[] #[], .func (.func 12) #[] #[], .func (.func 57) #[] #[]] w fun x w' => x = .returned (.bool (ordEs l)) ∧ Below w.heap.size w w' := by
  obtain ⟨A0, c0, rfl, _⟩ := h.slice
  obtain ⟨R, hR⟩ : ∃ R, ordEs l = R := ⟨_, rfl⟩
  rw [hR]
  have HL := Lib.hid h
  have HT := Lib.hid hT
  have HS := Lib.hid hs
  have HR0 := Lib.hid (show ordG vldE cmpE En.id (l.take 0) (l.drop 0) = R from hR)
  have HM0 := Lib.hid (MapOf.new w)
  clear h hT hs hR
  have hmm := @run_makeMap Tryz.prog
  go_enter Tryz.func58, Tryz.ntmps58
  go_wp2_with fail
  clear hmm
  go_loopw [15] (fun i15 wr => ∃ i : Nat, i ≤ l.length ∧ i15 = .int .i64 i ∧ MapOf wr w.heap.size (seenOf ((l.take i).map En.id)) ∧ ordG vldE cmpE En.id (l.take i) (l.drop i) = R ∧ Below w.heap.size w wr) (fun i15 _ => l.length - (intOf i15).toNat)
  case atStart => exact ⟨0, Nat.zero_le _, rfl, HM0.out, HR0.out, (Below.refl _ _).alloc (Nat.le_refl _) _⟩
  case round =>
    obtain ⟨i, hi, rfl, hmap, hres, hb⟩ := hrel
    have HMP := Lib.hid hmap
    have HB := Lib.hid hb
    have hsz := hb.size
    have hmlt := hmap.lt
    clear hmap hb HR0 HM0
    by_cases hlt : i < l.length
    · have hlt' : (i : Int) < l.length := by omega
      obtain ⟨b, off, rfl, hpb, hr⟩ := ents_at (HL.out.keep entE_ok HB.out.block (fun _ h => h)) hlt
      have hxs := HS.out _ (List.getElem_mem hlt)
      have hbl : b < wr.heap.size := Nat.lt_of_lt_of_le hpb hsz
      have htk : (l.take (i + 1)).map En.id = (l.take i).map En.id ++ [l[i].id] := by rw [List.take_succ_eq_append_getElem hlt, List.map_append]; rfl
      have hst0 : i = 0 → (vldE l[i] && ordG vldE cmpE En.id (l.take (i + 1)) (l.drop (i + 1))) = R := fun h => by subst h; rw [← hres, ordG_zero hlt]
      have hst1 : ∀ h : 0 < i, (vldE l[i] && decide (cmpE (l[i - 1]'(by omega)) l[i] < 0) && !(((l.take i).map En.id).contains l[i].id) && ordG vldE cmpE En.id (l.take (i + 1)) (l.drop (i + 1))) = R := fun h => by rw [← hres, ordG_step hlt h]
      have hsn0 : i = 0 → ((l.take i).map En.id).contains l[i].id = false := fun h => by subst h; rfl
      have hpr : 0 < i → wr.rangeAt b (off + (i - 1) * 5) (entCells (l[i - 1]'(by omega))) := fun h => by
        obtain ⟨b', off', hA, _, hr'⟩ := ents_at (HL.out.keep entE_ok HB.out.block (fun _ h => h)) (show i - 1 < l.length by omega)
        cases hA
        exact hr'
      clear hres
      generalize l[i] = X at *
      generalize (l.take i).map En.id = seen at *
      generalize hN : ordG vldE cmpE En.id (l.take (i + 1)) (l.drop (i + 1)) = N at *
      have HN := Lib.hid hN
      have HTK := Lib.hid htk
      have HR1 := Lib.hid hr
      have hck := fun W => fun (hW : Below w.heap.size w W) => checkEntry_any X W (HT.out.next hW) hxs
      have hid := fun W => idE_any X W
      have HID := Lib.hid hid
      have hW0 : Below w.heap.size w (wr.alloc (entBox X)) := HB.out.alloc hsz _
      have HW0 := Lib.hid hW0
      have HWB := Lib.hid hW0
      have hlk : ∀ W, MapOf W w.heap.size (seenOf seen) → (Instr.lookup 89 (.map (some w.heap.size)) (.string (S X.id)) false).run Tryz.prog W = .ok (.bool (seen.contains X.id)) W := fun W hW => by
        rw [MapOf.run_lookup hW Tryz.underlying89 Tryz.underlying9 (zeroBool _) X.id, look_seen]
      have HMK : Hid (∀ W, Below (wr.heap.size + 1) (wr.alloc (entBox X)) W → MapOf W w.heap.size (seenOf seen)) := fun W hW => (HMP.out.keep (Below.heap_alloc wr _ _ hmlt)).below (by simpa using hW)
      have KX : Hid (∀ W, Below (wr.heap.size + 1) (wr.alloc (entBox X)) W → W.cell? ⟨wr.heap.size, 0, none⟩ = some (.string (S X.id)) ∧ W.cell? ⟨wr.heap.size, 1, none⟩ = some (.string (S X.title)) ∧ W.cell? ⟨wr.heap.size, 2, none⟩ = some (.string (S X.link)) ∧ W.cell? ⟨wr.heap.size, 3, none⟩ = some (.string (S X.content)) ∧ W.cell? ⟨wr.heap.size, 4, none⟩ = some (.int .i64 X.upd)) := fun W hW => cells5 ((hW.block wr.heap.size (by omega)).trans (heap_alloc_new wr (entBox X)))
      clear hN htk hr hid hW0
      cases hc : vldE X with
      | false =>
        rw [hc] at hck hst0 hst1
        rw [show er13 false = 22 from rfl] at hck
        have hr : R = false := by
          by_cases h : i = 0
          · rw [← hst0 h]; rfl
          · rw [← hst1 (by omega)]; rfl
        have HCK := Lib.hid hck
        have HRR := Lib.hid hr
        have KEEP := KX
        clear hck hst0 hst1 hsn0 hpr hr hc hlk
        go_wp2_with (with_reducible refine gate ?_; refine wp_load_ent rfl _ rfl b (off + i * 5) rfl _ rfl HR1.out ?_)
        refine wp_region_held_drew (S := fun x => x.cell? ⟨wr.heap.size, 0, none⟩ = some (.string (S X.id)) ∧ x.cell? ⟨wr.heap.size, 1, none⟩ = some (.string (S X.title)) ∧ x.cell? ⟨wr.heap.size, 2, none⟩ = some (.string (S X.link)) ∧ x.cell? ⟨wr.heap.size, 3, none⟩ = some (.string (S X.content)) ∧ x.cell? ⟨wr.heap.size, 4, none⟩ = some (.int .i64 X.upd)) (by kernel_rfl) ?_ (fun hHeld => ?_)
        · (try dsimp only); exact KEEP.out _ (Below.refl _ _).drew
        refine wpAnyH_take (i := 0) (oi := (⟨some 20, _, _, _, _, _⟩ : Oper)) (v := ?_) rfl (by kernel_rfl) (by kernel_rfl) (by kernel_rfl) (fun _ _ _ h => h) (Or.inl ⟨by rfl, ?_⟩) (by assumption) ?_
        rotate_left
        · intro wS hSw; (try dsimp only at hSw); go_simp <;> with_reducible rfl
        simp only [Act.put, List.setIfInBounds_toArray, List.set_cons_zero, List.set_cons_succ]
        refine wpAnyH_take (i := 1) (oi := (⟨some 21, _, _, _, _, _⟩ : Oper)) (v := ?_) rfl (by kernel_rfl) (by kernel_rfl) (by kernel_rfl) (fun _ _ _ h => h) (Or.inl ⟨by rfl, ?_⟩) (by assumption) ?_
        rotate_left
        · intro wS hSw; (try dsimp only at hSw); go_simp <;> with_reducible rfl
        simp only [Act.put, List.setIfInBounds_toArray, List.set_cons_zero, List.set_cons_succ]
        refine wpAnyH_ready (rs := [2]) (by kernel_rfl) (by simp) ?_
        refine AllReadyH.cons (o := (⟨some 22, _, _, _, _, _⟩ : Oper)) rfl (fun K hK => ?_) ?_
        rotate_left
        · exact AllReadyH.nil
        go_simp
        (go_at_call 15; (with_reducible refine (HCK.out _ HW0.out.drew).mono ?_); rintro x w1 ⟨rfl, hb1⟩; have r1 := (Below.refl (wr.heap.size + 1) (wr.alloc (entBox X))).drew.trans (hb1.mono (by simp)); have hz1 : wr.heap.size + 1 ≤ w1.heap.size := (by have := r1.size; simpa using this); clear hb1)
        refine hK.out _ _ ?_ (fun hHeld => ?_)
        · (try dsimp only); exact KEEP.out _ r1
        clear hK K
        try simp only [Act.put, List.setIfInBounds_toArray, List.set_cons_zero, List.set_cons_succ]
        refine wpAnyH_take (i := 3) (oi := (⟨some 23, _, _, _, _, _⟩ : Oper)) (v := ?_) rfl (by kernel_rfl) (by kernel_rfl) (by kernel_rfl) (fun _ _ _ h => h) (Or.inl ⟨by rfl, ?_⟩) (by assumption) ?_
        rotate_left
        · intro wS hSw; (try dsimp only at hSw); go_simp <;> with_reducible rfl
        simp only [Act.put, List.setIfInBounds_toArray, List.set_cons_zero, List.set_cons_succ]
        refine wpAnyH_take (i := 4) (oi := (⟨some 24, _, _, _, _, _⟩ : Oper)) (v := ?_) rfl (by kernel_rfl) (by kernel_rfl) (by kernel_rfl) (fun _ _ _ h => h) (Or.inl ⟨by rfl, ?_⟩) (by assumption) ?_
        rotate_left
        · intro wS hSw; (try dsimp only at hSw); go_simp <;> with_reducible rfl
        simp only [Act.put, List.setIfInBounds_toArray, List.set_cons_zero, List.set_cons_succ]
        refine wpAnyH_take (i := 5) (oi := (⟨some 25, _, _, _, _, _⟩ : Oper)) (v := undef) rfl (by kernel_rfl) (by kernel_rfl) (by kernel_rfl) (fun _ _ _ h => h) (Or.inr ⟨by rfl, rfl⟩) (by assumption) ?_
        simp only [Act.put, List.setIfInBounds_toArray, List.set_cons_zero, List.set_cons_succ]
        refine wpAnyH_take (i := 6) (oi := (⟨some 26, _, _, _, _, _⟩ : Oper)) (v := undef) rfl (by kernel_rfl) (by kernel_rfl) (by kernel_rfl) (fun _ _ _ h => h) (Or.inr ⟨by rfl, rfl⟩) (by assumption) ?_
        simp only [Act.put, List.setIfInBounds_toArray, List.set_cons_zero, List.set_cons_succ]
        refine wpAnyH_take (i := 7) (oi := (⟨some 27, _, _, _, _, _⟩ : Oper)) (v := undef) rfl (by kernel_rfl) (by kernel_rfl) (by kernel_rfl) (fun _ _ _ h => h) (Or.inr ⟨by rfl, rfl⟩) (by assumption) ?_
        simp only [Act.put, List.setIfInBounds_toArray, List.set_cons_zero, List.set_cons_succ]
        refine wpAnyH_take (i := 8) (oi := (⟨some 28, _, _, _, _, _⟩ : Oper)) (v := undef) rfl (by kernel_rfl) (by kernel_rfl) (by kernel_rfl) (fun _ _ _ h => h) (Or.inr ⟨by rfl, rfl⟩) (by assumption) ?_
        simp only [Act.put, List.setIfInBounds_toArray, List.set_cons_zero, List.set_cons_succ]
        refine wpAnyH_take (i := 9) (oi := (⟨some 29, _, _, _, _, _⟩ : Oper)) (v := undef) rfl (by kernel_rfl) (by kernel_rfl) (by kernel_rfl) (fun _ _ _ h => h) (Or.inr ⟨by rfl, rfl⟩) (by assumption) ?_
        simp only [Act.put, List.setIfInBounds_toArray, List.set_cons_zero, List.set_cons_succ]
        refine wpAnyH_take (i := 10) (oi := (⟨some 30, _, _, _, _, _⟩ : Oper)) (v := undef) rfl (by kernel_rfl) (by kernel_rfl) (by kernel_rfl) (fun _ _ _ h => h) (Or.inr ⟨by rfl, rfl⟩) (by assumption) ?_
        simp only [Act.put, List.setIfInBounds_toArray, List.set_cons_zero, List.set_cons_succ]
        refine wpAnyH_take (i := 11) (oi := (⟨some 31, _, _, _, _, _⟩ : Oper)) (v := undef) rfl (by kernel_rfl) (by kernel_rfl) (by kernel_rfl) (fun _ _ _ h => h) (Or.inr ⟨by rfl, rfl⟩) (by assumption) ?_
        simp only [Act.put, List.setIfInBounds_toArray, List.set_cons_zero, List.set_cons_succ]
        refine wpAnyH_take (i := 12) (oi := (⟨some 32, _, _, _, _, _⟩ : Oper)) (v := undef) rfl (by kernel_rfl) (by kernel_rfl) (by kernel_rfl) (fun _ _ _ h => h) (Or.inr ⟨by rfl, rfl⟩) (by assumption) ?_
        simp only [Act.put, List.setIfInBounds_toArray, List.set_cons_zero, List.set_cons_succ]
        refine wpAnyH_take (i := 13) (oi := (⟨some 33, _, _, _, _, _⟩ : Oper)) (v := undef) rfl (by kernel_rfl) (by kernel_rfl) (by kernel_rfl) (fun _ _ _ h => h) (Or.inr ⟨by rfl, rfl⟩) (by assumption) ?_
        simp only [Act.put, List.setIfInBounds_toArray, List.set_cons_zero, List.set_cons_succ]
        refine wpAnyH_take (i := 14) (oi := (⟨some 34, _, _, _, _, _⟩ : Oper)) (v := undef) rfl (by kernel_rfl) (by kernel_rfl) (by kernel_rfl) (fun _ _ _ h => h) (Or.inr ⟨by rfl, rfl⟩) (by assumption) ?_
        simp only [Act.put, List.setIfInBounds_toArray, List.set_cons_zero, List.set_cons_succ]
        refine wpAnyH_take (i := 15) (oi := (⟨some 35, _, _, _, _, _⟩ : Oper)) (v := undef) rfl (by kernel_rfl) (by kernel_rfl) (by kernel_rfl) (fun _ _ _ h => h) (Or.inr ⟨by rfl, rfl⟩) (by assumption) ?_
        simp only [Act.put, List.setIfInBounds_toArray, List.set_cons_zero, List.set_cons_succ]
        refine wpAnyH_take (i := 16) (oi := (⟨some 36, _, _, _, _, _⟩ : Oper)) (v := undef) rfl (by kernel_rfl) (by kernel_rfl) (by kernel_rfl) (fun _ _ _ h => h) (Or.inr ⟨by rfl, rfl⟩) (by assumption) ?_
        simp only [Act.put, List.setIfInBounds_toArray, List.set_cons_zero, List.set_cons_succ]
        refine wpAnyH_take (i := 17) (oi := (⟨some 37, _, _, _, _, _⟩ : Oper)) (v := undef) rfl (by kernel_rfl) (by kernel_rfl) (by kernel_rfl) (fun _ _ _ h => h) (Or.inr ⟨by rfl, rfl⟩) (by assumption) ?_
        simp only [Act.put, List.setIfInBounds_toArray, List.set_cons_zero, List.set_cons_succ]
        refine wpAnyH_take (i := 18) (oi := (⟨some 38, _, _, _, _, _⟩ : Oper)) (v := ?_) rfl (by kernel_rfl) (by kernel_rfl) (by kernel_rfl) (fun _ _ _ h => h) (Or.inl ⟨by rfl, ?_⟩) (by assumption) ?_
        rotate_left
        · intro wS hSw; (try dsimp only at hSw); go_simp <;> with_reducible rfl
        simp only [Act.put, List.setIfInBounds_toArray, List.set_cons_zero, List.set_cons_succ]
        refine wpAnyH_take (i := 19) (oi := (⟨some 39, _, _, _, _, _⟩ : Oper)) (v := ?_) rfl (by kernel_rfl) (by kernel_rfl) (by kernel_rfl) (fun _ _ _ h => h) (Or.inl ⟨by rfl, ?_⟩) (by assumption) ?_
        rotate_left
        · intro wS hSw; (try dsimp only at hSw); go_simp <;> with_reducible rfl
        simp only [Act.put, List.setIfInBounds_toArray, List.set_cons_zero, List.set_cons_succ]
        refine wpAnyH_take (i := 20) (oi := (⟨some 40, _, _, _, _, _⟩ : Oper)) (v := undef) rfl (by kernel_rfl) (by kernel_rfl) (by kernel_rfl) (fun _ _ _ h => h) (Or.inr ⟨by rfl, rfl⟩) (by assumption) ?_
        simp only [Act.put, List.setIfInBounds_toArray, List.set_cons_zero, List.set_cons_succ]
        refine wpAnyH_take (i := 21) (oi := (⟨some 41, _, _, _, _, _⟩ : Oper)) (v := undef) rfl (by kernel_rfl) (by kernel_rfl) (by kernel_rfl) (fun _ _ _ h => h) (Or.inr ⟨by rfl, rfl⟩) (by assumption) ?_
        simp only [Act.put, List.setIfInBounds_toArray, List.set_cons_zero, List.set_cons_succ]
        refine wpAnyH_take (i := 22) (oi := (⟨some 42, _, _, _, _, _⟩ : Oper)) (v := undef) rfl (by kernel_rfl) (by kernel_rfl) (by kernel_rfl) (fun _ _ _ h => h) (Or.inr ⟨by rfl, rfl⟩) (by assumption) ?_
        simp only [Act.put, List.setIfInBounds_toArray, List.set_cons_zero, List.set_cons_succ]
        refine wpAnyH_take (i := 23) (oi := (⟨some 43, _, _, _, _, _⟩ : Oper)) (v := undef) rfl (by kernel_rfl) (by kernel_rfl) (by kernel_rfl) (fun _ _ _ h => h) (Or.inr ⟨by rfl, rfl⟩) (by assumption) ?_
        simp only [Act.put, List.setIfInBounds_toArray, List.set_cons_zero, List.set_cons_succ]
        refine wpAnyH_take (i := 24) (oi := (⟨some 44, _, _, _, _, _⟩ : Oper)) (v := undef) rfl (by kernel_rfl) (by kernel_rfl) (by kernel_rfl) (fun _ _ _ h => h) (Or.inr ⟨by rfl, rfl⟩) (by assumption) ?_
        simp only [Act.put, List.setIfInBounds_toArray, List.set_cons_zero, List.set_cons_succ]
        refine wpAnyH_take (i := 25) (oi := (⟨some 45, _, _, _, _, _⟩ : Oper)) (v := ?_) rfl (by kernel_rfl) (by kernel_rfl) (by kernel_rfl) (fun _ _ _ h => h) (Or.inl ⟨by rfl, ?_⟩) (by assumption) ?_
        rotate_left
        · intro wS hSw; (try dsimp only at hSw); go_simp <;> with_reducible rfl
        simp only [Act.put, List.setIfInBounds_toArray, List.set_cons_zero, List.set_cons_succ]
        refine wpAnyH_done (by kernel_rfl) ?_ _
        all_goals
          have HRB := Lib.hid r1
          clear r1
          go_wp2_with fail
          go_ret
          exact ⟨ret_bool HRR.out.symm, HWB.out.trans (HRB.out.mono (by omega))⟩
      | true =>
        rw [hc] at hck hst0 hst1
        rw [show er13 true = 0 from rfl] at hck
        simp only [Bool.true_and] at hst0 hst1
        have HCK := Lib.hid hck
        clear hck hc
        by_cases h0 : i = 0
        · have q0 : decide ((0 : Int) < (i : Int)) = false := decide_eq_false (by omega)
          have q0' : decide (0 < i) = false := decide_eq_false (by omega)
          have hse := hsn0 h0
          rw [hse] at hlk
          have HLK := Lib.hid hlk
          have HSE := Lib.hid (putM_seen X.id seen hse)
          have hrr : ordG vldE cmpE En.id (l.take (i + 1)) (l.drop (i + 1)) = R := by rw [HN.out]; exact hst0 h0
          have HRR := Lib.hid hrr
          have KEEP := KX
          clear hlk hst0 hst1 hsn0 hpr hse hrr h0
          go_wp2_with (with_reducible refine gate ?_; refine wp_load_ent rfl _ rfl b (off + i * 5) rfl _ rfl HR1.out ?_)
          refine wp_region_held_drew (S := fun x => x.cell? ⟨wr.heap.size, 0, none⟩ = some (.string (S X.id)) ∧ x.cell? ⟨wr.heap.size, 1, none⟩ = some (.string (S X.title)) ∧ x.cell? ⟨wr.heap.size, 2, none⟩ = some (.string (S X.link)) ∧ x.cell? ⟨wr.heap.size, 3, none⟩ = some (.string (S X.content)) ∧ x.cell? ⟨wr.heap.size, 4, none⟩ = some (.int .i64 X.upd)) (by kernel_rfl) ?_ (fun hHeld => ?_)
          · (try dsimp only); exact KEEP.out _ (Below.refl _ _).drew
          refine wpAnyH_take (i := 0) (oi := (⟨some 20, _, _, _, _, _⟩ : Oper)) (v := ?_) rfl (by kernel_rfl) (by kernel_rfl) (by kernel_rfl) (fun _ _ _ h => h) (Or.inl ⟨by rfl, ?_⟩) (by assumption) ?_
          rotate_left
          · intro wS hSw; (try dsimp only at hSw); go_simp <;> with_reducible rfl
          simp only [Act.put, List.setIfInBounds_toArray, List.set_cons_zero, List.set_cons_succ]
          refine wpAnyH_take (i := 1) (oi := (⟨some 21, _, _, _, _, _⟩ : Oper)) (v := ?_) rfl (by kernel_rfl) (by kernel_rfl) (by kernel_rfl) (fun _ _ _ h => h) (Or.inl ⟨by rfl, ?_⟩) (by assumption) ?_
          rotate_left
          · intro wS hSw; (try dsimp only at hSw); go_simp <;> with_reducible rfl
          simp only [Act.put, List.setIfInBounds_toArray, List.set_cons_zero, List.set_cons_succ]
          refine wpAnyH_ready (rs := [2]) (by kernel_rfl) (by simp) ?_
          refine AllReadyH.cons (o := (⟨some 22, _, _, _, _, _⟩ : Oper)) rfl (fun K hK => ?_) ?_
          rotate_left
          · exact AllReadyH.nil
          go_simp
          (go_at_call 15; (with_reducible refine (HCK.out _ HW0.out.drew).mono ?_); rintro x w1 ⟨rfl, hb1⟩; have r1 := (Below.refl (wr.heap.size + 1) (wr.alloc (entBox X))).drew.trans (hb1.mono (by simp)); have hz1 : wr.heap.size + 1 ≤ w1.heap.size := (by have := r1.size; simpa using this); clear hb1)
          refine hK.out _ _ ?_ (fun hHeld => ?_)
          · (try dsimp only); exact KEEP.out _ r1
          clear hK K
          try simp only [Act.put, List.setIfInBounds_toArray, List.set_cons_zero, List.set_cons_succ]
          refine wpAnyH_take (i := 3) (oi := (⟨some 23, _, _, _, _, _⟩ : Oper)) (v := ?_) rfl (by kernel_rfl) (by kernel_rfl) (by kernel_rfl) (fun _ _ _ h => h) (Or.inl ⟨by rfl, ?_⟩) (by assumption) ?_
          rotate_left
          · intro wS hSw; (try dsimp only at hSw); go_simp <;> with_reducible rfl
          simp only [Act.put, List.setIfInBounds_toArray, List.set_cons_zero, List.set_cons_succ]
          refine wpAnyH_take (i := 4) (oi := (⟨some 24, _, _, _, _, _⟩ : Oper)) (v := ?_) rfl (by kernel_rfl) (by kernel_rfl) (by kernel_rfl) (fun _ _ _ h => h) (Or.inl ⟨by rfl, ?_⟩) (by assumption) ?_
          rotate_left
          · intro wS hSw; (try dsimp only at hSw); go_simp <;> with_reducible rfl
          simp only [Act.put, List.setIfInBounds_toArray, List.set_cons_zero, List.set_cons_succ]
          refine wpAnyH_take (i := 5) (oi := (⟨some 25, _, _, _, _, _⟩ : Oper)) (v := ?_) rfl (by kernel_rfl) (by kernel_rfl) (by kernel_rfl) (fun _ _ _ h => h) (Or.inl ⟨by rfl, ?_⟩) (by assumption) ?_
          rotate_left
          · intro wS hSw; (try dsimp only at hSw); go_simp <;> with_reducible rfl
          simp only [Act.put, List.setIfInBounds_toArray, List.set_cons_zero, List.set_cons_succ]
          refine wpAnyH_take (i := 6) (oi := (⟨some 26, _, _, _, _, _⟩ : Oper)) (v := ?_) rfl (by kernel_rfl) (by kernel_rfl) (by kernel_rfl) (fun _ _ _ h => h) (Or.inl ⟨by rfl, ?_⟩) (by assumption) ?_
          rotate_left
          · intro wS hSw; (try dsimp only at hSw); go_simp <;> with_reducible rfl
          simp only [Act.put, List.setIfInBounds_toArray, List.set_cons_zero, List.set_cons_succ]
          refine wpAnyH_take (i := 7) (oi := (⟨some 27, _, _, _, _, _⟩ : Oper)) (v := ?_) rfl (by kernel_rfl) (by kernel_rfl) (by kernel_rfl) (fun _ _ _ h => h) (Or.inl ⟨by rfl, ?_⟩) (by assumption) ?_
          rotate_left
          · intro wS hSw; (try dsimp only at hSw); go_simp <;> with_reducible rfl
          simp only [Act.put, List.setIfInBounds_toArray, List.set_cons_zero, List.set_cons_succ]
          refine wpAnyH_take (i := 8) (oi := (⟨some 28, _, _, _, _, _⟩ : Oper)) (v := undef) rfl (by kernel_rfl) (by kernel_rfl) (by kernel_rfl) (fun _ _ _ h => h) (Or.inr ⟨by rfl, rfl⟩) (by assumption) ?_
          simp only [Act.put, List.setIfInBounds_toArray, List.set_cons_zero, List.set_cons_succ]
          refine wpAnyH_take (i := 9) (oi := (⟨some 29, _, _, _, _, _⟩ : Oper)) (v := undef) rfl (by kernel_rfl) (by kernel_rfl) (by kernel_rfl) (fun _ _ _ h => h) (Or.inr ⟨by rfl, rfl⟩) (by assumption) ?_
          simp only [Act.put, List.setIfInBounds_toArray, List.set_cons_zero, List.set_cons_succ]
          refine wpAnyH_take (i := 10) (oi := (⟨some 30, _, _, _, _, _⟩ : Oper)) (v := undef) rfl (by kernel_rfl) (by kernel_rfl) (by kernel_rfl) (fun _ _ _ h => h) (Or.inr ⟨by rfl, rfl⟩) (by assumption) ?_
          simp only [Act.put, List.setIfInBounds_toArray, List.set_cons_zero, List.set_cons_succ]
          refine wpAnyH_take (i := 11) (oi := (⟨some 31, _, _, _, _, _⟩ : Oper)) (v := undef) rfl (by kernel_rfl) (by kernel_rfl) (by kernel_rfl) (fun _ _ _ h => h) (Or.inr ⟨by rfl, rfl⟩) (by assumption) ?_
          simp only [Act.put, List.setIfInBounds_toArray, List.set_cons_zero, List.set_cons_succ]
          refine wpAnyH_take (i := 12) (oi := (⟨some 32, _, _, _, _, _⟩ : Oper)) (v := undef) rfl (by kernel_rfl) (by kernel_rfl) (by kernel_rfl) (fun _ _ _ h => h) (Or.inr ⟨by rfl, rfl⟩) (by assumption) ?_
          simp only [Act.put, List.setIfInBounds_toArray, List.set_cons_zero, List.set_cons_succ]
          refine wpAnyH_take (i := 13) (oi := (⟨some 33, _, _, _, _, _⟩ : Oper)) (v := undef) rfl (by kernel_rfl) (by kernel_rfl) (by kernel_rfl) (fun _ _ _ h => h) (Or.inr ⟨by rfl, rfl⟩) (by assumption) ?_
          simp only [Act.put, List.setIfInBounds_toArray, List.set_cons_zero, List.set_cons_succ]
          refine wpAnyH_take (i := 14) (oi := (⟨some 34, _, _, _, _, _⟩ : Oper)) (v := undef) rfl (by kernel_rfl) (by kernel_rfl) (by kernel_rfl) (fun _ _ _ h => h) (Or.inr ⟨by rfl, rfl⟩) (by assumption) ?_
          simp only [Act.put, List.setIfInBounds_toArray, List.set_cons_zero, List.set_cons_succ]
          refine wpAnyH_take (i := 15) (oi := (⟨some 35, _, _, _, _, _⟩ : Oper)) (v := undef) rfl (by kernel_rfl) (by kernel_rfl) (by kernel_rfl) (fun _ _ _ h => h) (Or.inr ⟨by rfl, rfl⟩) (by assumption) ?_
          simp only [Act.put, List.setIfInBounds_toArray, List.set_cons_zero, List.set_cons_succ]
          refine wpAnyH_take (i := 16) (oi := (⟨some 36, _, _, _, _, _⟩ : Oper)) (v := undef) rfl (by kernel_rfl) (by kernel_rfl) (by kernel_rfl) (fun _ _ _ h => h) (Or.inr ⟨by rfl, rfl⟩) (by assumption) ?_
          simp only [Act.put, List.setIfInBounds_toArray, List.set_cons_zero, List.set_cons_succ]
          refine wpAnyH_take (i := 17) (oi := (⟨some 37, _, _, _, _, _⟩ : Oper)) (v := ?_) rfl (by kernel_rfl) (by kernel_rfl) (by kernel_rfl) (fun _ _ _ h => h) (Or.inl ⟨by rfl, ?_⟩) (by assumption) ?_
          rotate_left
          · intro wS hSw; (try dsimp only at hSw); go_simp <;> with_reducible rfl
          simp only [Act.put, List.setIfInBounds_toArray, List.set_cons_zero, List.set_cons_succ]
          refine wpAnyH_take (i := 18) (oi := (⟨some 38, _, _, _, _, _⟩ : Oper)) (v := ?_) rfl (by kernel_rfl) (by kernel_rfl) (by kernel_rfl) (fun _ _ _ h => h) (Or.inl ⟨by rfl, ?_⟩) (by assumption) ?_
          rotate_left
          · intro wS hSw; (try dsimp only at hSw); go_simp <;> with_reducible rfl
          simp only [Act.put, List.setIfInBounds_toArray, List.set_cons_zero, List.set_cons_succ]
          refine wpAnyH_take (i := 19) (oi := (⟨some 39, _, _, _, _, _⟩ : Oper)) (v := ?_) rfl (by kernel_rfl) (by kernel_rfl) (by kernel_rfl) (fun _ _ _ h => h) (Or.inl ⟨by rfl, ?_⟩) (by assumption) ?_
          rotate_left
          · intro wS hSw; (try dsimp only at hSw); go_simp <;> with_reducible rfl
          simp only [Act.put, List.setIfInBounds_toArray, List.set_cons_zero, List.set_cons_succ]
          refine wpAnyH_take (i := 20) (oi := (⟨some 40, _, _, _, _, _⟩ : Oper)) (v := ?_) rfl (by kernel_rfl) (by kernel_rfl) (by kernel_rfl) (fun _ _ _ h => h) (Or.inl ⟨by rfl, ?_⟩) (by assumption) ?_
          rotate_left
          · intro wS hSw; (try dsimp only at hSw); go_simp <;> with_reducible rfl
          simp only [Act.put, List.setIfInBounds_toArray, List.set_cons_zero, List.set_cons_succ]
          refine wpAnyH_take (i := 21) (oi := (⟨some 41, _, _, _, _, _⟩ : Oper)) (v := ?_) rfl (by kernel_rfl) (by kernel_rfl) (by kernel_rfl) (fun _ _ _ h => h) (Or.inl ⟨by rfl, ?_⟩) (by assumption) ?_
          rotate_left
          · intro wS hSw; (try dsimp only at hSw); go_simp <;> with_reducible rfl
          simp only [Act.put, List.setIfInBounds_toArray, List.set_cons_zero, List.set_cons_succ]
          refine wpAnyH_take (i := 22) (oi := (⟨some 42, _, _, _, _, _⟩ : Oper)) (v := ?_) rfl (by kernel_rfl) (by kernel_rfl) (by kernel_rfl) (fun _ _ _ h => h) (Or.inl ⟨by rfl, ?_⟩) (by assumption) ?_
          rotate_left
          · intro wS hSw; (try dsimp only at hSw); go_simp <;> with_reducible rfl
          simp only [Act.put, List.setIfInBounds_toArray, List.set_cons_zero, List.set_cons_succ]
          refine wpAnyH_ready (rs := [23]) (by kernel_rfl) (by simp) ?_
          refine AllReadyH.cons (o := (⟨some 43, _, _, _, _, _⟩ : Oper)) rfl (fun K hK => ?_) ?_
          rotate_left
          · exact AllReadyH.nil
          go_simp
          (go_at_call 57; (with_reducible refine (HID.out _).mono ?_); rintro x w3 ⟨rfl, hb3⟩; have r3 := r1.trans (hb3.mono hz1); have hz3 : wr.heap.size + 1 ≤ w3.heap.size := (by have := r3.size; simpa using this); have hlook := HLK.out w3 (HMK.out _ r3); clear hb3)
          refine hK.out _ _ ?_ (fun hHeld => ?_)
          · (try dsimp only); exact KEEP.out _ r3
          clear hK K
          try simp only [Act.put, List.setIfInBounds_toArray, List.set_cons_zero, List.set_cons_succ]
          refine wpAnyH_ready (rs := [24]) (by kernel_rfl) (by simp) ?_
          refine AllReadyH.cons (o := (⟨some 44, _, _, _, _, _⟩ : Oper)) rfl (fun K hK => ?_) ?_
          rotate_left
          · exact AllReadyH.nil
          go_simp
          refine hK.out _ _ ?_ (fun hHeld => ?_)
          · (try dsimp only); exact KEEP.out _ r3
          clear hK K
          try simp only [Act.put, List.setIfInBounds_toArray, List.set_cons_zero, List.set_cons_succ]
          refine wpAnyH_take (i := 25) (oi := (⟨some 45, _, _, _, _, _⟩ : Oper)) (v := ?_) rfl (by kernel_rfl) (by kernel_rfl) (by kernel_rfl) (fun _ _ _ h => h) (Or.inl ⟨by rfl, ?_⟩) (by assumption) ?_
          rotate_left
          · intro wS hSw; (try dsimp only at hSw); go_simp <;> with_reducible rfl
          simp only [Act.put, List.setIfInBounds_toArray, List.set_cons_zero, List.set_cons_succ]
          refine wpAnyH_done (by kernel_rfl) ?_ _
          all_goals
            have HRB := Lib.hid r3
            have hkx := (KEEP.out _ r3)
            obtain ⟨k0, k1, k2, k3, k4⟩ := KX.out _ r3
            clear hlook hkx
            go_wp2_with (first
              | (go_at_call 57; refine (HID.out _).mono ?_; rintro x w5 ⟨rfl, hb5⟩; have r5 := HRB.out.trans (hb5.mono hz3); have MP5 := Lib.hid (HMK.out _ r5); have HR5 := Lib.hid r5; have hz5 : wr.heap.size + 1 ≤ w5.heap.size := (by have := r5.size; simpa using this); clear hb5 r5)
              | (at_mapUpdate; refine wpList_map_put rfl _ _ _ 89 rfl Tryz.underlying89 Tryz.underlying9 w.heap.size (seenOf seen) MP5.out rfl X.id rfl (.bool true) rfl ?_; intro w6 hm6 hu6 hs6))
            go_roundw
            case rel => exact ⟨i + 1, by omega, by go_num, by rw [HTK.out, ← HSE.out]; exact hm6, HRR.out, (HWB.out.trans (HR5.out.mono (by omega))).trans (hu6.below (Nat.le_refl _) (by omega))⟩
            case measure => simp [intOf]; omega
        · have q0 : decide ((0 : Int) < (i : Int)) = true := decide_eq_true (by omega)
          have q0' : decide (0 < i) = true := decide_eq_true (by omega)
          have w1' : IntKind.i64.wrap ((i : Int) - 1) = (i : Int) - 1 := by rw [IntKind.wrap_i64]; omega
          have w2' : (0 : Int) ≤ (i : Int) - 1 := by omega
          have w3' : ((i : Int) - 1).toNat = i - 1 := by omega
          have w4' : (i : Int) - 1 < l.length := by omega
          have w5' : (1 : Int) ≤ i := by omega
          have hpr1 := hpr (by omega)
          have hst := hst1 (by omega)
          generalize (l[i - 1]'(by omega)) = P at *
          have hcm := fun W => cmpEntries_any P X W
          generalize cmpE P X = m at *
          have HCM := Lib.hid hcm
          have KEEP : Hid (∀ W, Below (wr.heap.size + 1) (wr.alloc (entBox X)) W → (W.cell? ⟨wr.heap.size, 0, none⟩ = some (.string (S X.id)) ∧ W.cell? ⟨wr.heap.size, 1, none⟩ = some (.string (S X.title)) ∧ W.cell? ⟨wr.heap.size, 2, none⟩ = some (.string (S X.link)) ∧ W.cell? ⟨wr.heap.size, 3, none⟩ = some (.string (S X.content)) ∧ W.cell? ⟨wr.heap.size, 4, none⟩ = some (.int .i64 X.upd)) ∧ (W.cell? ⟨b, off + (i - 1) * 5, none⟩ = some (.string (S P.id)) ∧ W.cell? ⟨b, off + (i - 1) * 5 + 1, none⟩ = some (.string (S P.title)) ∧ W.cell? ⟨b, off + (i - 1) * 5 + 2, none⟩ = some (.string (S P.link)) ∧ W.cell? ⟨b, off + (i - 1) * 5 + 3, none⟩ = some (.string (S P.content)) ∧ W.cell? ⟨b, off + (i - 1) * 5 + 4, none⟩ = some (.int .i64 P.upd))) := fun W hW => by
            have hr2 := rangeAt_keep hpr1 ((hW.block b (by omega)).trans (Below.heap_alloc wr _ _ hbl))
            exact ⟨KX.out W hW, hr2 0 _ rfl, hr2 1 _ rfl, hr2 2 _ rfl, hr2 3 _ rfl, hr2 4 _ rfl⟩
          clear hcm hpr hpr1 hst0 hst1 hsn0 h0
          by_cases hm : m < 0
          · have qm : decide ((0 : Int) ≤ m) = false := decide_eq_false (by omega)
            rw [decide_eq_true hm] at hst
            simp only [Bool.true_and] at hst
            cases hse : seen.contains X.id with
            | true =>
              rw [hse] at hlk hst
              have HLK := Lib.hid hlk
              have hr : R = false := by rw [← hst]; rfl
              have HRR := Lib.hid hr
              clear hlk hst hr hse hm
              go_wp2_with (with_reducible refine gate ?_; refine wp_load_ent rfl _ rfl b (off + i * 5) rfl _ rfl HR1.out ?_)
              refine wp_region_held_drew (S := fun x => (x.cell? ⟨wr.heap.size, 0, none⟩ = some (.string (S X.id)) ∧ x.cell? ⟨wr.heap.size, 1, none⟩ = some (.string (S X.title)) ∧ x.cell? ⟨wr.heap.size, 2, none⟩ = some (.string (S X.link)) ∧ x.cell? ⟨wr.heap.size, 3, none⟩ = some (.string (S X.content)) ∧ x.cell? ⟨wr.heap.size, 4, none⟩ = some (.int .i64 X.upd)) ∧ (x.cell? ⟨b, off + (i - 1) * 5, none⟩ = some (.string (S P.id)) ∧ x.cell? ⟨b, off + (i - 1) * 5 + 1, none⟩ = some (.string (S P.title)) ∧ x.cell? ⟨b, off + (i - 1) * 5 + 2, none⟩ = some (.string (S P.link)) ∧ x.cell? ⟨b, off + (i - 1) * 5 + 3, none⟩ = some (.string (S P.content)) ∧ x.cell? ⟨b, off + (i - 1) * 5 + 4, none⟩ = some (.int .i64 P.upd))) (by kernel_rfl) ?_ (fun hHeld => ?_)
              · (try dsimp only); exact KEEP.out _ (Below.refl _ _).drew
              refine wpAnyH_take (i := 0) (oi := (⟨some 20, _, _, _, _, _⟩ : Oper)) (v := ?_) rfl (by kernel_rfl) (by kernel_rfl) (by kernel_rfl) (fun _ _ _ h => h) (Or.inl ⟨by rfl, ?_⟩) (by assumption) ?_
              rotate_left
              · intro wS hSw; (try dsimp only at hSw); go_simp <;> with_reducible rfl
              simp only [Act.put, List.setIfInBounds_toArray, List.set_cons_zero, List.set_cons_succ]
              refine wpAnyH_take (i := 1) (oi := (⟨some 21, _, _, _, _, _⟩ : Oper)) (v := ?_) rfl (by kernel_rfl) (by kernel_rfl) (by kernel_rfl) (fun _ _ _ h => h) (Or.inl ⟨by rfl, ?_⟩) (by assumption) ?_
              rotate_left
              · intro wS hSw; (try dsimp only at hSw); go_simp <;> with_reducible rfl
              simp only [Act.put, List.setIfInBounds_toArray, List.set_cons_zero, List.set_cons_succ]
              refine wpAnyH_ready (rs := [2]) (by kernel_rfl) (by simp) ?_
              refine AllReadyH.cons (o := (⟨some 22, _, _, _, _, _⟩ : Oper)) rfl (fun K hK => ?_) ?_
              rotate_left
              · exact AllReadyH.nil
              go_simp
              (go_at_call 15; (with_reducible refine (HCK.out _ HW0.out.drew).mono ?_); rintro x w1 ⟨rfl, hb1⟩; have r1 := (Below.refl (wr.heap.size + 1) (wr.alloc (entBox X))).drew.trans (hb1.mono (by simp)); have hz1 : wr.heap.size + 1 ≤ w1.heap.size := (by have := r1.size; simpa using this); clear hb1)
              refine hK.out _ _ ?_ (fun hHeld => ?_)
              · (try dsimp only); exact KEEP.out _ r1
              clear hK K
              try simp only [Act.put, List.setIfInBounds_toArray, List.set_cons_zero, List.set_cons_succ]
              refine wpAnyH_take (i := 3) (oi := (⟨some 23, _, _, _, _, _⟩ : Oper)) (v := ?_) rfl (by kernel_rfl) (by kernel_rfl) (by kernel_rfl) (fun _ _ _ h => h) (Or.inl ⟨by rfl, ?_⟩) (by assumption) ?_
              rotate_left
              · intro wS hSw; (try dsimp only at hSw); go_simp <;> with_reducible rfl
              simp only [Act.put, List.setIfInBounds_toArray, List.set_cons_zero, List.set_cons_succ]
              refine wpAnyH_take (i := 4) (oi := (⟨some 24, _, _, _, _, _⟩ : Oper)) (v := ?_) rfl (by kernel_rfl) (by kernel_rfl) (by kernel_rfl) (fun _ _ _ h => h) (Or.inl ⟨by rfl, ?_⟩) (by assumption) ?_
              rotate_left
              · intro wS hSw; (try dsimp only at hSw); go_simp <;> with_reducible rfl
              simp only [Act.put, List.setIfInBounds_toArray, List.set_cons_zero, List.set_cons_succ]
              refine wpAnyH_take (i := 5) (oi := (⟨some 25, _, _, _, _, _⟩ : Oper)) (v := ?_) rfl (by kernel_rfl) (by kernel_rfl) (by kernel_rfl) (fun _ _ _ h => h) (Or.inl ⟨by rfl, ?_⟩) (by assumption) ?_
              rotate_left
              · intro wS hSw; (try dsimp only at hSw); go_simp <;> with_reducible rfl
              simp only [Act.put, List.setIfInBounds_toArray, List.set_cons_zero, List.set_cons_succ]
              refine wpAnyH_take (i := 6) (oi := (⟨some 26, _, _, _, _, _⟩ : Oper)) (v := ?_) rfl (by kernel_rfl) (by kernel_rfl) (by kernel_rfl) (fun _ _ _ h => h) (Or.inl ⟨by rfl, ?_⟩) (by assumption) ?_
              rotate_left
              · intro wS hSw; (try dsimp only at hSw); go_simp <;> with_reducible rfl
              simp only [Act.put, List.setIfInBounds_toArray, List.set_cons_zero, List.set_cons_succ]
              refine wpAnyH_take (i := 7) (oi := (⟨some 27, _, _, _, _, _⟩ : Oper)) (v := ?_) rfl (by kernel_rfl) (by kernel_rfl) (by kernel_rfl) (fun _ _ _ h => h) (Or.inl ⟨by rfl, ?_⟩) (by assumption) ?_
              rotate_left
              · intro wS hSw; (try dsimp only at hSw); go_simp <;> with_reducible rfl
              simp only [Act.put, List.setIfInBounds_toArray, List.set_cons_zero, List.set_cons_succ]
              refine wpAnyH_take (i := 8) (oi := (⟨some 28, _, _, _, _, _⟩ : Oper)) (v := ?_) rfl (by kernel_rfl) (by kernel_rfl) (by kernel_rfl) (fun _ _ _ h => h) (Or.inl ⟨by rfl, ?_⟩) (by assumption) ?_
              rotate_left
              · intro wS hSw; (try dsimp only at hSw); go_simp <;> with_reducible rfl
              simp only [Act.put, List.setIfInBounds_toArray, List.set_cons_zero, List.set_cons_succ]
              refine wpAnyH_take (i := 9) (oi := (⟨some 29, _, _, _, _, _⟩ : Oper)) (v := ?_) rfl (by kernel_rfl) (by kernel_rfl) (by kernel_rfl) (fun _ _ _ h => h) (Or.inl ⟨by rfl, ?_⟩) (by assumption) ?_
              rotate_left
              · intro wS hSw; (try dsimp only at hSw); go_simp <;> with_reducible rfl
              simp only [Act.put, List.setIfInBounds_toArray, List.set_cons_zero, List.set_cons_succ]
              refine wpAnyH_take (i := 10) (oi := (⟨some 30, _, _, _, _, _⟩ : Oper)) (v := ?_) rfl (by kernel_rfl) (by kernel_rfl) (by kernel_rfl) (fun _ _ _ h => h) (Or.inl ⟨by rfl, ?_⟩) (by assumption) ?_
              rotate_left
              · intro wS hSw; (try dsimp only at hSw); go_simp <;> with_reducible rfl
              simp only [Act.put, List.setIfInBounds_toArray, List.set_cons_zero, List.set_cons_succ]
              refine wpAnyH_take (i := 11) (oi := (⟨some 31, _, _, _, _, _⟩ : Oper)) (v := ?_) rfl (by kernel_rfl) (by kernel_rfl) (by kernel_rfl) (fun _ _ _ h => h) (Or.inl ⟨by rfl, ?_⟩) (by assumption) ?_
              rotate_left
              · intro wS hSw; (try dsimp only at hSw); go_simp <;> with_reducible rfl
              simp only [Act.put, List.setIfInBounds_toArray, List.set_cons_zero, List.set_cons_succ]
              refine wpAnyH_take (i := 12) (oi := (⟨some 32, _, _, _, _, _⟩ : Oper)) (v := ?_) rfl (by kernel_rfl) (by kernel_rfl) (by kernel_rfl) (fun _ _ _ h => h) (Or.inl ⟨by rfl, ?_⟩) (by assumption) ?_
              rotate_left
              · intro wS hSw; (try dsimp only at hSw); go_simp <;> with_reducible rfl
              simp only [Act.put, List.setIfInBounds_toArray, List.set_cons_zero, List.set_cons_succ]
              refine wpAnyH_take (i := 13) (oi := (⟨some 33, _, _, _, _, _⟩ : Oper)) (v := ?_) rfl (by kernel_rfl) (by kernel_rfl) (by kernel_rfl) (fun _ _ _ h => h) (Or.inl ⟨by rfl, ?_⟩) (by assumption) ?_
              rotate_left
              · intro wS hSw; (try dsimp only at hSw); go_simp <;> with_reducible rfl
              simp only [Act.put, List.setIfInBounds_toArray, List.set_cons_zero, List.set_cons_succ]
              refine wpAnyH_take (i := 14) (oi := (⟨some 34, _, _, _, _, _⟩ : Oper)) (v := ?_) rfl (by kernel_rfl) (by kernel_rfl) (by kernel_rfl) (fun _ _ _ h => h) (Or.inl ⟨by rfl, ?_⟩) (by assumption) ?_
              rotate_left
              · intro wS hSw; (try dsimp only at hSw); go_simp <;> with_reducible rfl
              simp only [Act.put, List.setIfInBounds_toArray, List.set_cons_zero, List.set_cons_succ]
              refine wpAnyH_ready (rs := [15]) (by kernel_rfl) (by simp) ?_
              refine AllReadyH.cons (o := (⟨some 35, _, _, _, _, _⟩ : Oper)) rfl (fun K hK => ?_) ?_
              rotate_left
              · exact AllReadyH.nil
              go_simp
              (go_at_call 12; (with_reducible refine (HCM.out _).mono ?_); rintro x w2 ⟨rfl, hb2⟩; have r2 := r1.trans (hb2.mono hz1); have hz2 : wr.heap.size + 1 ≤ w2.heap.size := (by have := r2.size; simpa using this); clear hb2)
              refine hK.out _ _ ?_ (fun hHeld => ?_)
              · (try dsimp only); exact KEEP.out _ r2
              clear hK K
              try simp only [Act.put, List.setIfInBounds_toArray, List.set_cons_zero, List.set_cons_succ]
              refine wpAnyH_take (i := 16) (oi := (⟨some 36, _, _, _, _, _⟩ : Oper)) (v := ?_) rfl (by kernel_rfl) (by kernel_rfl) (by kernel_rfl) (fun _ _ _ h => h) (Or.inl ⟨by rfl, ?_⟩) (by assumption) ?_
              rotate_left
              · intro wS hSw; (try dsimp only at hSw); go_simp <;> with_reducible rfl
              simp only [Act.put, List.setIfInBounds_toArray, List.set_cons_zero, List.set_cons_succ]
              refine wpAnyH_take (i := 17) (oi := (⟨some 37, _, _, _, _, _⟩ : Oper)) (v := ?_) rfl (by kernel_rfl) (by kernel_rfl) (by kernel_rfl) (fun _ _ _ h => h) (Or.inl ⟨by rfl, ?_⟩) (by assumption) ?_
              rotate_left
              · intro wS hSw; (try dsimp only at hSw); go_simp <;> with_reducible rfl
              simp only [Act.put, List.setIfInBounds_toArray, List.set_cons_zero, List.set_cons_succ]
              refine wpAnyH_take (i := 18) (oi := (⟨some 38, _, _, _, _, _⟩ : Oper)) (v := ?_) rfl (by kernel_rfl) (by kernel_rfl) (by kernel_rfl) (fun _ _ _ h => h) (Or.inl ⟨by rfl, ?_⟩) (by assumption) ?_
              rotate_left
              · intro wS hSw; (try dsimp only at hSw); go_simp <;> with_reducible rfl
              simp only [Act.put, List.setIfInBounds_toArray, List.set_cons_zero, List.set_cons_succ]
              refine wpAnyH_take (i := 19) (oi := (⟨some 39, _, _, _, _, _⟩ : Oper)) (v := ?_) rfl (by kernel_rfl) (by kernel_rfl) (by kernel_rfl) (fun _ _ _ h => h) (Or.inl ⟨by rfl, ?_⟩) (by assumption) ?_
              rotate_left
              · intro wS hSw; (try dsimp only at hSw); go_simp <;> with_reducible rfl
              simp only [Act.put, List.setIfInBounds_toArray, List.set_cons_zero, List.set_cons_succ]
              refine wpAnyH_take (i := 20) (oi := (⟨some 40, _, _, _, _, _⟩ : Oper)) (v := ?_) rfl (by kernel_rfl) (by kernel_rfl) (by kernel_rfl) (fun _ _ _ h => h) (Or.inl ⟨by rfl, ?_⟩) (by assumption) ?_
              rotate_left
              · intro wS hSw; (try dsimp only at hSw); go_simp <;> with_reducible rfl
              simp only [Act.put, List.setIfInBounds_toArray, List.set_cons_zero, List.set_cons_succ]
              refine wpAnyH_take (i := 21) (oi := (⟨some 41, _, _, _, _, _⟩ : Oper)) (v := ?_) rfl (by kernel_rfl) (by kernel_rfl) (by kernel_rfl) (fun _ _ _ h => h) (Or.inl ⟨by rfl, ?_⟩) (by assumption) ?_
              rotate_left
              · intro wS hSw; (try dsimp only at hSw); go_simp <;> with_reducible rfl
              simp only [Act.put, List.setIfInBounds_toArray, List.set_cons_zero, List.set_cons_succ]
              refine wpAnyH_take (i := 22) (oi := (⟨some 42, _, _, _, _, _⟩ : Oper)) (v := ?_) rfl (by kernel_rfl) (by kernel_rfl) (by kernel_rfl) (fun _ _ _ h => h) (Or.inl ⟨by rfl, ?_⟩) (by assumption) ?_
              rotate_left
              · intro wS hSw; (try dsimp only at hSw); go_simp <;> with_reducible rfl
              simp only [Act.put, List.setIfInBounds_toArray, List.set_cons_zero, List.set_cons_succ]
              refine wpAnyH_ready (rs := [23]) (by kernel_rfl) (by simp) ?_
              refine AllReadyH.cons (o := (⟨some 43, _, _, _, _, _⟩ : Oper)) rfl (fun K hK => ?_) ?_
              rotate_left
              · exact AllReadyH.nil
              go_simp
              (go_at_call 57; (with_reducible refine (HID.out _).mono ?_); rintro x w3 ⟨rfl, hb3⟩; have r3 := r2.trans (hb3.mono hz2); have hz3 : wr.heap.size + 1 ≤ w3.heap.size := (by have := r3.size; simpa using this); have hlook := HLK.out w3 (HMK.out _ r3); clear hb3)
              refine hK.out _ _ ?_ (fun hHeld => ?_)
              · (try dsimp only); exact KEEP.out _ r3
              clear hK K
              try simp only [Act.put, List.setIfInBounds_toArray, List.set_cons_zero, List.set_cons_succ]
              refine wpAnyH_ready (rs := [24]) (by kernel_rfl) (by simp) ?_
              refine AllReadyH.cons (o := (⟨some 44, _, _, _, _, _⟩ : Oper)) rfl (fun K hK => ?_) ?_
              rotate_left
              · exact AllReadyH.nil
              go_simp
              refine hK.out _ _ ?_ (fun hHeld => ?_)
              · (try dsimp only); exact KEEP.out _ r3
              clear hK K
              try simp only [Act.put, List.setIfInBounds_toArray, List.set_cons_zero, List.set_cons_succ]
              refine wpAnyH_take (i := 25) (oi := (⟨some 45, _, _, _, _, _⟩ : Oper)) (v := ?_) rfl (by kernel_rfl) (by kernel_rfl) (by kernel_rfl) (fun _ _ _ h => h) (Or.inl ⟨by rfl, ?_⟩) (by assumption) ?_
              rotate_left
              · intro wS hSw; (try dsimp only at hSw); go_simp <;> with_reducible rfl
              simp only [Act.put, List.setIfInBounds_toArray, List.set_cons_zero, List.set_cons_succ]
              refine wpAnyH_done (by kernel_rfl) ?_ _
              all_goals
                have HRB := Lib.hid r3
                clear r3
                go_wp2_with fail
                go_ret
                exact ⟨ret_bool HRR.out.symm, HWB.out.trans (HRB.out.mono (by omega))⟩
            | false =>
              rw [hse] at hlk hst
              have HLK := Lib.hid hlk
              have HSE := Lib.hid (putM_seen X.id seen hse)
              have hrr : ordG vldE cmpE En.id (l.take (i + 1)) (l.drop (i + 1)) = R := by rw [HN.out]; exact hst
              have HRR := Lib.hid hrr
              clear hlk hst hrr hse hm
              go_wp2_with (with_reducible refine gate ?_; refine wp_load_ent rfl _ rfl b (off + i * 5) rfl _ rfl HR1.out ?_)
              refine wp_region_held_drew (S := fun x => (x.cell? ⟨wr.heap.size, 0, none⟩ = some (.string (S X.id)) ∧ x.cell? ⟨wr.heap.size, 1, none⟩ = some (.string (S X.title)) ∧ x.cell? ⟨wr.heap.size, 2, none⟩ = some (.string (S X.link)) ∧ x.cell? ⟨wr.heap.size, 3, none⟩ = some (.string (S X.content)) ∧ x.cell? ⟨wr.heap.size, 4, none⟩ = some (.int .i64 X.upd)) ∧ (x.cell? ⟨b, off + (i - 1) * 5, none⟩ = some (.string (S P.id)) ∧ x.cell? ⟨b, off + (i - 1) * 5 + 1, none⟩ = some (.string (S P.title)) ∧ x.cell? ⟨b, off + (i - 1) * 5 + 2, none⟩ = some (.string (S P.link)) ∧ x.cell? ⟨b, off + (i - 1) * 5 + 3, none⟩ = some (.string (S P.content)) ∧ x.cell? ⟨b, off + (i - 1) * 5 + 4, none⟩ = some (.int .i64 P.upd))) (by kernel_rfl) ?_ (fun hHeld => ?_)
              · (try dsimp only); exact KEEP.out _ (Below.refl _ _).drew
              refine wpAnyH_take (i := 0) (oi := (⟨some 20, _, _, _, _, _⟩ : Oper)) (v := ?_) rfl (by kernel_rfl) (by kernel_rfl) (by kernel_rfl) (fun _ _ _ h => h) (Or.inl ⟨by rfl, ?_⟩) (by assumption) ?_
              rotate_left
              · intro wS hSw; (try dsimp only at hSw); go_simp <;> with_reducible rfl
              simp only [Act.put, List.setIfInBounds_toArray, List.set_cons_zero, List.set_cons_succ]
              refine wpAnyH_take (i := 1) (oi := (⟨some 21, _, _, _, _, _⟩ : Oper)) (v := ?_) rfl (by kernel_rfl) (by kernel_rfl) (by kernel_rfl) (fun _ _ _ h => h) (Or.inl ⟨by rfl, ?_⟩) (by assumption) ?_
              rotate_left
              · intro wS hSw; (try dsimp only at hSw); go_simp <;> with_reducible rfl
              simp only [Act.put, List.setIfInBounds_toArray, List.set_cons_zero, List.set_cons_succ]
              refine wpAnyH_ready (rs := [2]) (by kernel_rfl) (by simp) ?_
              refine AllReadyH.cons (o := (⟨some 22, _, _, _, _, _⟩ : Oper)) rfl (fun K hK => ?_) ?_
              rotate_left
              · exact AllReadyH.nil
              go_simp
              (go_at_call 15; (with_reducible refine (HCK.out _ HW0.out.drew).mono ?_); rintro x w1 ⟨rfl, hb1⟩; have r1 := (Below.refl (wr.heap.size + 1) (wr.alloc (entBox X))).drew.trans (hb1.mono (by simp)); have hz1 : wr.heap.size + 1 ≤ w1.heap.size := (by have := r1.size; simpa using this); clear hb1)
              refine hK.out _ _ ?_ (fun hHeld => ?_)
              · (try dsimp only); exact KEEP.out _ r1
              clear hK K
              try simp only [Act.put, List.setIfInBounds_toArray, List.set_cons_zero, List.set_cons_succ]
              refine wpAnyH_take (i := 3) (oi := (⟨some 23, _, _, _, _, _⟩ : Oper)) (v := ?_) rfl (by kernel_rfl) (by kernel_rfl) (by kernel_rfl) (fun _ _ _ h => h) (Or.inl ⟨by rfl, ?_⟩) (by assumption) ?_
              rotate_left
              · intro wS hSw; (try dsimp only at hSw); go_simp <;> with_reducible rfl
              simp only [Act.put, List.setIfInBounds_toArray, List.set_cons_zero, List.set_cons_succ]
              refine wpAnyH_take (i := 4) (oi := (⟨some 24, _, _, _, _, _⟩ : Oper)) (v := ?_) rfl (by kernel_rfl) (by kernel_rfl) (by kernel_rfl) (fun _ _ _ h => h) (Or.inl ⟨by rfl, ?_⟩) (by assumption) ?_
              rotate_left
              · intro wS hSw; (try dsimp only at hSw); go_simp <;> with_reducible rfl
              simp only [Act.put, List.setIfInBounds_toArray, List.set_cons_zero, List.set_cons_succ]
              refine wpAnyH_take (i := 5) (oi := (⟨some 25, _, _, _, _, _⟩ : Oper)) (v := ?_) rfl (by kernel_rfl) (by kernel_rfl) (by kernel_rfl) (fun _ _ _ h => h) (Or.inl ⟨by rfl, ?_⟩) (by assumption) ?_
              rotate_left
              · intro wS hSw; (try dsimp only at hSw); go_simp <;> with_reducible rfl
              simp only [Act.put, List.setIfInBounds_toArray, List.set_cons_zero, List.set_cons_succ]
              refine wpAnyH_take (i := 6) (oi := (⟨some 26, _, _, _, _, _⟩ : Oper)) (v := ?_) rfl (by kernel_rfl) (by kernel_rfl) (by kernel_rfl) (fun _ _ _ h => h) (Or.inl ⟨by rfl, ?_⟩) (by assumption) ?_
              rotate_left
              · intro wS hSw; (try dsimp only at hSw); go_simp <;> with_reducible rfl
              simp only [Act.put, List.setIfInBounds_toArray, List.set_cons_zero, List.set_cons_succ]
              refine wpAnyH_take (i := 7) (oi := (⟨some 27, _, _, _, _, _⟩ : Oper)) (v := ?_) rfl (by kernel_rfl) (by kernel_rfl) (by kernel_rfl) (fun _ _ _ h => h) (Or.inl ⟨by rfl, ?_⟩) (by assumption) ?_
              rotate_left
              · intro wS hSw; (try dsimp only at hSw); go_simp <;> with_reducible rfl
              simp only [Act.put, List.setIfInBounds_toArray, List.set_cons_zero, List.set_cons_succ]
              refine wpAnyH_take (i := 8) (oi := (⟨some 28, _, _, _, _, _⟩ : Oper)) (v := ?_) rfl (by kernel_rfl) (by kernel_rfl) (by kernel_rfl) (fun _ _ _ h => h) (Or.inl ⟨by rfl, ?_⟩) (by assumption) ?_
              rotate_left
              · intro wS hSw; (try dsimp only at hSw); go_simp <;> with_reducible rfl
              simp only [Act.put, List.setIfInBounds_toArray, List.set_cons_zero, List.set_cons_succ]
              refine wpAnyH_take (i := 9) (oi := (⟨some 29, _, _, _, _, _⟩ : Oper)) (v := ?_) rfl (by kernel_rfl) (by kernel_rfl) (by kernel_rfl) (fun _ _ _ h => h) (Or.inl ⟨by rfl, ?_⟩) (by assumption) ?_
              rotate_left
              · intro wS hSw; (try dsimp only at hSw); go_simp <;> with_reducible rfl
              simp only [Act.put, List.setIfInBounds_toArray, List.set_cons_zero, List.set_cons_succ]
              refine wpAnyH_take (i := 10) (oi := (⟨some 30, _, _, _, _, _⟩ : Oper)) (v := ?_) rfl (by kernel_rfl) (by kernel_rfl) (by kernel_rfl) (fun _ _ _ h => h) (Or.inl ⟨by rfl, ?_⟩) (by assumption) ?_
              rotate_left
              · intro wS hSw; (try dsimp only at hSw); go_simp <;> with_reducible rfl
              simp only [Act.put, List.setIfInBounds_toArray, List.set_cons_zero, List.set_cons_succ]
              refine wpAnyH_take (i := 11) (oi := (⟨some 31, _, _, _, _, _⟩ : Oper)) (v := ?_) rfl (by kernel_rfl) (by kernel_rfl) (by kernel_rfl) (fun _ _ _ h => h) (Or.inl ⟨by rfl, ?_⟩) (by assumption) ?_
              rotate_left
              · intro wS hSw; (try dsimp only at hSw); go_simp <;> with_reducible rfl
              simp only [Act.put, List.setIfInBounds_toArray, List.set_cons_zero, List.set_cons_succ]
              refine wpAnyH_take (i := 12) (oi := (⟨some 32, _, _, _, _, _⟩ : Oper)) (v := ?_) rfl (by kernel_rfl) (by kernel_rfl) (by kernel_rfl) (fun _ _ _ h => h) (Or.inl ⟨by rfl, ?_⟩) (by assumption) ?_
              rotate_left
              · intro wS hSw; (try dsimp only at hSw); go_simp <;> with_reducible rfl
              simp only [Act.put, List.setIfInBounds_toArray, List.set_cons_zero, List.set_cons_succ]
              refine wpAnyH_take (i := 13) (oi := (⟨some 33, _, _, _, _, _⟩ : Oper)) (v := ?_) rfl (by kernel_rfl) (by kernel_rfl) (by kernel_rfl) (fun _ _ _ h => h) (Or.inl ⟨by rfl, ?_⟩) (by assumption) ?_
              rotate_left
              · intro wS hSw; (try dsimp only at hSw); go_simp <;> with_reducible rfl
              simp only [Act.put, List.setIfInBounds_toArray, List.set_cons_zero, List.set_cons_succ]
              refine wpAnyH_take (i := 14) (oi := (⟨some 34, _, _, _, _, _⟩ : Oper)) (v := ?_) rfl (by kernel_rfl) (by kernel_rfl) (by kernel_rfl) (fun _ _ _ h => h) (Or.inl ⟨by rfl, ?_⟩) (by assumption) ?_
              rotate_left
              · intro wS hSw; (try dsimp only at hSw); go_simp <;> with_reducible rfl
              simp only [Act.put, List.setIfInBounds_toArray, List.set_cons_zero, List.set_cons_succ]
              refine wpAnyH_ready (rs := [15]) (by kernel_rfl) (by simp) ?_
              refine AllReadyH.cons (o := (⟨some 35, _, _, _, _, _⟩ : Oper)) rfl (fun K hK => ?_) ?_
              rotate_left
              · exact AllReadyH.nil
              go_simp
              (go_at_call 12; (with_reducible refine (HCM.out _).mono ?_); rintro x w2 ⟨rfl, hb2⟩; have r2 := r1.trans (hb2.mono hz1); have hz2 : wr.heap.size + 1 ≤ w2.heap.size := (by have := r2.size; simpa using this); clear hb2)
              refine hK.out _ _ ?_ (fun hHeld => ?_)
              · (try dsimp only); exact KEEP.out _ r2
              clear hK K
              try simp only [Act.put, List.setIfInBounds_toArray, List.set_cons_zero, List.set_cons_succ]
              refine wpAnyH_take (i := 16) (oi := (⟨some 36, _, _, _, _, _⟩ : Oper)) (v := ?_) rfl (by kernel_rfl) (by kernel_rfl) (by kernel_rfl) (fun _ _ _ h => h) (Or.inl ⟨by rfl, ?_⟩) (by assumption) ?_
              rotate_left
              · intro wS hSw; (try dsimp only at hSw); go_simp <;> with_reducible rfl
              simp only [Act.put, List.setIfInBounds_toArray, List.set_cons_zero, List.set_cons_succ]
              refine wpAnyH_take (i := 17) (oi := (⟨some 37, _, _, _, _, _⟩ : Oper)) (v := ?_) rfl (by kernel_rfl) (by kernel_rfl) (by kernel_rfl) (fun _ _ _ h => h) (Or.inl ⟨by rfl, ?_⟩) (by assumption) ?_
              rotate_left
              · intro wS hSw; (try dsimp only at hSw); go_simp <;> with_reducible rfl
              simp only [Act.put, List.setIfInBounds_toArray, List.set_cons_zero, List.set_cons_succ]
              refine wpAnyH_take (i := 18) (oi := (⟨some 38, _, _, _, _, _⟩ : Oper)) (v := ?_) rfl (by kernel_rfl) (by kernel_rfl) (by kernel_rfl) (fun _ _ _ h => h) (Or.inl ⟨by rfl, ?_⟩) (by assumption) ?_
              rotate_left
              · intro wS hSw; (try dsimp only at hSw); go_simp <;> with_reducible rfl
              simp only [Act.put, List.setIfInBounds_toArray, List.set_cons_zero, List.set_cons_succ]
              refine wpAnyH_take (i := 19) (oi := (⟨some 39, _, _, _, _, _⟩ : Oper)) (v := ?_) rfl (by kernel_rfl) (by kernel_rfl) (by kernel_rfl) (fun _ _ _ h => h) (Or.inl ⟨by rfl, ?_⟩) (by assumption) ?_
              rotate_left
              · intro wS hSw; (try dsimp only at hSw); go_simp <;> with_reducible rfl
              simp only [Act.put, List.setIfInBounds_toArray, List.set_cons_zero, List.set_cons_succ]
              refine wpAnyH_take (i := 20) (oi := (⟨some 40, _, _, _, _, _⟩ : Oper)) (v := ?_) rfl (by kernel_rfl) (by kernel_rfl) (by kernel_rfl) (fun _ _ _ h => h) (Or.inl ⟨by rfl, ?_⟩) (by assumption) ?_
              rotate_left
              · intro wS hSw; (try dsimp only at hSw); go_simp <;> with_reducible rfl
              simp only [Act.put, List.setIfInBounds_toArray, List.set_cons_zero, List.set_cons_succ]
              refine wpAnyH_take (i := 21) (oi := (⟨some 41, _, _, _, _, _⟩ : Oper)) (v := ?_) rfl (by kernel_rfl) (by kernel_rfl) (by kernel_rfl) (fun _ _ _ h => h) (Or.inl ⟨by rfl, ?_⟩) (by assumption) ?_
              rotate_left
              · intro wS hSw; (try dsimp only at hSw); go_simp <;> with_reducible rfl
              simp only [Act.put, List.setIfInBounds_toArray, List.set_cons_zero, List.set_cons_succ]
              refine wpAnyH_take (i := 22) (oi := (⟨some 42, _, _, _, _, _⟩ : Oper)) (v := ?_) rfl (by kernel_rfl) (by kernel_rfl) (by kernel_rfl) (fun _ _ _ h => h) (Or.inl ⟨by rfl, ?_⟩) (by assumption) ?_
              rotate_left
              · intro wS hSw; (try dsimp only at hSw); go_simp <;> with_reducible rfl
              simp only [Act.put, List.setIfInBounds_toArray, List.set_cons_zero, List.set_cons_succ]
              refine wpAnyH_ready (rs := [23]) (by kernel_rfl) (by simp) ?_
              refine AllReadyH.cons (o := (⟨some 43, _, _, _, _, _⟩ : Oper)) rfl (fun K hK => ?_) ?_
              rotate_left
              · exact AllReadyH.nil
              go_simp
              (go_at_call 57; (with_reducible refine (HID.out _).mono ?_); rintro x w3 ⟨rfl, hb3⟩; have r3 := r2.trans (hb3.mono hz2); have hz3 : wr.heap.size + 1 ≤ w3.heap.size := (by have := r3.size; simpa using this); have hlook := HLK.out w3 (HMK.out _ r3); clear hb3)
              refine hK.out _ _ ?_ (fun hHeld => ?_)
              · (try dsimp only); exact KEEP.out _ r3
              clear hK K
              try simp only [Act.put, List.setIfInBounds_toArray, List.set_cons_zero, List.set_cons_succ]
              refine wpAnyH_ready (rs := [24]) (by kernel_rfl) (by simp) ?_
              refine AllReadyH.cons (o := (⟨some 44, _, _, _, _, _⟩ : Oper)) rfl (fun K hK => ?_) ?_
              rotate_left
              · exact AllReadyH.nil
              go_simp
              refine hK.out _ _ ?_ (fun hHeld => ?_)
              · (try dsimp only); exact KEEP.out _ r3
              clear hK K
              try simp only [Act.put, List.setIfInBounds_toArray, List.set_cons_zero, List.set_cons_succ]
              refine wpAnyH_take (i := 25) (oi := (⟨some 45, _, _, _, _, _⟩ : Oper)) (v := ?_) rfl (by kernel_rfl) (by kernel_rfl) (by kernel_rfl) (fun _ _ _ h => h) (Or.inl ⟨by rfl, ?_⟩) (by assumption) ?_
              rotate_left
              · intro wS hSw; (try dsimp only at hSw); go_simp <;> with_reducible rfl
              simp only [Act.put, List.setIfInBounds_toArray, List.set_cons_zero, List.set_cons_succ]
              refine wpAnyH_done (by kernel_rfl) ?_ _
              all_goals
                have HRB := Lib.hid r3
                have hkx := (KEEP.out _ r3)
                obtain ⟨k0, k1, k2, k3, k4⟩ := KX.out _ r3
                clear hlook hkx
                go_wp2_with (first
                  | (go_at_call 57; refine (HID.out _).mono ?_; rintro x w5 ⟨rfl, hb5⟩; have r5 := HRB.out.trans (hb5.mono hz3); have MP5 := Lib.hid (HMK.out _ r5); have HR5 := Lib.hid r5; have hz5 : wr.heap.size + 1 ≤ w5.heap.size := (by have := r5.size; simpa using this); clear hb5 r5)
                  | (at_mapUpdate; refine wpList_map_put rfl _ _ _ 89 rfl Tryz.underlying89 Tryz.underlying9 w.heap.size (seenOf seen) MP5.out rfl X.id rfl (.bool true) rfl ?_; intro w6 hm6 hu6 hs6))
                go_roundw
                case rel => exact ⟨i + 1, by omega, by go_num, by rw [HTK.out, ← HSE.out]; exact hm6, HRR.out, (HWB.out.trans (HR5.out.mono (by omega))).trans (hu6.below (Nat.le_refl _) (by omega))⟩
                case measure => simp [intOf]; omega
          · have qm : decide ((0 : Int) ≤ m) = true := decide_eq_true (by omega)
            rw [decide_eq_false hm] at hst
            have hr : R = false := by rw [← hst]; rfl
            have HRR := Lib.hid hr
            clear hlk hst hr hm
            go_wp2_with (with_reducible refine gate ?_; refine wp_load_ent rfl _ rfl b (off + i * 5) rfl _ rfl HR1.out ?_)
            refine wp_region_held_drew (S := fun x => (x.cell? ⟨wr.heap.size, 0, none⟩ = some (.string (S X.id)) ∧ x.cell? ⟨wr.heap.size, 1, none⟩ = some (.string (S X.title)) ∧ x.cell? ⟨wr.heap.size, 2, none⟩ = some (.string (S X.link)) ∧ x.cell? ⟨wr.heap.size, 3, none⟩ = some (.string (S X.content)) ∧ x.cell? ⟨wr.heap.size, 4, none⟩ = some (.int .i64 X.upd)) ∧ (x.cell? ⟨b, off + (i - 1) * 5, none⟩ = some (.string (S P.id)) ∧ x.cell? ⟨b, off + (i - 1) * 5 + 1, none⟩ = some (.string (S P.title)) ∧ x.cell? ⟨b, off + (i - 1) * 5 + 2, none⟩ = some (.string (S P.link)) ∧ x.cell? ⟨b, off + (i - 1) * 5 + 3, none⟩ = some (.string (S P.content)) ∧ x.cell? ⟨b, off + (i - 1) * 5 + 4, none⟩ = some (.int .i64 P.upd))) (by kernel_rfl) ?_ (fun hHeld => ?_)
            · (try dsimp only); exact KEEP.out _ (Below.refl _ _).drew
            refine wpAnyH_take (i := 0) (oi := (⟨some 20, _, _, _, _, _⟩ : Oper)) (v := ?_) rfl (by kernel_rfl) (by kernel_rfl) (by kernel_rfl) (fun _ _ _ h => h) (Or.inl ⟨by rfl, ?_⟩) (by assumption) ?_
            rotate_left
            · intro wS hSw; (try dsimp only at hSw); go_simp <;> with_reducible rfl
            simp only [Act.put, List.setIfInBounds_toArray, List.set_cons_zero, List.set_cons_succ]
            refine wpAnyH_take (i := 1) (oi := (⟨some 21, _, _, _, _, _⟩ : Oper)) (v := ?_) rfl (by kernel_rfl) (by kernel_rfl) (by kernel_rfl) (fun _ _ _ h => h) (Or.inl ⟨by rfl, ?_⟩) (by assumption) ?_
            rotate_left
            · intro wS hSw; (try dsimp only at hSw); go_simp <;> with_reducible rfl
            simp only [Act.put, List.setIfInBounds_toArray, List.set_cons_zero, List.set_cons_succ]
            refine wpAnyH_ready (rs := [2]) (by kernel_rfl) (by simp) ?_
            refine AllReadyH.cons (o := (⟨some 22, _, _, _, _, _⟩ : Oper)) rfl (fun K hK => ?_) ?_
            rotate_left
            · exact AllReadyH.nil
            go_simp
            (go_at_call 15; (with_reducible refine (HCK.out _ HW0.out.drew).mono ?_); rintro x w1 ⟨rfl, hb1⟩; have r1 := (Below.refl (wr.heap.size + 1) (wr.alloc (entBox X))).drew.trans (hb1.mono (by simp)); have hz1 : wr.heap.size + 1 ≤ w1.heap.size := (by have := r1.size; simpa using this); clear hb1)
            refine hK.out _ _ ?_ (fun hHeld => ?_)
            · (try dsimp only); exact KEEP.out _ r1
            clear hK K
            try simp only [Act.put, List.setIfInBounds_toArray, List.set_cons_zero, List.set_cons_succ]
            refine wpAnyH_take (i := 3) (oi := (⟨some 23, _, _, _, _, _⟩ : Oper)) (v := ?_) rfl (by kernel_rfl) (by kernel_rfl) (by kernel_rfl) (fun _ _ _ h => h) (Or.inl ⟨by rfl, ?_⟩) (by assumption) ?_
            rotate_left
            · intro wS hSw; (try dsimp only at hSw); go_simp <;> with_reducible rfl
            simp only [Act.put, List.setIfInBounds_toArray, List.set_cons_zero, List.set_cons_succ]
            refine wpAnyH_take (i := 4) (oi := (⟨some 24, _, _, _, _, _⟩ : Oper)) (v := ?_) rfl (by kernel_rfl) (by kernel_rfl) (by kernel_rfl) (fun _ _ _ h => h) (Or.inl ⟨by rfl, ?_⟩) (by assumption) ?_
            rotate_left
            · intro wS hSw; (try dsimp only at hSw); go_simp <;> with_reducible rfl
            simp only [Act.put, List.setIfInBounds_toArray, List.set_cons_zero, List.set_cons_succ]
            refine wpAnyH_take (i := 5) (oi := (⟨some 25, _, _, _, _, _⟩ : Oper)) (v := ?_) rfl (by kernel_rfl) (by kernel_rfl) (by kernel_rfl) (fun _ _ _ h => h) (Or.inl ⟨by rfl, ?_⟩) (by assumption) ?_
            rotate_left
            · intro wS hSw; (try dsimp only at hSw); go_simp <;> with_reducible rfl
            simp only [Act.put, List.setIfInBounds_toArray, List.set_cons_zero, List.set_cons_succ]
            refine wpAnyH_take (i := 6) (oi := (⟨some 26, _, _, _, _, _⟩ : Oper)) (v := ?_) rfl (by kernel_rfl) (by kernel_rfl) (by kernel_rfl) (fun _ _ _ h => h) (Or.inl ⟨by rfl, ?_⟩) (by assumption) ?_
            rotate_left
            · intro wS hSw; (try dsimp only at hSw); go_simp <;> with_reducible rfl
            simp only [Act.put, List.setIfInBounds_toArray, List.set_cons_zero, List.set_cons_succ]
            refine wpAnyH_take (i := 7) (oi := (⟨some 27, _, _, _, _, _⟩ : Oper)) (v := ?_) rfl (by kernel_rfl) (by kernel_rfl) (by kernel_rfl) (fun _ _ _ h => h) (Or.inl ⟨by rfl, ?_⟩) (by assumption) ?_
            rotate_left
            · intro wS hSw; (try dsimp only at hSw); go_simp <;> with_reducible rfl
            simp only [Act.put, List.setIfInBounds_toArray, List.set_cons_zero, List.set_cons_succ]
            refine wpAnyH_take (i := 8) (oi := (⟨some 28, _, _, _, _, _⟩ : Oper)) (v := ?_) rfl (by kernel_rfl) (by kernel_rfl) (by kernel_rfl) (fun _ _ _ h => h) (Or.inl ⟨by rfl, ?_⟩) (by assumption) ?_
            rotate_left
            · intro wS hSw; (try dsimp only at hSw); go_simp <;> with_reducible rfl
            simp only [Act.put, List.setIfInBounds_toArray, List.set_cons_zero, List.set_cons_succ]
            refine wpAnyH_take (i := 9) (oi := (⟨some 29, _, _, _, _, _⟩ : Oper)) (v := ?_) rfl (by kernel_rfl) (by kernel_rfl) (by kernel_rfl) (fun _ _ _ h => h) (Or.inl ⟨by rfl, ?_⟩) (by assumption) ?_
            rotate_left
            · intro wS hSw; (try dsimp only at hSw); go_simp <;> with_reducible rfl
            simp only [Act.put, List.setIfInBounds_toArray, List.set_cons_zero, List.set_cons_succ]
            refine wpAnyH_take (i := 10) (oi := (⟨some 30, _, _, _, _, _⟩ : Oper)) (v := ?_) rfl (by kernel_rfl) (by kernel_rfl) (by kernel_rfl) (fun _ _ _ h => h) (Or.inl ⟨by rfl, ?_⟩) (by assumption) ?_
            rotate_left
            · intro wS hSw; (try dsimp only at hSw); go_simp <;> with_reducible rfl
            simp only [Act.put, List.setIfInBounds_toArray, List.set_cons_zero, List.set_cons_succ]
            refine wpAnyH_take (i := 11) (oi := (⟨some 31, _, _, _, _, _⟩ : Oper)) (v := ?_) rfl (by kernel_rfl) (by kernel_rfl) (by kernel_rfl) (fun _ _ _ h => h) (Or.inl ⟨by rfl, ?_⟩) (by assumption) ?_
            rotate_left
            · intro wS hSw; (try dsimp only at hSw); go_simp <;> with_reducible rfl
            simp only [Act.put, List.setIfInBounds_toArray, List.set_cons_zero, List.set_cons_succ]
            refine wpAnyH_take (i := 12) (oi := (⟨some 32, _, _, _, _, _⟩ : Oper)) (v := ?_) rfl (by kernel_rfl) (by kernel_rfl) (by kernel_rfl) (fun _ _ _ h => h) (Or.inl ⟨by rfl, ?_⟩) (by assumption) ?_
            rotate_left
            · intro wS hSw; (try dsimp only at hSw); go_simp <;> with_reducible rfl
            simp only [Act.put, List.setIfInBounds_toArray, List.set_cons_zero, List.set_cons_succ]
            refine wpAnyH_take (i := 13) (oi := (⟨some 33, _, _, _, _, _⟩ : Oper)) (v := ?_) rfl (by kernel_rfl) (by kernel_rfl) (by kernel_rfl) (fun _ _ _ h => h) (Or.inl ⟨by rfl, ?_⟩) (by assumption) ?_
            rotate_left
            · intro wS hSw; (try dsimp only at hSw); go_simp <;> with_reducible rfl
            simp only [Act.put, List.setIfInBounds_toArray, List.set_cons_zero, List.set_cons_succ]
            refine wpAnyH_take (i := 14) (oi := (⟨some 34, _, _, _, _, _⟩ : Oper)) (v := ?_) rfl (by kernel_rfl) (by kernel_rfl) (by kernel_rfl) (fun _ _ _ h => h) (Or.inl ⟨by rfl, ?_⟩) (by assumption) ?_
            rotate_left
            · intro wS hSw; (try dsimp only at hSw); go_simp <;> with_reducible rfl
            simp only [Act.put, List.setIfInBounds_toArray, List.set_cons_zero, List.set_cons_succ]
            refine wpAnyH_ready (rs := [15]) (by kernel_rfl) (by simp) ?_
            refine AllReadyH.cons (o := (⟨some 35, _, _, _, _, _⟩ : Oper)) rfl (fun K hK => ?_) ?_
            rotate_left
            · exact AllReadyH.nil
            go_simp
            (go_at_call 12; (with_reducible refine (HCM.out _).mono ?_); rintro x w2 ⟨rfl, hb2⟩; have r2 := r1.trans (hb2.mono hz1); have hz2 : wr.heap.size + 1 ≤ w2.heap.size := (by have := r2.size; simpa using this); clear hb2)
            refine hK.out _ _ ?_ (fun hHeld => ?_)
            · (try dsimp only); exact KEEP.out _ r2
            clear hK K
            try simp only [Act.put, List.setIfInBounds_toArray, List.set_cons_zero, List.set_cons_succ]
            refine wpAnyH_take (i := 16) (oi := (⟨some 36, _, _, _, _, _⟩ : Oper)) (v := ?_) rfl (by kernel_rfl) (by kernel_rfl) (by kernel_rfl) (fun _ _ _ h => h) (Or.inl ⟨by rfl, ?_⟩) (by assumption) ?_
            rotate_left
            · intro wS hSw; (try dsimp only at hSw); go_simp <;> with_reducible rfl
            simp only [Act.put, List.setIfInBounds_toArray, List.set_cons_zero, List.set_cons_succ]
            refine wpAnyH_take (i := 17) (oi := (⟨some 37, _, _, _, _, _⟩ : Oper)) (v := ?_) rfl (by kernel_rfl) (by kernel_rfl) (by kernel_rfl) (fun _ _ _ h => h) (Or.inl ⟨by rfl, ?_⟩) (by assumption) ?_
            rotate_left
            · intro wS hSw; (try dsimp only at hSw); go_simp <;> with_reducible rfl
            simp only [Act.put, List.setIfInBounds_toArray, List.set_cons_zero, List.set_cons_succ]
            refine wpAnyH_take (i := 18) (oi := (⟨some 38, _, _, _, _, _⟩ : Oper)) (v := ?_) rfl (by kernel_rfl) (by kernel_rfl) (by kernel_rfl) (fun _ _ _ h => h) (Or.inl ⟨by rfl, ?_⟩) (by assumption) ?_
            rotate_left
            · intro wS hSw; (try dsimp only at hSw); go_simp <;> with_reducible rfl
            simp only [Act.put, List.setIfInBounds_toArray, List.set_cons_zero, List.set_cons_succ]
            refine wpAnyH_take (i := 19) (oi := (⟨some 39, _, _, _, _, _⟩ : Oper)) (v := ?_) rfl (by kernel_rfl) (by kernel_rfl) (by kernel_rfl) (fun _ _ _ h => h) (Or.inl ⟨by rfl, ?_⟩) (by assumption) ?_
            rotate_left
            · intro wS hSw; (try dsimp only at hSw); go_simp <;> with_reducible rfl
            simp only [Act.put, List.setIfInBounds_toArray, List.set_cons_zero, List.set_cons_succ]
            refine wpAnyH_take (i := 20) (oi := (⟨some 40, _, _, _, _, _⟩ : Oper)) (v := undef) rfl (by kernel_rfl) (by kernel_rfl) (by kernel_rfl) (fun _ _ _ h => h) (Or.inr ⟨by rfl, rfl⟩) (by assumption) ?_
            simp only [Act.put, List.setIfInBounds_toArray, List.set_cons_zero, List.set_cons_succ]
            refine wpAnyH_take (i := 21) (oi := (⟨some 41, _, _, _, _, _⟩ : Oper)) (v := undef) rfl (by kernel_rfl) (by kernel_rfl) (by kernel_rfl) (fun _ _ _ h => h) (Or.inr ⟨by rfl, rfl⟩) (by assumption) ?_
            simp only [Act.put, List.setIfInBounds_toArray, List.set_cons_zero, List.set_cons_succ]
            refine wpAnyH_take (i := 22) (oi := (⟨some 42, _, _, _, _, _⟩ : Oper)) (v := undef) rfl (by kernel_rfl) (by kernel_rfl) (by kernel_rfl) (fun _ _ _ h => h) (Or.inr ⟨by rfl, rfl⟩) (by assumption) ?_
            simp only [Act.put, List.setIfInBounds_toArray, List.set_cons_zero, List.set_cons_succ]
            refine wpAnyH_take (i := 23) (oi := (⟨some 43, _, _, _, _, _⟩ : Oper)) (v := undef) rfl (by kernel_rfl) (by kernel_rfl) (by kernel_rfl) (fun _ _ _ h => h) (Or.inr ⟨by rfl, rfl⟩) (by assumption) ?_
            simp only [Act.put, List.setIfInBounds_toArray, List.set_cons_zero, List.set_cons_succ]
            refine wpAnyH_take (i := 24) (oi := (⟨some 44, _, _, _, _, _⟩ : Oper)) (v := undef) rfl (by kernel_rfl) (by kernel_rfl) (by kernel_rfl) (fun _ _ _ h => h) (Or.inr ⟨by rfl, rfl⟩) (by assumption) ?_
            simp only [Act.put, List.setIfInBounds_toArray, List.set_cons_zero, List.set_cons_succ]
            refine wpAnyH_take (i := 25) (oi := (⟨some 45, _, _, _, _, _⟩ : Oper)) (v := ?_) rfl (by kernel_rfl) (by kernel_rfl) (by kernel_rfl) (fun _ _ _ h => h) (Or.inl ⟨by rfl, ?_⟩) (by assumption) ?_
            rotate_left
            · intro wS hSw; (try dsimp only at hSw); go_simp <;> with_reducible rfl
            simp only [Act.put, List.setIfInBounds_toArray, List.set_cons_zero, List.set_cons_succ]
            refine wpAnyH_done (by kernel_rfl) ?_ _
            all_goals
              have HRB := Lib.hid r2
              clear r2
              go_wp2_with fail
              go_ret
              exact ⟨ret_bool HRR.out.symm, HWB.out.trans (HRB.out.mono (by omega))⟩
    · obtain rfl : i = l.length := by omega
      rw [ordG_end] at hres
      subst hres
      have hlt' : ¬ (l.length : Int) < l.length := by omega
      go_wp2_with fail
      go_ret
      exact ⟨rfl, HB.out⟩
end Go.Proofs.YtadkgjbidhfefaaGreatDoor
set_option linter.unusedVariables false
namespace Go.Proofs.YtadkgjbidhfefaaGreatDoor
open Go.RowKit

theorem contains_any (l : List Bytes) (x : Bytes) (u : Value) (w : World) (p : Nat → Prop) (h : ElsP strE w p u l) (hl : l.length ≤ 1000000000000) :
    Calls Tryz.prog 56 #[u, .string (S x)] w fun e w' => e = .returned (.bool (l.contains x)) ∧ w' = w := by
  obtain ⟨A, c, rfl, _⟩ := h.slice
  by_cases hn : l = []
  · subst hn
    exact Tryz.slices_Contains_string_empty A c (S x) w
  · have hlt : 0 < l.length := List.length_pos_iff.2 hn
    obtain ⟨b, off, rfl, hpb, _⟩ := strs_cell h hlt
    have := Tryz.slices_Contains_string b off l.length c (l.map S) (S x) w (by simp) (by omega) (fun j hj => by
      have hj' : j < l.length := by simpa using hj
      obtain ⟨b', off', hA, _, hc⟩ := strs_cell h hj'
      cases hA
      rw [hc]
      simp [List.getD, hj'])
    refine this.mono ?_
    rintro e w' ⟨rfl, rfl⟩
    refine ⟨?_, rfl⟩
    congr 2
    rw [List.take_of_length_le (by simp), Bool.eq_iff_iff, Go.Lib.containsS_iff]
    simp only [List.mem_map, List.contains_iff_mem]
    constructor
    · rintro ⟨y, hy, he⟩
      have : y = x := by have := congrArg (fun s : ByteArray => s.data.toList) he; simpa [S] using this
      subst this
      exact hy
    · exact fun h => ⟨x, h, rfl⟩
theorem containsE_any (l : List Bytes) (u : Value) (w : World) (p : Nat → Prop) (h : ElsP strE w p u l) (hl : l.length ≤ 1000000000000) :
    Calls Tryz.prog 56 #[u, .string ⟨#[]⟩] w fun e w' => e = .returned (.bool (l.contains [])) ∧ w' = w := contains_any l [] u w p h hl

/-- Which feeds are valid. -/
def vldF (f : Fe) : Bool := (decide (f.path.length ≤ 64) && !(f.path.contains []) && f.path.all vldT) && !f.id.isEmpty && inT f.upd && (strsF f).all vldT && ordEs f.ents
/-- A feed that is not too large. -/
structure FSz (f : Fe) : Prop where
  path : f.path.length ≤ 100000
  strs : (f.path.map List.length).sum ≤ 100000
  head : f.id.length + f.title.length + f.link.length ≤ 100000
  ents : ∀ e ∈ f.ents, esz e ≤ 100000
  many : f.ents.length ≤ 1000000
theorem FSz.each {f : Fe} (h : FSz f) : ∀ s ∈ f.path, s.length ≤ 1000000 := fun s hs => by
  obtain ⟨i, hi, rfl⟩ := List.getElem_of_mem hs
  have := mem_sum hi
  have := h.strs
  omega

set_option maxHeartbeats 4000000 in
set_option maxRecDepth 100000 in
theorem checkFeed_any (f : Fe) (u : Value) (w : World) (hT : TabJ w) (hs : FSz f) (hu : FeeV w (· < w.heap.size) f u) :
    Calls Tryz.prog 37 #[u] w fun x w' => x = .returned (.int .i64 (er13 (vldF f))) ∧ Below w.heap.size w w' := by
  obtain ⟨PA, pc, EA, ec, rfl, hp, he, hpc, hec⟩ := hu.open_
  have hA0 : Below w.heap.size w (w.alloc (feeBox f PA pc EA ec)) := (Below.refl _ _).alloc (Nat.le_refl _) _
  have hz0 : (w.alloc (feeBox f PA pc EA ec)).heap.size = w.heap.size + 1 := by simp
  have hco := fun W => fun (hW : Below w.heap.size w W) => containsE_any f.path _ W (· < w.heap.size) (hp.keep strE_ok hW.block (fun _ h => h)) (by have := hs.path; omega)
  have hal := fun W => fun (hW : Below w.heap.size w W) => all13_any f.path _ W (hT.next hW) (hp.keep strE_ok hW.block (fun k hk => Nat.lt_of_lt_of_le hk hW.size)) (by have := hs.path; omega) hs.each
  have hor := fun W => fun (hW : Below w.heap.size w W) => orderedE_any f.ents _ W (hT.next hW) (he.keep entE_ok hW.block (fun k hk => Nat.lt_of_lt_of_le hk hW.size)) (by have := hs.many; omega) hs.ents
  have hal2 := fun (W : World) (b : Nat) (hW : Below w.heap.size w W) (hb : W.heap[b]? = some (.cells #[.string (S f.id), .string (S f.title), .string (S f.link)] 9)) => all13_any (strsF f) _ W (hT.next hW) (els_three hb) (by simp [strsF]) (fun s hs2 => by have := hs.head; simp [strsF] at hs2; rcases hs2 with rfl | rfl | rfl <;> omega)
  have hti := fun W => inTime_any f.upd W
  have hkp : ∀ W, Below (w.heap.size + 1) (w.alloc (feeBox f PA pc EA ec)) W → W.cell? ⟨w.heap.size, 0, none⟩ = some (.slice PA f.path.length pc) ∧ W.cell? ⟨w.heap.size, 1, none⟩ = some (.string (S f.id)) ∧ W.cell? ⟨w.heap.size, 2, none⟩ = some (.string (S f.title)) ∧ W.cell? ⟨w.heap.size, 3, none⟩ = some (.string (S f.link)) ∧ W.cell? ⟨w.heap.size, 4, none⟩ = some (.int .i64 f.upd) ∧ W.cell? ⟨w.heap.size, 5, none⟩ = some (.slice EA f.ents.length ec) := fun W hW =>
    cells6 ((hW.block w.heap.size (by omega)).trans (heap_alloc_new w (feeBox f PA pc EA ec)))
  have HCK := Lib.hid (fun b W => checked_any b W)
  have KEEP := Lib.hid hkp
  have HA0 := Lib.hid hA0
  have R0 := Lib.hid (show Below (w.heap.size + 1) (w.alloc (feeBox f PA pc EA ec)) (w.alloc (feeBox f PA pc EA ec)) from Below.refl _ _)
  have HCO := Lib.hid hco
  have HAL := Lib.hid hal
  have HOR := Lib.hid hor
  have HAL2 := Lib.hid hal2
  have HTI := Lib.hid hti
  have hpl : f.path.length ≤ 1000000 := by have := hs.path; omega
  clear hkp hA0 hco hal hor hal2 hti hT hs hp he hu hz0
  unfold vldF
  generalize f.path.contains [] = qc at *
  generalize f.path.all vldT = qa at *
  generalize ordEs f.ents = qo at *
  generalize (strsF f).all vldT = qs at *
  generalize inT f.upd = qt at *
  by_cases h64 : f.path.length ≤ 64
  · have q64 : (f.path.length : Int) ≤ 64 := by omega
    rw [decide_eq_true h64, Bool.true_and]
    clear h64
    cases qc with
    | true =>
      rw [Bool.not_true, Bool.false_and, Bool.false_and, Bool.false_and, Bool.false_and, Bool.false_and]
      go_enter Tryz.func37, Tryz.ntmps37
      go_wp2_with (first
        | (go_at_call 56; (with_reducible refine (HCO.out _ HA0.out).mono ?_); rintro x wq ⟨rfl, rfl⟩)
        | (go_at_call 41; (with_reducible refine (HAL.out _ HA0.out).mono ?_); rintro x w1 ⟨rfl, hb1⟩; have r1 := R0.out.trans (hb1.mono (by simp)); have hz1 : w.heap.size + 1 ≤ w1.heap.size := (by have := r1.size; simpa using this); have HW1 := Lib.hid (HA0.out.trans (r1.mono (by omega))); have R1 := Lib.hid r1; obtain ⟨k0, k1, k2, k3, k4, k5⟩ := KEEP.out _ r1; clear hb1 r1)
        | (go_at_call 40; (with_reducible refine (HTI.out _).mono ?_); rintro x w1 ⟨rfl, rfl⟩)
        | (go_at_call 41; (with_reducible refine (HAL2.out _ _ (HW1.out.alloc (by omega) _) (heap_alloc_new w1 _)).mono ?_); rintro x w2 ⟨rfl, hb2⟩; have r2 := (R1.out.alloc hz1 (.cells #[.string (S f.id), .string (S f.title), .string (S f.link)] 9)).trans (hb2.mono (by simp; omega)); have hz2 : w.heap.size + 1 ≤ w2.heap.size := (by have := r2.size; simpa using this); have HW2 := Lib.hid (HA0.out.trans (r2.mono (by omega))); have R2 := Lib.hid r2; clear k0 k1 k2 k3 k4 k5; obtain ⟨k0, k1, k2, k3, k4, k5⟩ := KEEP.out _ r2; clear hb2 r2)
        | (go_at_call 58; (with_reducible refine (HOR.out _ HW2.out).mono ?_); rintro x w3 ⟨rfl, hb3⟩; have R3 := Lib.hid (R2.out.trans (hb3.mono hz2)); clear hb3)
        | (go_at_call 35; refine (HCK.out _ _).mono ?_; rintro x wq ⟨rfl, rfl⟩))
      go_ret
      exact ⟨rfl, HA0.out.trans (R0.out.mono (Nat.le_succ _))⟩
    | false =>
      rw [Bool.not_false, Bool.true_and]
      cases qa with
      | false =>
        rw [Bool.false_and, Bool.false_and, Bool.false_and, Bool.false_and]
        go_enter Tryz.func37, Tryz.ntmps37
        go_wp2_with (first
          | (go_at_call 56; (with_reducible refine (HCO.out _ HA0.out).mono ?_); rintro x wq ⟨rfl, rfl⟩)
          | (go_at_call 41; (with_reducible refine (HAL.out _ HA0.out).mono ?_); rintro x w1 ⟨rfl, hb1⟩; have r1 := R0.out.trans (hb1.mono (by simp)); have hz1 : w.heap.size + 1 ≤ w1.heap.size := (by have := r1.size; simpa using this); have HW1 := Lib.hid (HA0.out.trans (r1.mono (by omega))); have R1 := Lib.hid r1; obtain ⟨k0, k1, k2, k3, k4, k5⟩ := KEEP.out _ r1; clear hb1 r1)
          | (go_at_call 40; (with_reducible refine (HTI.out _).mono ?_); rintro x w1 ⟨rfl, rfl⟩)
          | (go_at_call 41; (with_reducible refine (HAL2.out _ _ (HW1.out.alloc (by omega) _) (heap_alloc_new w1 _)).mono ?_); rintro x w2 ⟨rfl, hb2⟩; have r2 := (R1.out.alloc hz1 (.cells #[.string (S f.id), .string (S f.title), .string (S f.link)] 9)).trans (hb2.mono (by simp; omega)); have hz2 : w.heap.size + 1 ≤ w2.heap.size := (by have := r2.size; simpa using this); have HW2 := Lib.hid (HA0.out.trans (r2.mono (by omega))); have R2 := Lib.hid r2; clear k0 k1 k2 k3 k4 k5; obtain ⟨k0, k1, k2, k3, k4, k5⟩ := KEEP.out _ r2; clear hb2 r2)
          | (go_at_call 58; (with_reducible refine (HOR.out _ HW2.out).mono ?_); rintro x w3 ⟨rfl, hb3⟩; have R3 := Lib.hid (R2.out.trans (hb3.mono hz2)); clear hb3)
          | (go_at_call 35; refine (HCK.out _ _).mono ?_; rintro x wq ⟨rfl, rfl⟩))
        go_ret
        exact ⟨rfl, HA0.out.trans (R1.out.mono (Nat.le_succ _))⟩
      | true =>
        rw [Bool.true_and]
        cases hi : f.id.isEmpty with
        | true =>
          have t2 : (f.id == []) = true := by cases h : f.id with | nil => rfl | cons _ _ => rw [h] at hi; cases hi
          have t3 : (f.id != []) = false := by rw [bne, t2]; rfl
          rw [Bool.not_true, Bool.false_and, Bool.false_and, Bool.false_and]
          go_enter Tryz.func37, Tryz.ntmps37
          go_wp2_with (first
            | (go_at_call 56; (with_reducible refine (HCO.out _ HA0.out).mono ?_); rintro x wq ⟨rfl, rfl⟩)
            | (go_at_call 41; (with_reducible refine (HAL.out _ HA0.out).mono ?_); rintro x w1 ⟨rfl, hb1⟩; have r1 := R0.out.trans (hb1.mono (by simp)); have hz1 : w.heap.size + 1 ≤ w1.heap.size := (by have := r1.size; simpa using this); have HW1 := Lib.hid (HA0.out.trans (r1.mono (by omega))); have R1 := Lib.hid r1; obtain ⟨k0, k1, k2, k3, k4, k5⟩ := KEEP.out _ r1; clear hb1 r1)
            | (go_at_call 40; (with_reducible refine (HTI.out _).mono ?_); rintro x w1 ⟨rfl, rfl⟩)
            | (go_at_call 41; (with_reducible refine (HAL2.out _ _ (HW1.out.alloc (by omega) _) (heap_alloc_new w1 _)).mono ?_); rintro x w2 ⟨rfl, hb2⟩; have r2 := (R1.out.alloc hz1 (.cells #[.string (S f.id), .string (S f.title), .string (S f.link)] 9)).trans (hb2.mono (by simp; omega)); have hz2 : w.heap.size + 1 ≤ w2.heap.size := (by have := r2.size; simpa using this); have HW2 := Lib.hid (HA0.out.trans (r2.mono (by omega))); have R2 := Lib.hid r2; clear k0 k1 k2 k3 k4 k5; obtain ⟨k0, k1, k2, k3, k4, k5⟩ := KEEP.out _ r2; clear hb2 r2)
            | (go_at_call 58; (with_reducible refine (HOR.out _ HW2.out).mono ?_); rintro x w3 ⟨rfl, hb3⟩; have R3 := Lib.hid (R2.out.trans (hb3.mono hz2)); clear hb3)
            | (go_at_call 35; refine (HCK.out _ _).mono ?_; rintro x wq ⟨rfl, rfl⟩))
          go_ret
          exact ⟨rfl, HA0.out.trans (R1.out.mono (Nat.le_succ _))⟩
        | false =>
          have t2 : (f.id == []) = false := by cases h : f.id with | nil => rw [h] at hi; cases hi | cons _ _ => rfl
          have t3 : (f.id != []) = true := by rw [bne, t2]; rfl
          rw [Bool.not_false, Bool.true_and]
          cases qt with
          | false =>
            rw [Bool.false_and, Bool.false_and]
            go_enter Tryz.func37, Tryz.ntmps37
            go_wp2_with (first
              | (go_at_call 56; (with_reducible refine (HCO.out _ HA0.out).mono ?_); rintro x wq ⟨rfl, rfl⟩)
              | (go_at_call 41; (with_reducible refine (HAL.out _ HA0.out).mono ?_); rintro x w1 ⟨rfl, hb1⟩; have r1 := R0.out.trans (hb1.mono (by simp)); have hz1 : w.heap.size + 1 ≤ w1.heap.size := (by have := r1.size; simpa using this); have HW1 := Lib.hid (HA0.out.trans (r1.mono (by omega))); have R1 := Lib.hid r1; obtain ⟨k0, k1, k2, k3, k4, k5⟩ := KEEP.out _ r1; clear hb1 r1)
              | (go_at_call 40; (with_reducible refine (HTI.out _).mono ?_); rintro x w1 ⟨rfl, rfl⟩)
              | (go_at_call 41; (with_reducible refine (HAL2.out _ _ (HW1.out.alloc (by omega) _) (heap_alloc_new w1 _)).mono ?_); rintro x w2 ⟨rfl, hb2⟩; have r2 := (R1.out.alloc hz1 (.cells #[.string (S f.id), .string (S f.title), .string (S f.link)] 9)).trans (hb2.mono (by simp; omega)); have hz2 : w.heap.size + 1 ≤ w2.heap.size := (by have := r2.size; simpa using this); have HW2 := Lib.hid (HA0.out.trans (r2.mono (by omega))); have R2 := Lib.hid r2; clear k0 k1 k2 k3 k4 k5; obtain ⟨k0, k1, k2, k3, k4, k5⟩ := KEEP.out _ r2; clear hb2 r2)
              | (go_at_call 58; (with_reducible refine (HOR.out _ HW2.out).mono ?_); rintro x w3 ⟨rfl, hb3⟩; have R3 := Lib.hid (R2.out.trans (hb3.mono hz2)); clear hb3)
              | (go_at_call 35; refine (HCK.out _ _).mono ?_; rintro x wq ⟨rfl, rfl⟩))
            go_ret
            exact ⟨rfl, HA0.out.trans (R1.out.mono (Nat.le_succ _))⟩
          | true =>
            rw [Bool.true_and]
            cases qs with
            | false =>
              rw [Bool.false_and]
              go_enter Tryz.func37, Tryz.ntmps37
              go_wp2_with (first
                | (go_at_call 56; (with_reducible refine (HCO.out _ HA0.out).mono ?_); rintro x wq ⟨rfl, rfl⟩)
                | (go_at_call 41; (with_reducible refine (HAL.out _ HA0.out).mono ?_); rintro x w1 ⟨rfl, hb1⟩; have r1 := R0.out.trans (hb1.mono (by simp)); have hz1 : w.heap.size + 1 ≤ w1.heap.size := (by have := r1.size; simpa using this); have HW1 := Lib.hid (HA0.out.trans (r1.mono (by omega))); have R1 := Lib.hid r1; obtain ⟨k0, k1, k2, k3, k4, k5⟩ := KEEP.out _ r1; clear hb1 r1)
                | (go_at_call 40; (with_reducible refine (HTI.out _).mono ?_); rintro x w1 ⟨rfl, rfl⟩)
                | (go_at_call 41; (with_reducible refine (HAL2.out _ _ (HW1.out.alloc (by omega) _) (heap_alloc_new w1 _)).mono ?_); rintro x w2 ⟨rfl, hb2⟩; have r2 := (R1.out.alloc hz1 (.cells #[.string (S f.id), .string (S f.title), .string (S f.link)] 9)).trans (hb2.mono (by simp; omega)); have hz2 : w.heap.size + 1 ≤ w2.heap.size := (by have := r2.size; simpa using this); have HW2 := Lib.hid (HA0.out.trans (r2.mono (by omega))); have R2 := Lib.hid r2; clear k0 k1 k2 k3 k4 k5; obtain ⟨k0, k1, k2, k3, k4, k5⟩ := KEEP.out _ r2; clear hb2 r2)
                | (go_at_call 58; (with_reducible refine (HOR.out _ HW2.out).mono ?_); rintro x w3 ⟨rfl, hb3⟩; have R3 := Lib.hid (R2.out.trans (hb3.mono hz2)); clear hb3)
                | (go_at_call 35; refine (HCK.out _ _).mono ?_; rintro x wq ⟨rfl, rfl⟩))
              go_ret
              exact ⟨rfl, HA0.out.trans (R2.out.mono (Nat.le_succ _))⟩
            | true =>
              rw [Bool.true_and]
              go_enter Tryz.func37, Tryz.ntmps37
              go_wp2_with (first
                | (go_at_call 56; (with_reducible refine (HCO.out _ HA0.out).mono ?_); rintro x wq ⟨rfl, rfl⟩)
                | (go_at_call 41; (with_reducible refine (HAL.out _ HA0.out).mono ?_); rintro x w1 ⟨rfl, hb1⟩; have r1 := R0.out.trans (hb1.mono (by simp)); have hz1 : w.heap.size + 1 ≤ w1.heap.size := (by have := r1.size; simpa using this); have HW1 := Lib.hid (HA0.out.trans (r1.mono (by omega))); have R1 := Lib.hid r1; obtain ⟨k0, k1, k2, k3, k4, k5⟩ := KEEP.out _ r1; clear hb1 r1)
                | (go_at_call 40; (with_reducible refine (HTI.out _).mono ?_); rintro x w1 ⟨rfl, rfl⟩)
                | (go_at_call 41; (with_reducible refine (HAL2.out _ _ (HW1.out.alloc (by omega) _) (heap_alloc_new w1 _)).mono ?_); rintro x w2 ⟨rfl, hb2⟩; have r2 := (R1.out.alloc hz1 (.cells #[.string (S f.id), .string (S f.title), .string (S f.link)] 9)).trans (hb2.mono (by simp; omega)); have hz2 : w.heap.size + 1 ≤ w2.heap.size := (by have := r2.size; simpa using this); have HW2 := Lib.hid (HA0.out.trans (r2.mono (by omega))); have R2 := Lib.hid r2; clear k0 k1 k2 k3 k4 k5; obtain ⟨k0, k1, k2, k3, k4, k5⟩ := KEEP.out _ r2; clear hb2 r2)
                | (go_at_call 58; (with_reducible refine (HOR.out _ HW2.out).mono ?_); rintro x w3 ⟨rfl, hb3⟩; have R3 := Lib.hid (R2.out.trans (hb3.mono hz2)); clear hb3)
                | (go_at_call 35; refine (HCK.out _ _).mono ?_; rintro x wq ⟨rfl, rfl⟩))
              go_ret
              exact ⟨rfl, HA0.out.trans (R3.out.mono (Nat.le_succ _))⟩
  · have q64 : ¬ (f.path.length : Int) ≤ 64 := by omega
    rw [decide_eq_false h64, Bool.false_and, Bool.false_and, Bool.false_and, Bool.false_and, Bool.false_and, Bool.false_and]
    clear h64
    go_enter Tryz.func37, Tryz.ntmps37
    go_wp2_with (first
      | (go_at_call 56; (with_reducible refine (HCO.out _ HA0.out).mono ?_); rintro x wq ⟨rfl, rfl⟩)
      | (go_at_call 41; (with_reducible refine (HAL.out _ HA0.out).mono ?_); rintro x w1 ⟨rfl, hb1⟩; have r1 := R0.out.trans (hb1.mono (by simp)); have hz1 : w.heap.size + 1 ≤ w1.heap.size := (by have := r1.size; simpa using this); have HW1 := Lib.hid (HA0.out.trans (r1.mono (by omega))); have R1 := Lib.hid r1; obtain ⟨k0, k1, k2, k3, k4, k5⟩ := KEEP.out _ r1; clear hb1 r1)
      | (go_at_call 40; (with_reducible refine (HTI.out _).mono ?_); rintro x w1 ⟨rfl, rfl⟩)
      | (go_at_call 41; (with_reducible refine (HAL2.out _ _ (HW1.out.alloc (by omega) _) (heap_alloc_new w1 _)).mono ?_); rintro x w2 ⟨rfl, hb2⟩; have r2 := (R1.out.alloc hz1 (.cells #[.string (S f.id), .string (S f.title), .string (S f.link)] 9)).trans (hb2.mono (by simp; omega)); have hz2 : w.heap.size + 1 ≤ w2.heap.size := (by have := r2.size; simpa using this); have HW2 := Lib.hid (HA0.out.trans (r2.mono (by omega))); have R2 := Lib.hid r2; clear k0 k1 k2 k3 k4 k5; obtain ⟨k0, k1, k2, k3, k4, k5⟩ := KEEP.out _ r2; clear hb2 r2)
      | (go_at_call 58; (with_reducible refine (HOR.out _ HW2.out).mono ?_); rintro x w3 ⟨rfl, hb3⟩; have R3 := Lib.hid (R2.out.trans (hb3.mono hz2)); clear hb3)
      | (go_at_call 35; refine (HCK.out _ _).mono ?_; rintro x wq ⟨rfl, rfl⟩))
    go_ret
    exact ⟨rfl, HA0.out.trans (R0.out.mono (Nat.le_succ _))⟩
end Go.Proofs.YtadkgjbidhfefaaGreatDoor
set_option linter.unusedVariables false
set_option linter.unusedSimpArgs false
namespace Go.Proofs.YtadkgjbidhfefaaGreatDoor
open Go.RowKit

theorem drop_ids {α : Type} {f : α → Bytes} {l : List α} {i j : Nat} (h : j < i) (hi : i ≤ l.length) : ((l.take i).map f).drop j = f (l[j]'(by omega)) :: ((l.take i).map f).drop (j + 1) := by
  rw [List.drop_eq_getElem_cons (by simp; omega)]
  simp
def okP (s : Bytes) : Bool := !s.isEmpty && vldT s
theorem okP_all : ∀ l : List Bytes, l.all okP = (!(l.contains []) && l.all vldT)
  | [] => rfl
  | s :: l => by
    rw [List.all_cons, List.all_cons, okP_all l, List.contains_cons]
    unfold okP
    cases s with
    | nil => rfl
    | cons c s =>
      have : (([] : Bytes) == c :: s) = false := rfl
      rw [this]
      cases vldT (c :: s) <;> simp
set_option maxHeartbeats 16000000 in
set_option maxRecDepth 100000 in
theorem refCheckFeed_any (f : Fe) (u : Value) (w : World) (hs : FSz f) (hu : FeeV w (· < w.heap.size) f u) :
    Calls Tryz.prog 9 #[u] w fun x w' => x = .returned (.int .i64 (er13 (vldF f))) ∧ Below w.heap.size w w' := by
  obtain ⟨PA, pc, EA, ec, rfl, hp, he, hpc, hec⟩ := hu.open_
  have hA0 : Below w.heap.size w (w.alloc (feeBox f PA pc EA ec)) := (Below.refl _ _).alloc (Nat.le_refl _) _
  have h0 := fun W => refValidT_any f.id W (by have := hs.head; omega)
  have h1 := fun W => refValidT_any f.title W (by have := hs.head; omega)
  have h2 := fun W => refValidT_any f.link W (by have := hs.head; omega)
  have hti := fun W => refInTime_any f.upd W
  have hkp : ∀ W, Below (w.heap.size + 1) (w.alloc (feeBox f PA pc EA ec)) W → W.cell? ⟨w.heap.size, 0, none⟩ = some (.slice PA f.path.length pc) ∧ W.cell? ⟨w.heap.size, 1, none⟩ = some (.string (S f.id)) ∧ W.cell? ⟨w.heap.size, 2, none⟩ = some (.string (S f.title)) ∧ W.cell? ⟨w.heap.size, 3, none⟩ = some (.string (S f.link)) ∧ W.cell? ⟨w.heap.size, 4, none⟩ = some (.int .i64 f.upd) ∧ W.cell? ⟨w.heap.size, 5, none⟩ = some (.slice EA f.ents.length ec) := fun W hW =>
    cells6 ((hW.block w.heap.size (by omega)).trans (heap_alloc_new w (feeBox f PA pc EA ec)))
  have KEEP := Lib.hid hkp
  have HA0 := Lib.hid hA0
  have R0 := Lib.hid (show Below (w.heap.size + 1) (w.alloc (feeBox f PA pc EA ec)) (w.alloc (feeBox f PA pc EA ec)) from Below.refl _ _)
  have hv : vldF f = (decide (f.path.length ≤ 64) && (vldT f.id && (vldT f.title && (vldT f.link && (!f.id.isEmpty && (inT f.upd && (f.path.all okP && ordEs f.ents))))))) := by
    unfold vldF strsF
    rw [okP_all]
    simp only [List.all_cons, List.all_nil, Bool.and_true]
    cases decide (f.path.length ≤ 64) <;> cases f.id.isEmpty <;> cases inT f.upd <;> cases vldT f.id <;> cases vldT f.title <;> cases vldT f.link <;> cases f.path.contains [] <;> cases f.path.all vldT <;> rfl
  rw [hv]
  obtain ⟨QP, hqp⟩ : ∃ QP, f.path.all okP = QP := ⟨_, rfl⟩
  rw [hqp]
  obtain ⟨R, hR⟩ : ∃ R, ordEs f.ents = R := ⟨_, rfl⟩
  rw [hR]
  have HR0 := Lib.hid (show ordG vldE cmpE En.id ((f.ents).take 0) ((f.ents).drop 0) = R from hR)
  clear hR
  have HQP := Lib.hid (show (f.path.drop 0).all okP = QP from hqp)
  have HP := Lib.hid hp
  have HL := Lib.hid he
  have HS := Lib.hid hs
  have HTI := Lib.hid hti
  have hpl : f.path.length ≤ 1000000 := by have := hs.path; omega
  have hel : f.ents.length ≤ 1000000 := hs.many
  clear hkp hv hti hA0 hqp hp he hs hu
  generalize vldT f.id = v0 at *
  generalize vldT f.title = v1 at *
  generalize vldT f.link = v2 at *
  generalize inT f.upd = q at *
  have H0 := Lib.hid h0
  have H1 := Lib.hid h1
  have H2 := Lib.hid h2
  clear h0 h1 h2
  by_cases h64 : f.path.length ≤ 64
  · have q64 : ¬ (64 : Int) < f.path.length := by omega
    rw [decide_eq_true h64, Bool.true_and]
    clear h64
    cases v0 with
    | false =>
      rw [Bool.false_and]
      go_enter Tryz.func9, Tryz.ntmps9
      go_wp2_with (first
        | (go_at_call 23; (with_reducible refine (H0.out _).mono ?_); rintro x w1 ⟨rfl, hb1⟩; have r1 := R0.out.trans (hb1.mono (by simp)); have hz1 : w.heap.size + 1 ≤ w1.heap.size := (by have := r1.size; simpa using this); obtain ⟨k0, k1, k2, k3, k4, k5⟩ := KEEP.out _ r1; clear hb1)
        | (go_at_call 23; (with_reducible refine (H1.out _).mono ?_); rintro x w2 ⟨rfl, hb2⟩; have r2 := r1.trans (hb2.mono hz1); have hz2 : w.heap.size + 1 ≤ w2.heap.size := (by have := r2.size; simpa using this); clear k0 k1 k2 k3 k4 k5; obtain ⟨k0, k1, k2, k3, k4, k5⟩ := KEEP.out _ r2; clear hb2)
        | (go_at_call 23; (with_reducible refine (H2.out _).mono ?_); rintro x w3 ⟨rfl, hb3⟩; have r3 := r2.trans (hb3.mono hz2); have hz3 : w.heap.size + 1 ≤ w3.heap.size := (by have := r3.size; simpa using this); clear k0 k1 k2 k3 k4 k5; obtain ⟨k0, k1, k2, k3, k4, k5⟩ := KEEP.out _ r3; clear hb3)
        | (go_at_call 24; refine (HTI.out _).mono ?_; rintro x w3 ⟨rfl, rfl⟩))
      go_ret
      exact ⟨rfl, HA0.out.trans (r1.mono (Nat.le_succ _))⟩
    | true =>
      rw [Bool.true_and]
      cases v1 with
      | false =>
        rw [Bool.false_and]
        go_enter Tryz.func9, Tryz.ntmps9
        go_wp2_with (first
          | (go_at_call 23; (with_reducible refine (H0.out _).mono ?_); rintro x w1 ⟨rfl, hb1⟩; have r1 := R0.out.trans (hb1.mono (by simp)); have hz1 : w.heap.size + 1 ≤ w1.heap.size := (by have := r1.size; simpa using this); obtain ⟨k0, k1, k2, k3, k4, k5⟩ := KEEP.out _ r1; clear hb1)
          | (go_at_call 23; (with_reducible refine (H1.out _).mono ?_); rintro x w2 ⟨rfl, hb2⟩; have r2 := r1.trans (hb2.mono hz1); have hz2 : w.heap.size + 1 ≤ w2.heap.size := (by have := r2.size; simpa using this); clear k0 k1 k2 k3 k4 k5; obtain ⟨k0, k1, k2, k3, k4, k5⟩ := KEEP.out _ r2; clear hb2)
          | (go_at_call 23; (with_reducible refine (H2.out _).mono ?_); rintro x w3 ⟨rfl, hb3⟩; have r3 := r2.trans (hb3.mono hz2); have hz3 : w.heap.size + 1 ≤ w3.heap.size := (by have := r3.size; simpa using this); clear k0 k1 k2 k3 k4 k5; obtain ⟨k0, k1, k2, k3, k4, k5⟩ := KEEP.out _ r3; clear hb3)
          | (go_at_call 24; refine (HTI.out _).mono ?_; rintro x w3 ⟨rfl, rfl⟩))
        go_ret
        exact ⟨rfl, HA0.out.trans (r2.mono (Nat.le_succ _))⟩
      | true =>
        rw [Bool.true_and]
        cases v2 with
        | false =>
          rw [Bool.false_and]
          go_enter Tryz.func9, Tryz.ntmps9
          go_wp2_with (first
            | (go_at_call 23; (with_reducible refine (H0.out _).mono ?_); rintro x w1 ⟨rfl, hb1⟩; have r1 := R0.out.trans (hb1.mono (by simp)); have hz1 : w.heap.size + 1 ≤ w1.heap.size := (by have := r1.size; simpa using this); obtain ⟨k0, k1, k2, k3, k4, k5⟩ := KEEP.out _ r1; clear hb1)
            | (go_at_call 23; (with_reducible refine (H1.out _).mono ?_); rintro x w2 ⟨rfl, hb2⟩; have r2 := r1.trans (hb2.mono hz1); have hz2 : w.heap.size + 1 ≤ w2.heap.size := (by have := r2.size; simpa using this); clear k0 k1 k2 k3 k4 k5; obtain ⟨k0, k1, k2, k3, k4, k5⟩ := KEEP.out _ r2; clear hb2)
            | (go_at_call 23; (with_reducible refine (H2.out _).mono ?_); rintro x w3 ⟨rfl, hb3⟩; have r3 := r2.trans (hb3.mono hz2); have hz3 : w.heap.size + 1 ≤ w3.heap.size := (by have := r3.size; simpa using this); clear k0 k1 k2 k3 k4 k5; obtain ⟨k0, k1, k2, k3, k4, k5⟩ := KEEP.out _ r3; clear hb3)
            | (go_at_call 24; refine (HTI.out _).mono ?_; rintro x w3 ⟨rfl, rfl⟩))
          go_ret
          exact ⟨rfl, HA0.out.trans (r3.mono (Nat.le_succ _))⟩
        | true =>
          rw [Bool.true_and]
          cases hi : f.id.isEmpty with
          | true =>
            have t2 : (f.id == []) = true := by cases h : f.id with | nil => rfl | cons _ _ => rw [h] at hi; cases hi
            rw [Bool.not_true, Bool.false_and]
            go_enter Tryz.func9, Tryz.ntmps9
            go_wp2_with (first
              | (go_at_call 23; (with_reducible refine (H0.out _).mono ?_); rintro x w1 ⟨rfl, hb1⟩; have r1 := R0.out.trans (hb1.mono (by simp)); have hz1 : w.heap.size + 1 ≤ w1.heap.size := (by have := r1.size; simpa using this); obtain ⟨k0, k1, k2, k3, k4, k5⟩ := KEEP.out _ r1; clear hb1)
              | (go_at_call 23; (with_reducible refine (H1.out _).mono ?_); rintro x w2 ⟨rfl, hb2⟩; have r2 := r1.trans (hb2.mono hz1); have hz2 : w.heap.size + 1 ≤ w2.heap.size := (by have := r2.size; simpa using this); clear k0 k1 k2 k3 k4 k5; obtain ⟨k0, k1, k2, k3, k4, k5⟩ := KEEP.out _ r2; clear hb2)
              | (go_at_call 23; (with_reducible refine (H2.out _).mono ?_); rintro x w3 ⟨rfl, hb3⟩; have r3 := r2.trans (hb3.mono hz2); have hz3 : w.heap.size + 1 ≤ w3.heap.size := (by have := r3.size; simpa using this); clear k0 k1 k2 k3 k4 k5; obtain ⟨k0, k1, k2, k3, k4, k5⟩ := KEEP.out _ r3; clear hb3)
              | (go_at_call 24; refine (HTI.out _).mono ?_; rintro x w3 ⟨rfl, rfl⟩))
            go_ret
            exact ⟨rfl, HA0.out.trans (r3.mono (Nat.le_succ _))⟩
          | false =>
            have t2 : (f.id == []) = false := by cases h : f.id with | nil => rw [h] at hi; cases hi | cons _ _ => rfl
            rw [Bool.not_false, Bool.true_and]
            cases q with
            | false =>
              rw [Bool.false_and]
              go_enter Tryz.func9, Tryz.ntmps9
              go_wp2_with (first
                | (go_at_call 23; (with_reducible refine (H0.out _).mono ?_); rintro x w1 ⟨rfl, hb1⟩; have r1 := R0.out.trans (hb1.mono (by simp)); have hz1 : w.heap.size + 1 ≤ w1.heap.size := (by have := r1.size; simpa using this); obtain ⟨k0, k1, k2, k3, k4, k5⟩ := KEEP.out _ r1; clear hb1)
                | (go_at_call 23; (with_reducible refine (H1.out _).mono ?_); rintro x w2 ⟨rfl, hb2⟩; have r2 := r1.trans (hb2.mono hz1); have hz2 : w.heap.size + 1 ≤ w2.heap.size := (by have := r2.size; simpa using this); clear k0 k1 k2 k3 k4 k5; obtain ⟨k0, k1, k2, k3, k4, k5⟩ := KEEP.out _ r2; clear hb2)
                | (go_at_call 23; (with_reducible refine (H2.out _).mono ?_); rintro x w3 ⟨rfl, hb3⟩; have r3 := r2.trans (hb3.mono hz2); have hz3 : w.heap.size + 1 ≤ w3.heap.size := (by have := r3.size; simpa using this); clear k0 k1 k2 k3 k4 k5; obtain ⟨k0, k1, k2, k3, k4, k5⟩ := KEEP.out _ r3; clear hb3)
                | (go_at_call 24; refine (HTI.out _).mono ?_; rintro x w3 ⟨rfl, rfl⟩))
              go_ret
              exact ⟨rfl, HA0.out.trans (r3.mono (Nat.le_succ _))⟩
            | true =>
              rw [Bool.true_and]
              go_enter Tryz.func9, Tryz.ntmps9
              go_wp2_with (first
                | (go_at_call 23; (with_reducible refine (H0.out _).mono ?_); rintro x w1 ⟨rfl, hb1⟩; have r1 := R0.out.trans (hb1.mono (by simp)); have hz1 : w.heap.size + 1 ≤ w1.heap.size := (by have := r1.size; simpa using this); obtain ⟨k0, k1, k2, k3, k4, k5⟩ := KEEP.out _ r1; clear hb1)
                | (go_at_call 23; (with_reducible refine (H1.out _).mono ?_); rintro x w2 ⟨rfl, hb2⟩; have r2 := r1.trans (hb2.mono hz1); have hz2 : w.heap.size + 1 ≤ w2.heap.size := (by have := r2.size; simpa using this); clear k0 k1 k2 k3 k4 k5; obtain ⟨k0, k1, k2, k3, k4, k5⟩ := KEEP.out _ r2; clear hb2)
                | (go_at_call 23; (with_reducible refine (H2.out _).mono ?_); rintro x w3 ⟨rfl, hb3⟩; have r3 := r2.trans (hb3.mono hz2); have hz3 : w.heap.size + 1 ≤ w3.heap.size := (by have := r3.size; simpa using this); clear k0 k1 k2 k3 k4 k5; obtain ⟨k0, k1, k2, k3, k4, k5⟩ := KEEP.out _ r3; clear hb3)
                | (go_at_call 24; refine (HTI.out _).mono ?_; rintro x w3 ⟨rfl, rfl⟩))
              have HW3 := Lib.hid (HA0.out.trans (r3.mono (Nat.le_succ _)))
              have HX3 := Lib.hid ((r3.block w.heap.size (by omega)).trans (heap_alloc_new w (feeBox f PA pc EA ec)))
              clear r1 r2 r3 k0 k1 k2 k3 k4 k5
              go_loopw [3] (fun i3 wr => ∃ i : Nat, i ≤ f.path.length ∧ i3 = .int .i64 i ∧ (f.path.drop i).all okP = QP ∧ Below w.heap.size w wr ∧ wr.heap[w.heap.size]? = some (feeBox f PA pc EA ec)) (fun i3 _ => f.path.length - (intOf i3).toNat)
              case atStart => exact ⟨0, Nat.zero_le _, rfl, HQP.out, HW3.out, HX3.out⟩
              case round =>
                obtain ⟨i, hi0, rfl, hres, hb, hX⟩ := hrel
                have HB := Lib.hid hb
                have HX := Lib.hid hX
                have hsz := hb.size
                have hwx := heap_lt hX
                obtain ⟨k0, k1, k2, k3, k4, k5⟩ := cells6 hX
                clear hb hX HW3 HX3
                by_cases hlt : i < f.path.length
                · have hlt' : (i : Int) < f.path.length := by omega
                  obtain ⟨b, off, rfl, hpb, hc1⟩ := strs_cell (HP.out.keep strE_ok HB.out.block (fun _ h => h)) hlt
                  have hxl := HS.out.each _ (List.getElem_mem hlt)
                  rw [List.drop_eq_getElem_cons hlt, List.all_cons] at hres
                  generalize f.path[i] = s at *
                  cases he : s.isEmpty with
                  | true =>
                    have hs0 : s = [] := by cases s with | nil => rfl | cons _ _ => cases he
                    subst hs0
                    have hq : QP = false := by rw [← hres]; rfl
                    have HRR := Lib.hid hq
                    clear hres hq he
                    go_wp2_with fail
                    go_ret
                    exact ⟨ret_int (by rw [HRR.out]; rfl), HB.out⟩
                  | false =>
                    have t4 : (s == []) = false := by cases h : s with | nil => rw [h] at he; cases he | cons _ _ => rfl
                    have hv := fun W => refValidT_any s W hxl
                    unfold okP at hres
                    rw [he, Bool.not_false, Bool.true_and] at hres
                    cases hu : vldT s with
                    | false =>
                      rw [hu] at hv hres
                      have hq : QP = false := by rw [← hres]; rfl
                      have HRR := Lib.hid hq
                      have HV := Lib.hid hv
                      clear hres hq hv hu
                      go_wp2_with (go_at_call 23; refine (HV.out _).mono ?_; rintro x w5 ⟨rfl, hb5⟩)
                      go_ret
                      exact ⟨ret_int (by rw [HRR.out]; rfl), HB.out.trans (hb5.mono hsz)⟩
                    | true =>
                      rw [hu] at hv hres
                      rw [Bool.true_and] at hres
                      have HRES := Lib.hid hres
                      have HV := Lib.hid hv
                      clear hres hv hu
                      go_wp2_with (go_at_call 23; refine (HV.out _).mono ?_; rintro x w5 ⟨rfl, hb5⟩)
                      go_roundw
                      case rel => exact ⟨i + 1, by omega, by go_num, HRES.out, HB.out.trans (hb5.mono hsz), (hb5.block _ hwx).trans HX.out⟩
                      case measure => simp [intOf]; omega
                · obtain rfl : i = f.path.length := by omega
                  rw [List.drop_length] at hres
                  have hq : QP = true := by rw [← hres]; rfl
                  have hlt' : ¬ ((f.path.length : Int) < f.path.length) := by omega
                  have HQT := Lib.hid hq
                  have HW0 := Lib.hid HB.out
                  have HX0 := Lib.hid HX.out
                  clear hres hq hlt HQP
                  clear HB HX
                  go_wp2_with fail
                  clear k0 k1 k2 k3 k4 k5
                  obtain ⟨wo, rfl⟩ : ∃ wo : World, wo = wr := ⟨_, rfl⟩
                  go_loopw [4] (fun i4 wr => ∃ i : Nat, i ≤ f.ents.length ∧ i4 = .int .i64 i ∧ ordG vldE cmpE En.id ((f.ents).take i) ((f.ents).drop i) = R ∧ Below w.heap.size w wr ∧ wr.heap[w.heap.size]? = some (feeBox f PA pc EA ec)) (fun i4 _ => f.ents.length - (intOf i4).toNat)
                  case atStart => exact ⟨0, Nat.zero_le _, rfl, HR0.out, HW0.out, HX0.out⟩
                  case round =>
                    obtain ⟨i, hi, rfl, hres, hb, hX⟩ := hrel
                    have HX := Lib.hid hX
                    have hwx := heap_lt hX
                    have hhd := (cells6 hX).2.2.2.2.2
                    have HB := Lib.hid hb
                    have hsz := hb.size
                    clear hb HR0 HW0 HX0 hX
                    by_cases hlt : i < f.ents.length
                    · have hlt' : (i : Int) < f.ents.length := by omega
                      obtain ⟨b, off, rfl, hpb, hr⟩ := ents_at (HL.out.keep entE_ok HB.out.block (fun _ h => h)) hlt
                      have hxs := HS.out.ents _ (List.getElem_mem hlt)
                      have hbl : b < wr.heap.size := Nat.lt_of_lt_of_le hpb hsz
                      have hdr : ∀ W, Below wr.heap.size wr W → W.cell? ⟨w.heap.size, 5, none⟩ = some (.slice (some ⟨b, off, none⟩) f.ents.length ec) := fun W hW => (hW.cell (p := ⟨w.heap.size, 5, none⟩) hwx).trans hhd
                      have HDR := Lib.hid hdr
                      have hst0 : i = 0 → (vldE f.ents[i] && ordG vldE cmpE En.id ((f.ents).take (i + 1)) ((f.ents).drop (i + 1))) = R := fun h => by subst h; rw [← hres, ordG_zero hlt]
                      have hst1 : ∀ h : 0 < i, (vldE f.ents[i] && decide (cmpE (f.ents[i - 1]'(by omega)) f.ents[i] < 0) && !((((f.ents).take i).map En.id).contains f.ents[i].id) && ordG vldE cmpE En.id ((f.ents).take (i + 1)) ((f.ents).drop (i + 1))) = R := fun h => by rw [← hres, ordG_step hlt h]
                      have hpr : ∀ h : 0 < i, wr.rangeAt b (off + (i - 1) * 5) (entCells (f.ents[i - 1]'(by omega))) ∧ True := fun h => by
                        obtain ⟨b', off', hA, _, hr'⟩ := ents_at (HL.out.keep entE_ok HB.out.block (fun _ h => h)) (show i - 1 < f.ents.length by omega)
                        cases hA
                        exact ⟨hr', trivial⟩
                      have hcj : ∀ (j : Nat) (hj : j < f.ents.length) W, Below wr.heap.size wr W → W.cell? ⟨w.heap.size, 5, none⟩ = some (.slice (some ⟨b, off, none⟩) f.ents.length ec) ∧ W.cell? ⟨b, off + j * 5, none⟩ = some (.string (S (f.ents[j]'hj).id)) ∧ W.cell? ⟨b, off + i * 5, none⟩ = some (.string (S (f.ents[i]'hlt).id)) := fun j hj W hW => by
                        obtain ⟨b', off', hA, _, hr'⟩ := ents_at (HL.out.keep entE_ok HB.out.block (fun _ h => h)) hj
                        cases hA
                        exact ⟨HDR.out W hW, (hW.cell (p := ⟨b, off + j * 5, none⟩) hbl).trans (hr' 0 _ rfl), (hW.cell (p := ⟨b, off + i * 5, none⟩) hbl).trans (hr 0 _ rfl)⟩
                      obtain ⟨q, hq⟩ : ∃ q, (((f.ents).take i).map En.id).contains f.ents[i].id = q := ⟨_, rfl⟩
                      have hq0 : i = 0 → q = false := fun h => by subst h; rw [← hq]; rfl
                      rw [hq] at hst1
                      have HCJ := Lib.hid hcj
                      clear hres hcj hdr
                      have hxc : f.ents[i] = f.ents[i] := rfl
                      generalize f.ents[i] = X at *
                      have HQ := Lib.hid (show ((((f.ents).take i).map En.id).drop 0).contains X.id = q from hq)
                      generalize hN : ordG vldE cmpE En.id ((f.ents).take (i + 1)) ((f.ents).drop (i + 1)) = N at *
                      have HN := Lib.hid hN
                      have hck := fun W => fun (hW : Below wr.heap.size wr W) => refCheckEntry_any X W hxs
                      have hxk : ∀ W, Below wr.heap.size wr W → W.cell? ⟨w.heap.size, 5, none⟩ = some (.slice (some ⟨b, off, none⟩) f.ents.length ec) ∧ W.cell? ⟨b, off + i * 5, none⟩ = some (.string (S X.id)) ∧ W.cell? ⟨b, off + i * 5 + 1, none⟩ = some (.string (S X.title)) ∧ W.cell? ⟨b, off + i * 5 + 2, none⟩ = some (.string (S X.link)) ∧ W.cell? ⟨b, off + i * 5 + 3, none⟩ = some (.string (S X.content)) ∧ W.cell? ⟨b, off + i * 5 + 4, none⟩ = some (.int .i64 X.upd) := fun W hW => by
                        have hr2 := rangeAt_keep hr (hW.block b hbl)
                        exact ⟨HDR.out W hW, hr2 0 _ rfl, hr2 1 _ rfl, hr2 2 _ rfl, hr2 3 _ rfl, hr2 4 _ rfl⟩
                      have KX := Lib.hid hxk
                      clear hN hr hq hxk hxc
                      cases hc : vldE X with
                      | false =>
                        rw [hc] at hck hst0 hst1
                        rw [show er13 false = 22 from rfl] at hck
                        have hr : R = false := by
                          by_cases h : i = 0
                          · rw [← hst0 h]; rfl
                          · rw [← hst1 (by omega)]; rfl
                        have HCK := Lib.hid hck
                        have HRR := Lib.hid hr
                        have KEEP := KX
                        clear hck hst0 hst1 hq0 hpr hr hc
                        go_wp2_with fail
                        refine wp_region_held_drew (S := fun x => x.cell? ⟨w.heap.size, 5, none⟩ = some (.slice (some ⟨b, off, none⟩) f.ents.length ec) ∧ x.cell? ⟨b, off + i * 5, none⟩ = some (.string (S X.id)) ∧ x.cell? ⟨b, off + i * 5 + 1, none⟩ = some (.string (S X.title)) ∧ x.cell? ⟨b, off + i * 5 + 2, none⟩ = some (.string (S X.link)) ∧ x.cell? ⟨b, off + i * 5 + 3, none⟩ = some (.string (S X.content)) ∧ x.cell? ⟨b, off + i * 5 + 4, none⟩ = some (.int .i64 X.upd)) (by kernel_rfl) ?_ (fun hHeld => ?_)
                        · (try dsimp only); exact KEEP.out _ (Below.refl _ _).drew
                        refine wpAnyH_take (i := 0) (oi := (⟨some 68, _, _, _, _, _⟩ : Oper)) (v := ?_) rfl (by kernel_rfl) (by kernel_rfl) (by kernel_rfl) (fun _ _ _ h => h) (Or.inl ⟨by rfl, ?_⟩) (by assumption) ?_
                        rotate_left
                        · intro wS hSw; (try dsimp only at hSw); go_simp <;> with_reducible rfl
                        simp only [Act.put, List.setIfInBounds_toArray, List.set_cons_zero, List.set_cons_succ]
                        refine wpAnyH_take (i := 1) (oi := (⟨some 69, _, _, _, _, _⟩ : Oper)) (v := ?_) rfl (by kernel_rfl) (by kernel_rfl) (by kernel_rfl) (fun _ _ _ h => h) (Or.inl ⟨by rfl, ?_⟩) (by assumption) ?_
                        rotate_left
                        · intro wS hSw; (try dsimp only at hSw); go_simp <;> with_reducible rfl
                        simp only [Act.put, List.setIfInBounds_toArray, List.set_cons_zero, List.set_cons_succ]
                        refine wpAnyH_take (i := 2) (oi := (⟨some 70, _, _, _, _, _⟩ : Oper)) (v := ?_) rfl (by kernel_rfl) (by kernel_rfl) (by kernel_rfl) (fun _ _ _ h => h) (Or.inl ⟨by rfl, ?_⟩) (by assumption) ?_
                        rotate_left
                        · intro wS hSw; (try dsimp only at hSw); go_simp <;> with_reducible rfl
                        simp only [Act.put, List.setIfInBounds_toArray, List.set_cons_zero, List.set_cons_succ]
                        refine wpAnyH_take (i := 3) (oi := (⟨some 71, _, _, _, _, _⟩ : Oper)) (v := ?_) rfl (by kernel_rfl) (by kernel_rfl) (by kernel_rfl) (fun _ _ _ h => h) (Or.inl ⟨by rfl, ?_⟩) (by assumption) ?_
                        rotate_left
                        · intro wS hSw; (try dsimp only at hSw); go_simp <;> with_reducible rfl
                        simp only [Act.put, List.setIfInBounds_toArray, List.set_cons_zero, List.set_cons_succ]
                        refine wpAnyH_take (i := 4) (oi := (⟨some 72, _, _, _, _, _⟩ : Oper)) (v := ?_) rfl (by kernel_rfl) (by kernel_rfl) (by kernel_rfl) (fun _ _ _ h => h) (Or.inl ⟨by rfl, ?_⟩) (by assumption) ?_
                        rotate_left
                        · intro wS hSw; (try dsimp only at hSw); go_simp <;> with_reducible rfl
                        simp only [Act.put, List.setIfInBounds_toArray, List.set_cons_zero, List.set_cons_succ]
                        refine wpAnyH_ready (rs := [5]) (by kernel_rfl) (by simp) ?_
                        refine AllReadyH.cons (o := (⟨some 73, _, _, _, _, _⟩ : Oper)) rfl (fun K hK => ?_) ?_
                        rotate_left
                        · exact AllReadyH.nil
                        go_simp
                        (go_at_call 25; (with_reducible refine (HCK.out _ (Below.refl _ _).drew).mono ?_); rintro x w1 ⟨rfl, hb1⟩; have r1 := (Below.refl wr.heap.size wr).drew.trans hb1; have hz1 : wr.heap.size ≤ w1.heap.size := r1.size; clear hb1)
                        refine hK.out _ _ ?_ (fun hHeld => ?_)
                        · (try dsimp only); exact KEEP.out _ r1
                        clear hK K
                        try simp only [Act.put, List.setIfInBounds_toArray, List.set_cons_zero, List.set_cons_succ]
                        refine wpAnyH_take (i := 6) (oi := (⟨some 74, _, _, _, _, _⟩ : Oper)) (v := ?_) rfl (by kernel_rfl) (by kernel_rfl) (by kernel_rfl) (fun _ _ _ h => h) (Or.inl ⟨by rfl, ?_⟩) (by assumption) ?_
                        rotate_left
                        · intro wS hSw; (try dsimp only at hSw); go_simp <;> with_reducible rfl
                        simp only [Act.put, List.setIfInBounds_toArray, List.set_cons_zero, List.set_cons_succ]
                        refine wpAnyH_take (i := 7) (oi := (⟨some 75, _, _, _, _, _⟩ : Oper)) (v := ?_) rfl (by kernel_rfl) (by kernel_rfl) (by kernel_rfl) (fun _ _ _ h => h) (Or.inl ⟨by rfl, ?_⟩) (by assumption) ?_
                        rotate_left
                        · intro wS hSw; (try dsimp only at hSw); go_simp <;> with_reducible rfl
                        simp only [Act.put, List.setIfInBounds_toArray, List.set_cons_zero, List.set_cons_succ]
                        refine wpAnyH_take (i := 8) (oi := (⟨some 76, _, _, _, _, _⟩ : Oper)) (v := undef) rfl (by kernel_rfl) (by kernel_rfl) (by kernel_rfl) (fun _ _ _ h => h) (Or.inr ⟨by rfl, rfl⟩) (by assumption) ?_
                        simp only [Act.put, List.setIfInBounds_toArray, List.set_cons_zero, List.set_cons_succ]
                        refine wpAnyH_take (i := 9) (oi := (⟨some 77, _, _, _, _, _⟩ : Oper)) (v := undef) rfl (by kernel_rfl) (by kernel_rfl) (by kernel_rfl) (fun _ _ _ h => h) (Or.inr ⟨by rfl, rfl⟩) (by assumption) ?_
                        simp only [Act.put, List.setIfInBounds_toArray, List.set_cons_zero, List.set_cons_succ]
                        refine wpAnyH_take (i := 10) (oi := (⟨some 78, _, _, _, _, _⟩ : Oper)) (v := undef) rfl (by kernel_rfl) (by kernel_rfl) (by kernel_rfl) (fun _ _ _ h => h) (Or.inr ⟨by rfl, rfl⟩) (by assumption) ?_
                        simp only [Act.put, List.setIfInBounds_toArray, List.set_cons_zero, List.set_cons_succ]
                        refine wpAnyH_take (i := 11) (oi := (⟨some 79, _, _, _, _, _⟩ : Oper)) (v := undef) rfl (by kernel_rfl) (by kernel_rfl) (by kernel_rfl) (fun _ _ _ h => h) (Or.inr ⟨by rfl, rfl⟩) (by assumption) ?_
                        simp only [Act.put, List.setIfInBounds_toArray, List.set_cons_zero, List.set_cons_succ]
                        refine wpAnyH_take (i := 12) (oi := (⟨some 80, _, _, _, _, _⟩ : Oper)) (v := undef) rfl (by kernel_rfl) (by kernel_rfl) (by kernel_rfl) (fun _ _ _ h => h) (Or.inr ⟨by rfl, rfl⟩) (by assumption) ?_
                        simp only [Act.put, List.setIfInBounds_toArray, List.set_cons_zero, List.set_cons_succ]
                        refine wpAnyH_take (i := 13) (oi := (⟨some 81, _, _, _, _, _⟩ : Oper)) (v := undef) rfl (by kernel_rfl) (by kernel_rfl) (by kernel_rfl) (fun _ _ _ h => h) (Or.inr ⟨by rfl, rfl⟩) (by assumption) ?_
                        simp only [Act.put, List.setIfInBounds_toArray, List.set_cons_zero, List.set_cons_succ]
                        refine wpAnyH_take (i := 14) (oi := (⟨some 82, _, _, _, _, _⟩ : Oper)) (v := undef) rfl (by kernel_rfl) (by kernel_rfl) (by kernel_rfl) (fun _ _ _ h => h) (Or.inr ⟨by rfl, rfl⟩) (by assumption) ?_
                        simp only [Act.put, List.setIfInBounds_toArray, List.set_cons_zero, List.set_cons_succ]
                        refine wpAnyH_take (i := 15) (oi := (⟨some 83, _, _, _, _, _⟩ : Oper)) (v := undef) rfl (by kernel_rfl) (by kernel_rfl) (by kernel_rfl) (fun _ _ _ h => h) (Or.inr ⟨by rfl, rfl⟩) (by assumption) ?_
                        simp only [Act.put, List.setIfInBounds_toArray, List.set_cons_zero, List.set_cons_succ]
                        refine wpAnyH_take (i := 16) (oi := (⟨some 84, _, _, _, _, _⟩ : Oper)) (v := undef) rfl (by kernel_rfl) (by kernel_rfl) (by kernel_rfl) (fun _ _ _ h => h) (Or.inr ⟨by rfl, rfl⟩) (by assumption) ?_
                        simp only [Act.put, List.setIfInBounds_toArray, List.set_cons_zero, List.set_cons_succ]
                        refine wpAnyH_take (i := 17) (oi := (⟨some 85, _, _, _, _, _⟩ : Oper)) (v := undef) rfl (by kernel_rfl) (by kernel_rfl) (by kernel_rfl) (fun _ _ _ h => h) (Or.inr ⟨by rfl, rfl⟩) (by assumption) ?_
                        simp only [Act.put, List.setIfInBounds_toArray, List.set_cons_zero, List.set_cons_succ]
                        refine wpAnyH_take (i := 18) (oi := (⟨some 86, _, _, _, _, _⟩ : Oper)) (v := undef) rfl (by kernel_rfl) (by kernel_rfl) (by kernel_rfl) (fun _ _ _ h => h) (Or.inr ⟨by rfl, rfl⟩) (by assumption) ?_
                        simp only [Act.put, List.setIfInBounds_toArray, List.set_cons_zero, List.set_cons_succ]
                        refine wpAnyH_take (i := 19) (oi := (⟨some 87, _, _, _, _, _⟩ : Oper)) (v := undef) rfl (by kernel_rfl) (by kernel_rfl) (by kernel_rfl) (fun _ _ _ h => h) (Or.inr ⟨by rfl, rfl⟩) (by assumption) ?_
                        simp only [Act.put, List.setIfInBounds_toArray, List.set_cons_zero, List.set_cons_succ]
                        refine wpAnyH_take (i := 20) (oi := (⟨some 88, _, _, _, _, _⟩ : Oper)) (v := undef) rfl (by kernel_rfl) (by kernel_rfl) (by kernel_rfl) (fun _ _ _ h => h) (Or.inr ⟨by rfl, rfl⟩) (by assumption) ?_
                        simp only [Act.put, List.setIfInBounds_toArray, List.set_cons_zero, List.set_cons_succ]
                        refine wpAnyH_take (i := 21) (oi := (⟨some 89, _, _, _, _, _⟩ : Oper)) (v := undef) rfl (by kernel_rfl) (by kernel_rfl) (by kernel_rfl) (fun _ _ _ h => h) (Or.inr ⟨by rfl, rfl⟩) (by assumption) ?_
                        simp only [Act.put, List.setIfInBounds_toArray, List.set_cons_zero, List.set_cons_succ]
                        refine wpAnyH_take (i := 22) (oi := (⟨some 90, _, _, _, _, _⟩ : Oper)) (v := undef) rfl (by kernel_rfl) (by kernel_rfl) (by kernel_rfl) (fun _ _ _ h => h) (Or.inr ⟨by rfl, rfl⟩) (by assumption) ?_
                        simp only [Act.put, List.setIfInBounds_toArray, List.set_cons_zero, List.set_cons_succ]
                        refine wpAnyH_take (i := 23) (oi := (⟨some 91, _, _, _, _, _⟩ : Oper)) (v := undef) rfl (by kernel_rfl) (by kernel_rfl) (by kernel_rfl) (fun _ _ _ h => h) (Or.inr ⟨by rfl, rfl⟩) (by assumption) ?_
                        simp only [Act.put, List.setIfInBounds_toArray, List.set_cons_zero, List.set_cons_succ]
                        refine wpAnyH_take (i := 24) (oi := (⟨some 92, _, _, _, _, _⟩ : Oper)) (v := undef) rfl (by kernel_rfl) (by kernel_rfl) (by kernel_rfl) (fun _ _ _ h => h) (Or.inr ⟨by rfl, rfl⟩) (by assumption) ?_
                        simp only [Act.put, List.setIfInBounds_toArray, List.set_cons_zero, List.set_cons_succ]
                        refine wpAnyH_take (i := 25) (oi := (⟨some 93, _, _, _, _, _⟩ : Oper)) (v := ?_) rfl (by kernel_rfl) (by kernel_rfl) (by kernel_rfl) (fun _ _ _ h => h) (Or.inl ⟨by rfl, ?_⟩) (by assumption) ?_
                        rotate_left
                        · intro wS hSw; (try dsimp only at hSw); go_simp <;> with_reducible rfl
                        simp only [Act.put, List.setIfInBounds_toArray, List.set_cons_zero, List.set_cons_succ]
                        refine wpAnyH_done (by kernel_rfl) ?_ _
                        have HRB := Lib.hid r1
                        clear r1
                        go_wp2_with fail
                        go_ret
                        exact ⟨ret_int (by rw [HRR.out, HQT.out]; rfl), HB.out.trans (HRB.out.mono hsz)⟩
                      | true =>
                        rw [hc] at hck hst0 hst1
                        rw [show er13 true = 0 from rfl] at hck
                        simp only [Bool.true_and] at hst0 hst1
                        have HCK := Lib.hid hck
                        clear hck hc
                        by_cases h0 : i = 0
                        · have q0 : decide ((0 : Int) < (i : Int)) = false := decide_eq_false (by omega)
                          have q0' : decide (0 < i) = false := decide_eq_false (by omega)
                          have HST := Lib.hid (show (!q && N) = R by rw [hq0 h0, ← hst0 h0]; rfl)
                          have KEEP := KX
                          clear hst0 hst1 hq0 hpr h0
                          go_wp2_with fail
                          refine wp_region_held_drew (S := fun x => x.cell? ⟨w.heap.size, 5, none⟩ = some (.slice (some ⟨b, off, none⟩) f.ents.length ec) ∧ x.cell? ⟨b, off + i * 5, none⟩ = some (.string (S X.id)) ∧ x.cell? ⟨b, off + i * 5 + 1, none⟩ = some (.string (S X.title)) ∧ x.cell? ⟨b, off + i * 5 + 2, none⟩ = some (.string (S X.link)) ∧ x.cell? ⟨b, off + i * 5 + 3, none⟩ = some (.string (S X.content)) ∧ x.cell? ⟨b, off + i * 5 + 4, none⟩ = some (.int .i64 X.upd)) (by kernel_rfl) ?_ (fun hHeld => ?_)
                          · (try dsimp only); exact KEEP.out _ (Below.refl _ _).drew
                          refine wpAnyH_take (i := 0) (oi := (⟨some 68, _, _, _, _, _⟩ : Oper)) (v := ?_) rfl (by kernel_rfl) (by kernel_rfl) (by kernel_rfl) (fun _ _ _ h => h) (Or.inl ⟨by rfl, ?_⟩) (by assumption) ?_
                          rotate_left
                          · intro wS hSw; (try dsimp only at hSw); go_simp <;> with_reducible rfl
                          simp only [Act.put, List.setIfInBounds_toArray, List.set_cons_zero, List.set_cons_succ]
                          refine wpAnyH_take (i := 1) (oi := (⟨some 69, _, _, _, _, _⟩ : Oper)) (v := ?_) rfl (by kernel_rfl) (by kernel_rfl) (by kernel_rfl) (fun _ _ _ h => h) (Or.inl ⟨by rfl, ?_⟩) (by assumption) ?_
                          rotate_left
                          · intro wS hSw; (try dsimp only at hSw); go_simp <;> with_reducible rfl
                          simp only [Act.put, List.setIfInBounds_toArray, List.set_cons_zero, List.set_cons_succ]
                          refine wpAnyH_take (i := 2) (oi := (⟨some 70, _, _, _, _, _⟩ : Oper)) (v := ?_) rfl (by kernel_rfl) (by kernel_rfl) (by kernel_rfl) (fun _ _ _ h => h) (Or.inl ⟨by rfl, ?_⟩) (by assumption) ?_
                          rotate_left
                          · intro wS hSw; (try dsimp only at hSw); go_simp <;> with_reducible rfl
                          simp only [Act.put, List.setIfInBounds_toArray, List.set_cons_zero, List.set_cons_succ]
                          refine wpAnyH_take (i := 3) (oi := (⟨some 71, _, _, _, _, _⟩ : Oper)) (v := ?_) rfl (by kernel_rfl) (by kernel_rfl) (by kernel_rfl) (fun _ _ _ h => h) (Or.inl ⟨by rfl, ?_⟩) (by assumption) ?_
                          rotate_left
                          · intro wS hSw; (try dsimp only at hSw); go_simp <;> with_reducible rfl
                          simp only [Act.put, List.setIfInBounds_toArray, List.set_cons_zero, List.set_cons_succ]
                          refine wpAnyH_take (i := 4) (oi := (⟨some 72, _, _, _, _, _⟩ : Oper)) (v := ?_) rfl (by kernel_rfl) (by kernel_rfl) (by kernel_rfl) (fun _ _ _ h => h) (Or.inl ⟨by rfl, ?_⟩) (by assumption) ?_
                          rotate_left
                          · intro wS hSw; (try dsimp only at hSw); go_simp <;> with_reducible rfl
                          simp only [Act.put, List.setIfInBounds_toArray, List.set_cons_zero, List.set_cons_succ]
                          refine wpAnyH_ready (rs := [5]) (by kernel_rfl) (by simp) ?_
                          refine AllReadyH.cons (o := (⟨some 73, _, _, _, _, _⟩ : Oper)) rfl (fun K hK => ?_) ?_
                          rotate_left
                          · exact AllReadyH.nil
                          go_simp
                          (go_at_call 25; (with_reducible refine (HCK.out _ (Below.refl _ _).drew).mono ?_); rintro x w1 ⟨rfl, hb1⟩; have r1 := (Below.refl wr.heap.size wr).drew.trans hb1; have hz1 : wr.heap.size ≤ w1.heap.size := r1.size; clear hb1)
                          refine hK.out _ _ ?_ (fun hHeld => ?_)
                          · (try dsimp only); exact KEEP.out _ r1
                          clear hK K
                          try simp only [Act.put, List.setIfInBounds_toArray, List.set_cons_zero, List.set_cons_succ]
                          refine wpAnyH_take (i := 6) (oi := (⟨some 74, _, _, _, _, _⟩ : Oper)) (v := ?_) rfl (by kernel_rfl) (by kernel_rfl) (by kernel_rfl) (fun _ _ _ h => h) (Or.inl ⟨by rfl, ?_⟩) (by assumption) ?_
                          rotate_left
                          · intro wS hSw; (try dsimp only at hSw); go_simp <;> with_reducible rfl
                          simp only [Act.put, List.setIfInBounds_toArray, List.set_cons_zero, List.set_cons_succ]
                          refine wpAnyH_take (i := 7) (oi := (⟨some 75, _, _, _, _, _⟩ : Oper)) (v := ?_) rfl (by kernel_rfl) (by kernel_rfl) (by kernel_rfl) (fun _ _ _ h => h) (Or.inl ⟨by rfl, ?_⟩) (by assumption) ?_
                          rotate_left
                          · intro wS hSw; (try dsimp only at hSw); go_simp <;> with_reducible rfl
                          simp only [Act.put, List.setIfInBounds_toArray, List.set_cons_zero, List.set_cons_succ]
                          refine wpAnyH_take (i := 8) (oi := (⟨some 76, _, _, _, _, _⟩ : Oper)) (v := ?_) rfl (by kernel_rfl) (by kernel_rfl) (by kernel_rfl) (fun _ _ _ h => h) (Or.inl ⟨by rfl, ?_⟩) (by assumption) ?_
                          rotate_left
                          · intro wS hSw; (try dsimp only at hSw); go_simp <;> with_reducible rfl
                          simp only [Act.put, List.setIfInBounds_toArray, List.set_cons_zero, List.set_cons_succ]
                          refine wpAnyH_take (i := 9) (oi := (⟨some 77, _, _, _, _, _⟩ : Oper)) (v := ?_) rfl (by kernel_rfl) (by kernel_rfl) (by kernel_rfl) (fun _ _ _ h => h) (Or.inl ⟨by rfl, ?_⟩) (by assumption) ?_
                          rotate_left
                          · intro wS hSw; (try dsimp only at hSw); go_simp <;> with_reducible rfl
                          simp only [Act.put, List.setIfInBounds_toArray, List.set_cons_zero, List.set_cons_succ]
                          refine wpAnyH_take (i := 10) (oi := (⟨some 78, _, _, _, _, _⟩ : Oper)) (v := ?_) rfl (by kernel_rfl) (by kernel_rfl) (by kernel_rfl) (fun _ _ _ h => h) (Or.inl ⟨by rfl, ?_⟩) (by assumption) ?_
                          rotate_left
                          · intro wS hSw; (try dsimp only at hSw); go_simp <;> with_reducible rfl
                          simp only [Act.put, List.setIfInBounds_toArray, List.set_cons_zero, List.set_cons_succ]
                          refine wpAnyH_take (i := 11) (oi := (⟨some 79, _, _, _, _, _⟩ : Oper)) (v := undef) rfl (by kernel_rfl) (by kernel_rfl) (by kernel_rfl) (fun _ _ _ h => h) (Or.inr ⟨by rfl, rfl⟩) (by assumption) ?_
                          simp only [Act.put, List.setIfInBounds_toArray, List.set_cons_zero, List.set_cons_succ]
                          refine wpAnyH_take (i := 12) (oi := (⟨some 80, _, _, _, _, _⟩ : Oper)) (v := undef) rfl (by kernel_rfl) (by kernel_rfl) (by kernel_rfl) (fun _ _ _ h => h) (Or.inr ⟨by rfl, rfl⟩) (by assumption) ?_
                          simp only [Act.put, List.setIfInBounds_toArray, List.set_cons_zero, List.set_cons_succ]
                          refine wpAnyH_take (i := 13) (oi := (⟨some 81, _, _, _, _, _⟩ : Oper)) (v := undef) rfl (by kernel_rfl) (by kernel_rfl) (by kernel_rfl) (fun _ _ _ h => h) (Or.inr ⟨by rfl, rfl⟩) (by assumption) ?_
                          simp only [Act.put, List.setIfInBounds_toArray, List.set_cons_zero, List.set_cons_succ]
                          refine wpAnyH_take (i := 14) (oi := (⟨some 82, _, _, _, _, _⟩ : Oper)) (v := undef) rfl (by kernel_rfl) (by kernel_rfl) (by kernel_rfl) (fun _ _ _ h => h) (Or.inr ⟨by rfl, rfl⟩) (by assumption) ?_
                          simp only [Act.put, List.setIfInBounds_toArray, List.set_cons_zero, List.set_cons_succ]
                          refine wpAnyH_take (i := 15) (oi := (⟨some 83, _, _, _, _, _⟩ : Oper)) (v := undef) rfl (by kernel_rfl) (by kernel_rfl) (by kernel_rfl) (fun _ _ _ h => h) (Or.inr ⟨by rfl, rfl⟩) (by assumption) ?_
                          simp only [Act.put, List.setIfInBounds_toArray, List.set_cons_zero, List.set_cons_succ]
                          refine wpAnyH_take (i := 16) (oi := (⟨some 84, _, _, _, _, _⟩ : Oper)) (v := undef) rfl (by kernel_rfl) (by kernel_rfl) (by kernel_rfl) (fun _ _ _ h => h) (Or.inr ⟨by rfl, rfl⟩) (by assumption) ?_
                          simp only [Act.put, List.setIfInBounds_toArray, List.set_cons_zero, List.set_cons_succ]
                          refine wpAnyH_take (i := 17) (oi := (⟨some 85, _, _, _, _, _⟩ : Oper)) (v := undef) rfl (by kernel_rfl) (by kernel_rfl) (by kernel_rfl) (fun _ _ _ h => h) (Or.inr ⟨by rfl, rfl⟩) (by assumption) ?_
                          simp only [Act.put, List.setIfInBounds_toArray, List.set_cons_zero, List.set_cons_succ]
                          refine wpAnyH_take (i := 18) (oi := (⟨some 86, _, _, _, _, _⟩ : Oper)) (v := undef) rfl (by kernel_rfl) (by kernel_rfl) (by kernel_rfl) (fun _ _ _ h => h) (Or.inr ⟨by rfl, rfl⟩) (by assumption) ?_
                          simp only [Act.put, List.setIfInBounds_toArray, List.set_cons_zero, List.set_cons_succ]
                          refine wpAnyH_take (i := 19) (oi := (⟨some 87, _, _, _, _, _⟩ : Oper)) (v := undef) rfl (by kernel_rfl) (by kernel_rfl) (by kernel_rfl) (fun _ _ _ h => h) (Or.inr ⟨by rfl, rfl⟩) (by assumption) ?_
                          simp only [Act.put, List.setIfInBounds_toArray, List.set_cons_zero, List.set_cons_succ]
                          refine wpAnyH_take (i := 20) (oi := (⟨some 88, _, _, _, _, _⟩ : Oper)) (v := undef) rfl (by kernel_rfl) (by kernel_rfl) (by kernel_rfl) (fun _ _ _ h => h) (Or.inr ⟨by rfl, rfl⟩) (by assumption) ?_
                          simp only [Act.put, List.setIfInBounds_toArray, List.set_cons_zero, List.set_cons_succ]
                          refine wpAnyH_take (i := 21) (oi := (⟨some 89, _, _, _, _, _⟩ : Oper)) (v := undef) rfl (by kernel_rfl) (by kernel_rfl) (by kernel_rfl) (fun _ _ _ h => h) (Or.inr ⟨by rfl, rfl⟩) (by assumption) ?_
                          simp only [Act.put, List.setIfInBounds_toArray, List.set_cons_zero, List.set_cons_succ]
                          refine wpAnyH_take (i := 22) (oi := (⟨some 90, _, _, _, _, _⟩ : Oper)) (v := undef) rfl (by kernel_rfl) (by kernel_rfl) (by kernel_rfl) (fun _ _ _ h => h) (Or.inr ⟨by rfl, rfl⟩) (by assumption) ?_
                          simp only [Act.put, List.setIfInBounds_toArray, List.set_cons_zero, List.set_cons_succ]
                          refine wpAnyH_take (i := 23) (oi := (⟨some 91, _, _, _, _, _⟩ : Oper)) (v := undef) rfl (by kernel_rfl) (by kernel_rfl) (by kernel_rfl) (fun _ _ _ h => h) (Or.inr ⟨by rfl, rfl⟩) (by assumption) ?_
                          simp only [Act.put, List.setIfInBounds_toArray, List.set_cons_zero, List.set_cons_succ]
                          refine wpAnyH_take (i := 24) (oi := (⟨some 92, _, _, _, _, _⟩ : Oper)) (v := ?_) rfl (by kernel_rfl) (by kernel_rfl) (by kernel_rfl) (fun _ _ _ h => h) (Or.inl ⟨by rfl, ?_⟩) (by assumption) ?_
                          rotate_left
                          · intro wS hSw; (try dsimp only at hSw); go_simp <;> with_reducible rfl
                          simp only [Act.put, List.setIfInBounds_toArray, List.set_cons_zero, List.set_cons_succ]
                          refine wpAnyH_take (i := 25) (oi := (⟨some 93, _, _, _, _, _⟩ : Oper)) (v := ?_) rfl (by kernel_rfl) (by kernel_rfl) (by kernel_rfl) (fun _ _ _ h => h) (Or.inl ⟨by rfl, ?_⟩) (by assumption) ?_
                          rotate_left
                          · intro wS hSw; (try dsimp only at hSw); go_simp <;> with_reducible rfl
                          simp only [Act.put, List.setIfInBounds_toArray, List.set_cons_zero, List.set_cons_succ]
                          refine wpAnyH_done (by kernel_rfl) ?_ _
                          have HRB := Lib.hid r1
                          have hzr : w.heap.size ≤ w1.heap.size := Nat.le_trans hsz r1.size
                          have HWC := Lib.hid (HB.out.trans (r1.mono hsz))
                          clear r1
                          go_wp2_with fail
                          obtain ⟨wo, rfl⟩ : ∃ x : World, x = wr := ⟨_, rfl⟩
                          go_loopw [5] (fun j5 wr => ∃ j : Nat, j ≤ i ∧ j5 = .int .i64 j ∧ ((((f.ents).take i).map En.id).drop j).contains X.id = q ∧ Below wo.heap.size wo wr) (fun j5 _ => i - (intOf j5).toNat)
                          case atStart => exact ⟨0, Nat.zero_le _, rfl, HQ.out, HRB.out⟩
                          case round =>
                            obtain ⟨j, hj, rfl, hres, hb⟩ := hrel
                            have HRQ := Lib.hid hb
                            have hzq : wo.heap.size ≤ wr.heap.size := hb.size
                            clear hb HRB
                            by_cases hlj : j < i
                            · have hlj' : (j : Int) < i := by omega
                              have hjl : j < f.ents.length := by omega
                              have hjl' : (j : Int) < f.ents.length := by omega
                              have hcj := HCJ.out j hjl wr HRQ.out
                              obtain ⟨c1, c2, c3⟩ := hcj
                              rw [drop_ids hlj (by omega)] at hres
                              generalize (f.ents[j]'hjl).id = y at *
                              by_cases hy : y = X.id
                              · subst hy
                                have hq : q = true := by rw [← hres]; simp
                                have HRR := Lib.hid (show R = false by have := HST.out; rw [hq] at this; rw [← this]; rfl)
                                clear hres hq
                                go_wp2_with fail
                                go_quiet (fail)
                                go_wp2_with fail
                                go_ret
                                exact ⟨ret_int (by rw [HRR.out, HQT.out]; rfl), (HB.out.trans (HRQ.out.mono hsz)).trans ((below_drewN13 _ _).mono (Nat.le_trans hsz hzq))⟩
                              · have t1 : (y == X.id) = false := by rw [beq_eq_false_iff_ne]; exact hy
                                have t2 : (X.id == y) = false := by rw [beq_eq_false_iff_ne]; exact fun e => hy e.symm
                                rw [List.contains_cons, t2, Bool.false_or] at hres
                                have HRES := Lib.hid hres
                                clear hres hy t2
                                go_wp2_with fail
                                go_quiet (fail)
                                go_wp2_with fail
                                go_roundw
                                case rel => exact ⟨j + 1, by omega, by go_num, HRES.out, HRQ.out.trans ((below_drewN13 _ _).mono hzq)⟩
                                case measure => simp [intOf]; omega
                            · obtain rfl : j = i := by omega
                              have hq : q = false := by rw [← hres, List.drop_of_length_le (by simp; omega)]; rfl
                              have HRR := Lib.hid (show ordG vldE cmpE En.id ((f.ents).take (j + 1)) ((f.ents).drop (j + 1)) = R by have := HST.out; rw [hq, Bool.not_false, Bool.true_and] at this; rw [HN.out]; exact this)
                              have hlj' : ¬ ((j : Int) < j) := by omega
                              clear hres hq hlj
                              go_wp2_with fail
                              go_roundw
                              case rel => exact ⟨j + 1, by omega, by go_num, HRR.out, HB.out.trans (HRQ.out.mono hsz), (HRQ.out.block _ hwx).trans HX.out⟩
                              case measure => simp [intOf]; omega
                        · have q0 : decide ((0 : Int) < (i : Int)) = true := decide_eq_true (by omega)
                          have q0' : decide (0 < i) = true := decide_eq_true (by omega)
                          have w1' : IntKind.i64.wrap ((i : Int) - 1) = (i : Int) - 1 := by rw [IntKind.wrap_i64]; omega
                          have w2' : (0 : Int) ≤ (i : Int) - 1 := by omega
                          have w3' : ((i : Int) - 1).toNat = i - 1 := by omega
                          have w4' : (i : Int) - 1 < f.ents.length := by omega
                          have w5' : (1 : Int) ≤ i := by omega
                          obtain ⟨hpr1, _⟩ := hpr (by omega)
                          have hst := hst1 (by omega)
                          generalize (f.ents[i - 1]'(by omega)) = P at *
                          have hcm := fun W => fun (hW : Below wr.heap.size wr W) => refCmpEntries_any P X W
                          generalize cmpE P X = m at *
                          have HCM := Lib.hid hcm
                          have KEEP : Hid (∀ W, Below wr.heap.size wr W → (W.cell? ⟨w.heap.size, 5, none⟩ = some (.slice (some ⟨b, off, none⟩) f.ents.length ec) ∧ W.cell? ⟨b, off + i * 5, none⟩ = some (.string (S X.id)) ∧ W.cell? ⟨b, off + i * 5 + 1, none⟩ = some (.string (S X.title)) ∧ W.cell? ⟨b, off + i * 5 + 2, none⟩ = some (.string (S X.link)) ∧ W.cell? ⟨b, off + i * 5 + 3, none⟩ = some (.string (S X.content)) ∧ W.cell? ⟨b, off + i * 5 + 4, none⟩ = some (.int .i64 X.upd)) ∧ (W.cell? ⟨b, off + (i - 1) * 5, none⟩ = some (.string (S P.id)) ∧ W.cell? ⟨b, off + (i - 1) * 5 + 1, none⟩ = some (.string (S P.title)) ∧ W.cell? ⟨b, off + (i - 1) * 5 + 2, none⟩ = some (.string (S P.link)) ∧ W.cell? ⟨b, off + (i - 1) * 5 + 3, none⟩ = some (.string (S P.content)) ∧ W.cell? ⟨b, off + (i - 1) * 5 + 4, none⟩ = some (.int .i64 P.upd))) := fun W hW => by
                            have hr2 := rangeAt_keep hpr1 (hW.block b hbl)
                            exact ⟨KX.out W hW, hr2 0 _ rfl, hr2 1 _ rfl, hr2 2 _ rfl, hr2 3 _ rfl, hr2 4 _ rfl⟩
                          clear hcm hpr hpr1 hst0 hst1 hq0 h0
                          by_cases hm : m < 0
                          · have qm : decide ((0 : Int) ≤ m) = false := decide_eq_false (by omega)
                            rw [decide_eq_true hm] at hst
                            simp only [Bool.true_and] at hst
                            have HST := Lib.hid hst
                            clear hst hm
                            go_wp2_with fail
                            refine wp_region_held_drew (S := fun x => (x.cell? ⟨w.heap.size, 5, none⟩ = some (.slice (some ⟨b, off, none⟩) f.ents.length ec) ∧ x.cell? ⟨b, off + i * 5, none⟩ = some (.string (S X.id)) ∧ x.cell? ⟨b, off + i * 5 + 1, none⟩ = some (.string (S X.title)) ∧ x.cell? ⟨b, off + i * 5 + 2, none⟩ = some (.string (S X.link)) ∧ x.cell? ⟨b, off + i * 5 + 3, none⟩ = some (.string (S X.content)) ∧ x.cell? ⟨b, off + i * 5 + 4, none⟩ = some (.int .i64 X.upd)) ∧ (x.cell? ⟨b, off + (i - 1) * 5, none⟩ = some (.string (S P.id)) ∧ x.cell? ⟨b, off + (i - 1) * 5 + 1, none⟩ = some (.string (S P.title)) ∧ x.cell? ⟨b, off + (i - 1) * 5 + 2, none⟩ = some (.string (S P.link)) ∧ x.cell? ⟨b, off + (i - 1) * 5 + 3, none⟩ = some (.string (S P.content)) ∧ x.cell? ⟨b, off + (i - 1) * 5 + 4, none⟩ = some (.int .i64 P.upd))) (by kernel_rfl) ?_ (fun hHeld => ?_)
                            · (try dsimp only); exact KEEP.out _ (Below.refl _ _).drew
                            refine wpAnyH_take (i := 0) (oi := (⟨some 68, _, _, _, _, _⟩ : Oper)) (v := ?_) rfl (by kernel_rfl) (by kernel_rfl) (by kernel_rfl) (fun _ _ _ h => h) (Or.inl ⟨by rfl, ?_⟩) (by assumption) ?_
                            rotate_left
                            · intro wS hSw; (try dsimp only at hSw); go_simp <;> with_reducible rfl
                            simp only [Act.put, List.setIfInBounds_toArray, List.set_cons_zero, List.set_cons_succ]
                            refine wpAnyH_take (i := 1) (oi := (⟨some 69, _, _, _, _, _⟩ : Oper)) (v := ?_) rfl (by kernel_rfl) (by kernel_rfl) (by kernel_rfl) (fun _ _ _ h => h) (Or.inl ⟨by rfl, ?_⟩) (by assumption) ?_
                            rotate_left
                            · intro wS hSw; (try dsimp only at hSw); go_simp <;> with_reducible rfl
                            simp only [Act.put, List.setIfInBounds_toArray, List.set_cons_zero, List.set_cons_succ]
                            refine wpAnyH_take (i := 2) (oi := (⟨some 70, _, _, _, _, _⟩ : Oper)) (v := ?_) rfl (by kernel_rfl) (by kernel_rfl) (by kernel_rfl) (fun _ _ _ h => h) (Or.inl ⟨by rfl, ?_⟩) (by assumption) ?_
                            rotate_left
                            · intro wS hSw; (try dsimp only at hSw); go_simp <;> with_reducible rfl
                            simp only [Act.put, List.setIfInBounds_toArray, List.set_cons_zero, List.set_cons_succ]
                            refine wpAnyH_take (i := 3) (oi := (⟨some 71, _, _, _, _, _⟩ : Oper)) (v := ?_) rfl (by kernel_rfl) (by kernel_rfl) (by kernel_rfl) (fun _ _ _ h => h) (Or.inl ⟨by rfl, ?_⟩) (by assumption) ?_
                            rotate_left
                            · intro wS hSw; (try dsimp only at hSw); go_simp <;> with_reducible rfl
                            simp only [Act.put, List.setIfInBounds_toArray, List.set_cons_zero, List.set_cons_succ]
                            refine wpAnyH_take (i := 4) (oi := (⟨some 72, _, _, _, _, _⟩ : Oper)) (v := ?_) rfl (by kernel_rfl) (by kernel_rfl) (by kernel_rfl) (fun _ _ _ h => h) (Or.inl ⟨by rfl, ?_⟩) (by assumption) ?_
                            rotate_left
                            · intro wS hSw; (try dsimp only at hSw); go_simp <;> with_reducible rfl
                            simp only [Act.put, List.setIfInBounds_toArray, List.set_cons_zero, List.set_cons_succ]
                            refine wpAnyH_ready (rs := [5]) (by kernel_rfl) (by simp) ?_
                            refine AllReadyH.cons (o := (⟨some 73, _, _, _, _, _⟩ : Oper)) rfl (fun K hK => ?_) ?_
                            rotate_left
                            · exact AllReadyH.nil
                            go_simp
                            (go_at_call 25; (with_reducible refine (HCK.out _ (Below.refl _ _).drew).mono ?_); rintro x w1 ⟨rfl, hb1⟩; have r1 := (Below.refl wr.heap.size wr).drew.trans hb1; have hz1 : wr.heap.size ≤ w1.heap.size := r1.size; clear hb1)
                            refine hK.out _ _ ?_ (fun hHeld => ?_)
                            · (try dsimp only); exact KEEP.out _ r1
                            clear hK K
                            try simp only [Act.put, List.setIfInBounds_toArray, List.set_cons_zero, List.set_cons_succ]
                            refine wpAnyH_take (i := 6) (oi := (⟨some 74, _, _, _, _, _⟩ : Oper)) (v := ?_) rfl (by kernel_rfl) (by kernel_rfl) (by kernel_rfl) (fun _ _ _ h => h) (Or.inl ⟨by rfl, ?_⟩) (by assumption) ?_
                            rotate_left
                            · intro wS hSw; (try dsimp only at hSw); go_simp <;> with_reducible rfl
                            simp only [Act.put, List.setIfInBounds_toArray, List.set_cons_zero, List.set_cons_succ]
                            refine wpAnyH_take (i := 7) (oi := (⟨some 75, _, _, _, _, _⟩ : Oper)) (v := ?_) rfl (by kernel_rfl) (by kernel_rfl) (by kernel_rfl) (fun _ _ _ h => h) (Or.inl ⟨by rfl, ?_⟩) (by assumption) ?_
                            rotate_left
                            · intro wS hSw; (try dsimp only at hSw); go_simp <;> with_reducible rfl
                            simp only [Act.put, List.setIfInBounds_toArray, List.set_cons_zero, List.set_cons_succ]
                            refine wpAnyH_take (i := 8) (oi := (⟨some 76, _, _, _, _, _⟩ : Oper)) (v := ?_) rfl (by kernel_rfl) (by kernel_rfl) (by kernel_rfl) (fun _ _ _ h => h) (Or.inl ⟨by rfl, ?_⟩) (by assumption) ?_
                            rotate_left
                            · intro wS hSw; (try dsimp only at hSw); go_simp <;> with_reducible rfl
                            simp only [Act.put, List.setIfInBounds_toArray, List.set_cons_zero, List.set_cons_succ]
                            refine wpAnyH_take (i := 9) (oi := (⟨some 77, _, _, _, _, _⟩ : Oper)) (v := ?_) rfl (by kernel_rfl) (by kernel_rfl) (by kernel_rfl) (fun _ _ _ h => h) (Or.inl ⟨by rfl, ?_⟩) (by assumption) ?_
                            rotate_left
                            · intro wS hSw; (try dsimp only at hSw); go_simp <;> with_reducible rfl
                            simp only [Act.put, List.setIfInBounds_toArray, List.set_cons_zero, List.set_cons_succ]
                            refine wpAnyH_take (i := 10) (oi := (⟨some 78, _, _, _, _, _⟩ : Oper)) (v := ?_) rfl (by kernel_rfl) (by kernel_rfl) (by kernel_rfl) (fun _ _ _ h => h) (Or.inl ⟨by rfl, ?_⟩) (by assumption) ?_
                            rotate_left
                            · intro wS hSw; (try dsimp only at hSw); go_simp <;> with_reducible rfl
                            simp only [Act.put, List.setIfInBounds_toArray, List.set_cons_zero, List.set_cons_succ]
                            refine wpAnyH_take (i := 11) (oi := (⟨some 79, _, _, _, _, _⟩ : Oper)) (v := ?_) rfl (by kernel_rfl) (by kernel_rfl) (by kernel_rfl) (fun _ _ _ h => h) (Or.inl ⟨by rfl, ?_⟩) (by assumption) ?_
                            rotate_left
                            · intro wS hSw; (try dsimp only at hSw); go_simp <;> with_reducible rfl
                            simp only [Act.put, List.setIfInBounds_toArray, List.set_cons_zero, List.set_cons_succ]
                            refine wpAnyH_take (i := 12) (oi := (⟨some 80, _, _, _, _, _⟩ : Oper)) (v := ?_) rfl (by kernel_rfl) (by kernel_rfl) (by kernel_rfl) (fun _ _ _ h => h) (Or.inl ⟨by rfl, ?_⟩) (by assumption) ?_
                            rotate_left
                            · intro wS hSw; (try dsimp only at hSw); go_simp <;> with_reducible rfl
                            simp only [Act.put, List.setIfInBounds_toArray, List.set_cons_zero, List.set_cons_succ]
                            refine wpAnyH_take (i := 13) (oi := (⟨some 81, _, _, _, _, _⟩ : Oper)) (v := ?_) rfl (by kernel_rfl) (by kernel_rfl) (by kernel_rfl) (fun _ _ _ h => h) (Or.inl ⟨by rfl, ?_⟩) (by assumption) ?_
                            rotate_left
                            · intro wS hSw; (try dsimp only at hSw); go_simp <;> with_reducible rfl
                            simp only [Act.put, List.setIfInBounds_toArray, List.set_cons_zero, List.set_cons_succ]
                            refine wpAnyH_take (i := 14) (oi := (⟨some 82, _, _, _, _, _⟩ : Oper)) (v := ?_) rfl (by kernel_rfl) (by kernel_rfl) (by kernel_rfl) (fun _ _ _ h => h) (Or.inl ⟨by rfl, ?_⟩) (by assumption) ?_
                            rotate_left
                            · intro wS hSw; (try dsimp only at hSw); go_simp <;> with_reducible rfl
                            simp only [Act.put, List.setIfInBounds_toArray, List.set_cons_zero, List.set_cons_succ]
                            refine wpAnyH_take (i := 15) (oi := (⟨some 83, _, _, _, _, _⟩ : Oper)) (v := ?_) rfl (by kernel_rfl) (by kernel_rfl) (by kernel_rfl) (fun _ _ _ h => h) (Or.inl ⟨by rfl, ?_⟩) (by assumption) ?_
                            rotate_left
                            · intro wS hSw; (try dsimp only at hSw); go_simp <;> with_reducible rfl
                            simp only [Act.put, List.setIfInBounds_toArray, List.set_cons_zero, List.set_cons_succ]
                            refine wpAnyH_take (i := 16) (oi := (⟨some 84, _, _, _, _, _⟩ : Oper)) (v := ?_) rfl (by kernel_rfl) (by kernel_rfl) (by kernel_rfl) (fun _ _ _ h => h) (Or.inl ⟨by rfl, ?_⟩) (by assumption) ?_
                            rotate_left
                            · intro wS hSw; (try dsimp only at hSw); go_simp <;> with_reducible rfl
                            simp only [Act.put, List.setIfInBounds_toArray, List.set_cons_zero, List.set_cons_succ]
                            refine wpAnyH_take (i := 17) (oi := (⟨some 85, _, _, _, _, _⟩ : Oper)) (v := ?_) rfl (by kernel_rfl) (by kernel_rfl) (by kernel_rfl) (fun _ _ _ h => h) (Or.inl ⟨by rfl, ?_⟩) (by assumption) ?_
                            rotate_left
                            · intro wS hSw; (try dsimp only at hSw); go_simp <;> with_reducible rfl
                            simp only [Act.put, List.setIfInBounds_toArray, List.set_cons_zero, List.set_cons_succ]
                            refine wpAnyH_take (i := 18) (oi := (⟨some 86, _, _, _, _, _⟩ : Oper)) (v := ?_) rfl (by kernel_rfl) (by kernel_rfl) (by kernel_rfl) (fun _ _ _ h => h) (Or.inl ⟨by rfl, ?_⟩) (by assumption) ?_
                            rotate_left
                            · intro wS hSw; (try dsimp only at hSw); go_simp <;> with_reducible rfl
                            simp only [Act.put, List.setIfInBounds_toArray, List.set_cons_zero, List.set_cons_succ]
                            refine wpAnyH_take (i := 19) (oi := (⟨some 87, _, _, _, _, _⟩ : Oper)) (v := ?_) rfl (by kernel_rfl) (by kernel_rfl) (by kernel_rfl) (fun _ _ _ h => h) (Or.inl ⟨by rfl, ?_⟩) (by assumption) ?_
                            rotate_left
                            · intro wS hSw; (try dsimp only at hSw); go_simp <;> with_reducible rfl
                            simp only [Act.put, List.setIfInBounds_toArray, List.set_cons_zero, List.set_cons_succ]
                            refine wpAnyH_take (i := 20) (oi := (⟨some 88, _, _, _, _, _⟩ : Oper)) (v := ?_) rfl (by kernel_rfl) (by kernel_rfl) (by kernel_rfl) (fun _ _ _ h => h) (Or.inl ⟨by rfl, ?_⟩) (by assumption) ?_
                            rotate_left
                            · intro wS hSw; (try dsimp only at hSw); go_simp <;> with_reducible rfl
                            simp only [Act.put, List.setIfInBounds_toArray, List.set_cons_zero, List.set_cons_succ]
                            refine wpAnyH_take (i := 21) (oi := (⟨some 89, _, _, _, _, _⟩ : Oper)) (v := ?_) rfl (by kernel_rfl) (by kernel_rfl) (by kernel_rfl) (fun _ _ _ h => h) (Or.inl ⟨by rfl, ?_⟩) (by assumption) ?_
                            rotate_left
                            · intro wS hSw; (try dsimp only at hSw); go_simp <;> with_reducible rfl
                            simp only [Act.put, List.setIfInBounds_toArray, List.set_cons_zero, List.set_cons_succ]
                            refine wpAnyH_ready (rs := [22]) (by kernel_rfl) (by simp) ?_
                            refine AllReadyH.cons (o := (⟨some 90, _, _, _, _, _⟩ : Oper)) rfl (fun K hK => ?_) ?_
                            rotate_left
                            · exact AllReadyH.nil
                            go_simp
                            (go_at_call 26; (with_reducible refine (HCM.out _ r1).mono ?_); rintro x w2 ⟨rfl, hb2⟩; have r2 := r1.trans (hb2.mono hz1); have hz2 : wr.heap.size ≤ w2.heap.size := r2.size; clear hb2)
                            refine hK.out _ _ ?_ (fun hHeld => ?_)
                            · (try dsimp only); exact KEEP.out _ r2
                            clear hK K
                            try simp only [Act.put, List.setIfInBounds_toArray, List.set_cons_zero, List.set_cons_succ]
                            refine wpAnyH_take (i := 23) (oi := (⟨some 91, _, _, _, _, _⟩ : Oper)) (v := ?_) rfl (by kernel_rfl) (by kernel_rfl) (by kernel_rfl) (fun _ _ _ h => h) (Or.inl ⟨by rfl, ?_⟩) (by assumption) ?_
                            rotate_left
                            · intro wS hSw; (try dsimp only at hSw); go_simp <;> with_reducible rfl
                            simp only [Act.put, List.setIfInBounds_toArray, List.set_cons_zero, List.set_cons_succ]
                            refine wpAnyH_take (i := 24) (oi := (⟨some 92, _, _, _, _, _⟩ : Oper)) (v := ?_) rfl (by kernel_rfl) (by kernel_rfl) (by kernel_rfl) (fun _ _ _ h => h) (Or.inl ⟨by rfl, ?_⟩) (by assumption) ?_
                            rotate_left
                            · intro wS hSw; (try dsimp only at hSw); go_simp <;> with_reducible rfl
                            simp only [Act.put, List.setIfInBounds_toArray, List.set_cons_zero, List.set_cons_succ]
                            refine wpAnyH_take (i := 25) (oi := (⟨some 93, _, _, _, _, _⟩ : Oper)) (v := ?_) rfl (by kernel_rfl) (by kernel_rfl) (by kernel_rfl) (fun _ _ _ h => h) (Or.inl ⟨by rfl, ?_⟩) (by assumption) ?_
                            rotate_left
                            · intro wS hSw; (try dsimp only at hSw); go_simp <;> with_reducible rfl
                            simp only [Act.put, List.setIfInBounds_toArray, List.set_cons_zero, List.set_cons_succ]
                            refine wpAnyH_done (by kernel_rfl) ?_ _
                            clear w1' w2' w3' w4' w5'
                            have HRB := Lib.hid r2
                            have hzr : w.heap.size ≤ w2.heap.size := Nat.le_trans hsz r2.size
                            have HWC := Lib.hid (HB.out.trans (r2.mono hsz))
                            clear r2
                            go_wp2_with fail
                            obtain ⟨wo, rfl⟩ : ∃ x : World, x = wr := ⟨_, rfl⟩
                            go_loopw [5] (fun j5 wr => ∃ j : Nat, j ≤ i ∧ j5 = .int .i64 j ∧ ((((f.ents).take i).map En.id).drop j).contains X.id = q ∧ Below wo.heap.size wo wr) (fun j5 _ => i - (intOf j5).toNat)
                            case atStart => exact ⟨0, Nat.zero_le _, rfl, HQ.out, HRB.out⟩
                            case round =>
                              obtain ⟨j, hj, rfl, hres, hb⟩ := hrel
                              have HRQ := Lib.hid hb
                              have hzq : wo.heap.size ≤ wr.heap.size := hb.size
                              clear hb HRB
                              by_cases hlj : j < i
                              · have hlj' : (j : Int) < i := by omega
                                have hjl : j < f.ents.length := by omega
                                have hjl' : (j : Int) < f.ents.length := by omega
                                have hcj := HCJ.out j hjl wr HRQ.out
                                obtain ⟨c1, c2, c3⟩ := hcj
                                rw [drop_ids hlj (by omega)] at hres
                                generalize (f.ents[j]'hjl).id = y at *
                                by_cases hy : y = X.id
                                · subst hy
                                  have hq : q = true := by rw [← hres]; simp
                                  have HRR := Lib.hid (show R = false by have := HST.out; rw [hq] at this; rw [← this]; rfl)
                                  clear hres hq
                                  go_wp2_with fail
                                  go_quiet (fail)
                                  go_wp2_with fail
                                  go_ret
                                  exact ⟨ret_int (by rw [HRR.out, HQT.out]; rfl), (HB.out.trans (HRQ.out.mono hsz)).trans ((below_drewN13 _ _).mono (Nat.le_trans hsz hzq))⟩
                                · have t1 : (y == X.id) = false := by rw [beq_eq_false_iff_ne]; exact hy
                                  have t2 : (X.id == y) = false := by rw [beq_eq_false_iff_ne]; exact fun e => hy e.symm
                                  rw [List.contains_cons, t2, Bool.false_or] at hres
                                  have HRES := Lib.hid hres
                                  clear hres hy t2
                                  go_wp2_with fail
                                  go_quiet (fail)
                                  go_wp2_with fail
                                  go_roundw
                                  case rel => exact ⟨j + 1, by omega, by go_num, HRES.out, HRQ.out.trans ((below_drewN13 _ _).mono hzq)⟩
                                  case measure => simp [intOf]; omega
                              · obtain rfl : j = i := by omega
                                have hq : q = false := by rw [← hres, List.drop_of_length_le (by simp; omega)]; rfl
                                have HRR := Lib.hid (show ordG vldE cmpE En.id ((f.ents).take (j + 1)) ((f.ents).drop (j + 1)) = R by have := HST.out; rw [hq, Bool.not_false, Bool.true_and] at this; rw [HN.out]; exact this)
                                have hlj' : ¬ ((j : Int) < j) := by omega
                                clear hres hq hlj
                                go_wp2_with fail
                                go_roundw
                                case rel => exact ⟨j + 1, by omega, by go_num, HRR.out, HB.out.trans (HRQ.out.mono hsz), (HRQ.out.block _ hwx).trans HX.out⟩
                                case measure => simp [intOf]; omega
                          · have qm : decide ((0 : Int) ≤ m) = true := decide_eq_true (by omega)
                            rw [decide_eq_false hm] at hst
                            have hr : R = false := by rw [← hst]; rfl
                            have HRR := Lib.hid hr
                            clear hst hr hm
                            go_wp2_with fail
                            refine wp_region_held_drew (S := fun x => (x.cell? ⟨w.heap.size, 5, none⟩ = some (.slice (some ⟨b, off, none⟩) f.ents.length ec) ∧ x.cell? ⟨b, off + i * 5, none⟩ = some (.string (S X.id)) ∧ x.cell? ⟨b, off + i * 5 + 1, none⟩ = some (.string (S X.title)) ∧ x.cell? ⟨b, off + i * 5 + 2, none⟩ = some (.string (S X.link)) ∧ x.cell? ⟨b, off + i * 5 + 3, none⟩ = some (.string (S X.content)) ∧ x.cell? ⟨b, off + i * 5 + 4, none⟩ = some (.int .i64 X.upd)) ∧ (x.cell? ⟨b, off + (i - 1) * 5, none⟩ = some (.string (S P.id)) ∧ x.cell? ⟨b, off + (i - 1) * 5 + 1, none⟩ = some (.string (S P.title)) ∧ x.cell? ⟨b, off + (i - 1) * 5 + 2, none⟩ = some (.string (S P.link)) ∧ x.cell? ⟨b, off + (i - 1) * 5 + 3, none⟩ = some (.string (S P.content)) ∧ x.cell? ⟨b, off + (i - 1) * 5 + 4, none⟩ = some (.int .i64 P.upd))) (by kernel_rfl) ?_ (fun hHeld => ?_)
                            · (try dsimp only); exact KEEP.out _ (Below.refl _ _).drew
                            refine wpAnyH_take (i := 0) (oi := (⟨some 68, _, _, _, _, _⟩ : Oper)) (v := ?_) rfl (by kernel_rfl) (by kernel_rfl) (by kernel_rfl) (fun _ _ _ h => h) (Or.inl ⟨by rfl, ?_⟩) (by assumption) ?_
                            rotate_left
                            · intro wS hSw; (try dsimp only at hSw); go_simp <;> with_reducible rfl
                            simp only [Act.put, List.setIfInBounds_toArray, List.set_cons_zero, List.set_cons_succ]
                            refine wpAnyH_take (i := 1) (oi := (⟨some 69, _, _, _, _, _⟩ : Oper)) (v := ?_) rfl (by kernel_rfl) (by kernel_rfl) (by kernel_rfl) (fun _ _ _ h => h) (Or.inl ⟨by rfl, ?_⟩) (by assumption) ?_
                            rotate_left
                            · intro wS hSw; (try dsimp only at hSw); go_simp <;> with_reducible rfl
                            simp only [Act.put, List.setIfInBounds_toArray, List.set_cons_zero, List.set_cons_succ]
                            refine wpAnyH_take (i := 2) (oi := (⟨some 70, _, _, _, _, _⟩ : Oper)) (v := ?_) rfl (by kernel_rfl) (by kernel_rfl) (by kernel_rfl) (fun _ _ _ h => h) (Or.inl ⟨by rfl, ?_⟩) (by assumption) ?_
                            rotate_left
                            · intro wS hSw; (try dsimp only at hSw); go_simp <;> with_reducible rfl
                            simp only [Act.put, List.setIfInBounds_toArray, List.set_cons_zero, List.set_cons_succ]
                            refine wpAnyH_take (i := 3) (oi := (⟨some 71, _, _, _, _, _⟩ : Oper)) (v := ?_) rfl (by kernel_rfl) (by kernel_rfl) (by kernel_rfl) (fun _ _ _ h => h) (Or.inl ⟨by rfl, ?_⟩) (by assumption) ?_
                            rotate_left
                            · intro wS hSw; (try dsimp only at hSw); go_simp <;> with_reducible rfl
                            simp only [Act.put, List.setIfInBounds_toArray, List.set_cons_zero, List.set_cons_succ]
                            refine wpAnyH_take (i := 4) (oi := (⟨some 72, _, _, _, _, _⟩ : Oper)) (v := ?_) rfl (by kernel_rfl) (by kernel_rfl) (by kernel_rfl) (fun _ _ _ h => h) (Or.inl ⟨by rfl, ?_⟩) (by assumption) ?_
                            rotate_left
                            · intro wS hSw; (try dsimp only at hSw); go_simp <;> with_reducible rfl
                            simp only [Act.put, List.setIfInBounds_toArray, List.set_cons_zero, List.set_cons_succ]
                            refine wpAnyH_ready (rs := [5]) (by kernel_rfl) (by simp) ?_
                            refine AllReadyH.cons (o := (⟨some 73, _, _, _, _, _⟩ : Oper)) rfl (fun K hK => ?_) ?_
                            rotate_left
                            · exact AllReadyH.nil
                            go_simp
                            (go_at_call 25; (with_reducible refine (HCK.out _ (Below.refl _ _).drew).mono ?_); rintro x w1 ⟨rfl, hb1⟩; have r1 := (Below.refl wr.heap.size wr).drew.trans hb1; have hz1 : wr.heap.size ≤ w1.heap.size := r1.size; clear hb1)
                            refine hK.out _ _ ?_ (fun hHeld => ?_)
                            · (try dsimp only); exact KEEP.out _ r1
                            clear hK K
                            try simp only [Act.put, List.setIfInBounds_toArray, List.set_cons_zero, List.set_cons_succ]
                            refine wpAnyH_take (i := 6) (oi := (⟨some 74, _, _, _, _, _⟩ : Oper)) (v := ?_) rfl (by kernel_rfl) (by kernel_rfl) (by kernel_rfl) (fun _ _ _ h => h) (Or.inl ⟨by rfl, ?_⟩) (by assumption) ?_
                            rotate_left
                            · intro wS hSw; (try dsimp only at hSw); go_simp <;> with_reducible rfl
                            simp only [Act.put, List.setIfInBounds_toArray, List.set_cons_zero, List.set_cons_succ]
                            refine wpAnyH_take (i := 7) (oi := (⟨some 75, _, _, _, _, _⟩ : Oper)) (v := ?_) rfl (by kernel_rfl) (by kernel_rfl) (by kernel_rfl) (fun _ _ _ h => h) (Or.inl ⟨by rfl, ?_⟩) (by assumption) ?_
                            rotate_left
                            · intro wS hSw; (try dsimp only at hSw); go_simp <;> with_reducible rfl
                            simp only [Act.put, List.setIfInBounds_toArray, List.set_cons_zero, List.set_cons_succ]
                            refine wpAnyH_take (i := 8) (oi := (⟨some 76, _, _, _, _, _⟩ : Oper)) (v := ?_) rfl (by kernel_rfl) (by kernel_rfl) (by kernel_rfl) (fun _ _ _ h => h) (Or.inl ⟨by rfl, ?_⟩) (by assumption) ?_
                            rotate_left
                            · intro wS hSw; (try dsimp only at hSw); go_simp <;> with_reducible rfl
                            simp only [Act.put, List.setIfInBounds_toArray, List.set_cons_zero, List.set_cons_succ]
                            refine wpAnyH_take (i := 9) (oi := (⟨some 77, _, _, _, _, _⟩ : Oper)) (v := ?_) rfl (by kernel_rfl) (by kernel_rfl) (by kernel_rfl) (fun _ _ _ h => h) (Or.inl ⟨by rfl, ?_⟩) (by assumption) ?_
                            rotate_left
                            · intro wS hSw; (try dsimp only at hSw); go_simp <;> with_reducible rfl
                            simp only [Act.put, List.setIfInBounds_toArray, List.set_cons_zero, List.set_cons_succ]
                            refine wpAnyH_take (i := 10) (oi := (⟨some 78, _, _, _, _, _⟩ : Oper)) (v := ?_) rfl (by kernel_rfl) (by kernel_rfl) (by kernel_rfl) (fun _ _ _ h => h) (Or.inl ⟨by rfl, ?_⟩) (by assumption) ?_
                            rotate_left
                            · intro wS hSw; (try dsimp only at hSw); go_simp <;> with_reducible rfl
                            simp only [Act.put, List.setIfInBounds_toArray, List.set_cons_zero, List.set_cons_succ]
                            refine wpAnyH_take (i := 11) (oi := (⟨some 79, _, _, _, _, _⟩ : Oper)) (v := ?_) rfl (by kernel_rfl) (by kernel_rfl) (by kernel_rfl) (fun _ _ _ h => h) (Or.inl ⟨by rfl, ?_⟩) (by assumption) ?_
                            rotate_left
                            · intro wS hSw; (try dsimp only at hSw); go_simp <;> with_reducible rfl
                            simp only [Act.put, List.setIfInBounds_toArray, List.set_cons_zero, List.set_cons_succ]
                            refine wpAnyH_take (i := 12) (oi := (⟨some 80, _, _, _, _, _⟩ : Oper)) (v := ?_) rfl (by kernel_rfl) (by kernel_rfl) (by kernel_rfl) (fun _ _ _ h => h) (Or.inl ⟨by rfl, ?_⟩) (by assumption) ?_
                            rotate_left
                            · intro wS hSw; (try dsimp only at hSw); go_simp <;> with_reducible rfl
                            simp only [Act.put, List.setIfInBounds_toArray, List.set_cons_zero, List.set_cons_succ]
                            refine wpAnyH_take (i := 13) (oi := (⟨some 81, _, _, _, _, _⟩ : Oper)) (v := ?_) rfl (by kernel_rfl) (by kernel_rfl) (by kernel_rfl) (fun _ _ _ h => h) (Or.inl ⟨by rfl, ?_⟩) (by assumption) ?_
                            rotate_left
                            · intro wS hSw; (try dsimp only at hSw); go_simp <;> with_reducible rfl
                            simp only [Act.put, List.setIfInBounds_toArray, List.set_cons_zero, List.set_cons_succ]
                            refine wpAnyH_take (i := 14) (oi := (⟨some 82, _, _, _, _, _⟩ : Oper)) (v := ?_) rfl (by kernel_rfl) (by kernel_rfl) (by kernel_rfl) (fun _ _ _ h => h) (Or.inl ⟨by rfl, ?_⟩) (by assumption) ?_
                            rotate_left
                            · intro wS hSw; (try dsimp only at hSw); go_simp <;> with_reducible rfl
                            simp only [Act.put, List.setIfInBounds_toArray, List.set_cons_zero, List.set_cons_succ]
                            refine wpAnyH_take (i := 15) (oi := (⟨some 83, _, _, _, _, _⟩ : Oper)) (v := ?_) rfl (by kernel_rfl) (by kernel_rfl) (by kernel_rfl) (fun _ _ _ h => h) (Or.inl ⟨by rfl, ?_⟩) (by assumption) ?_
                            rotate_left
                            · intro wS hSw; (try dsimp only at hSw); go_simp <;> with_reducible rfl
                            simp only [Act.put, List.setIfInBounds_toArray, List.set_cons_zero, List.set_cons_succ]
                            refine wpAnyH_take (i := 16) (oi := (⟨some 84, _, _, _, _, _⟩ : Oper)) (v := ?_) rfl (by kernel_rfl) (by kernel_rfl) (by kernel_rfl) (fun _ _ _ h => h) (Or.inl ⟨by rfl, ?_⟩) (by assumption) ?_
                            rotate_left
                            · intro wS hSw; (try dsimp only at hSw); go_simp <;> with_reducible rfl
                            simp only [Act.put, List.setIfInBounds_toArray, List.set_cons_zero, List.set_cons_succ]
                            refine wpAnyH_take (i := 17) (oi := (⟨some 85, _, _, _, _, _⟩ : Oper)) (v := ?_) rfl (by kernel_rfl) (by kernel_rfl) (by kernel_rfl) (fun _ _ _ h => h) (Or.inl ⟨by rfl, ?_⟩) (by assumption) ?_
                            rotate_left
                            · intro wS hSw; (try dsimp only at hSw); go_simp <;> with_reducible rfl
                            simp only [Act.put, List.setIfInBounds_toArray, List.set_cons_zero, List.set_cons_succ]
                            refine wpAnyH_take (i := 18) (oi := (⟨some 86, _, _, _, _, _⟩ : Oper)) (v := ?_) rfl (by kernel_rfl) (by kernel_rfl) (by kernel_rfl) (fun _ _ _ h => h) (Or.inl ⟨by rfl, ?_⟩) (by assumption) ?_
                            rotate_left
                            · intro wS hSw; (try dsimp only at hSw); go_simp <;> with_reducible rfl
                            simp only [Act.put, List.setIfInBounds_toArray, List.set_cons_zero, List.set_cons_succ]
                            refine wpAnyH_take (i := 19) (oi := (⟨some 87, _, _, _, _, _⟩ : Oper)) (v := ?_) rfl (by kernel_rfl) (by kernel_rfl) (by kernel_rfl) (fun _ _ _ h => h) (Or.inl ⟨by rfl, ?_⟩) (by assumption) ?_
                            rotate_left
                            · intro wS hSw; (try dsimp only at hSw); go_simp <;> with_reducible rfl
                            simp only [Act.put, List.setIfInBounds_toArray, List.set_cons_zero, List.set_cons_succ]
                            refine wpAnyH_take (i := 20) (oi := (⟨some 88, _, _, _, _, _⟩ : Oper)) (v := ?_) rfl (by kernel_rfl) (by kernel_rfl) (by kernel_rfl) (fun _ _ _ h => h) (Or.inl ⟨by rfl, ?_⟩) (by assumption) ?_
                            rotate_left
                            · intro wS hSw; (try dsimp only at hSw); go_simp <;> with_reducible rfl
                            simp only [Act.put, List.setIfInBounds_toArray, List.set_cons_zero, List.set_cons_succ]
                            refine wpAnyH_take (i := 21) (oi := (⟨some 89, _, _, _, _, _⟩ : Oper)) (v := ?_) rfl (by kernel_rfl) (by kernel_rfl) (by kernel_rfl) (fun _ _ _ h => h) (Or.inl ⟨by rfl, ?_⟩) (by assumption) ?_
                            rotate_left
                            · intro wS hSw; (try dsimp only at hSw); go_simp <;> with_reducible rfl
                            simp only [Act.put, List.setIfInBounds_toArray, List.set_cons_zero, List.set_cons_succ]
                            refine wpAnyH_ready (rs := [22]) (by kernel_rfl) (by simp) ?_
                            refine AllReadyH.cons (o := (⟨some 90, _, _, _, _, _⟩ : Oper)) rfl (fun K hK => ?_) ?_
                            rotate_left
                            · exact AllReadyH.nil
                            go_simp
                            (go_at_call 26; (with_reducible refine (HCM.out _ r1).mono ?_); rintro x w2 ⟨rfl, hb2⟩; have r2 := r1.trans (hb2.mono hz1); have hz2 : wr.heap.size ≤ w2.heap.size := r2.size; clear hb2)
                            refine hK.out _ _ ?_ (fun hHeld => ?_)
                            · (try dsimp only); exact KEEP.out _ r2
                            clear hK K
                            try simp only [Act.put, List.setIfInBounds_toArray, List.set_cons_zero, List.set_cons_succ]
                            refine wpAnyH_take (i := 23) (oi := (⟨some 91, _, _, _, _, _⟩ : Oper)) (v := ?_) rfl (by kernel_rfl) (by kernel_rfl) (by kernel_rfl) (fun _ _ _ h => h) (Or.inl ⟨by rfl, ?_⟩) (by assumption) ?_
                            rotate_left
                            · intro wS hSw; (try dsimp only at hSw); go_simp <;> with_reducible rfl
                            simp only [Act.put, List.setIfInBounds_toArray, List.set_cons_zero, List.set_cons_succ]
                            refine wpAnyH_take (i := 24) (oi := (⟨some 92, _, _, _, _, _⟩ : Oper)) (v := ?_) rfl (by kernel_rfl) (by kernel_rfl) (by kernel_rfl) (fun _ _ _ h => h) (Or.inl ⟨by rfl, ?_⟩) (by assumption) ?_
                            rotate_left
                            · intro wS hSw; (try dsimp only at hSw); go_simp <;> with_reducible rfl
                            simp only [Act.put, List.setIfInBounds_toArray, List.set_cons_zero, List.set_cons_succ]
                            refine wpAnyH_take (i := 25) (oi := (⟨some 93, _, _, _, _, _⟩ : Oper)) (v := ?_) rfl (by kernel_rfl) (by kernel_rfl) (by kernel_rfl) (fun _ _ _ h => h) (Or.inl ⟨by rfl, ?_⟩) (by assumption) ?_
                            rotate_left
                            · intro wS hSw; (try dsimp only at hSw); go_simp <;> with_reducible rfl
                            simp only [Act.put, List.setIfInBounds_toArray, List.set_cons_zero, List.set_cons_succ]
                            refine wpAnyH_done (by kernel_rfl) ?_ _
                            have HRB := Lib.hid r2
                            clear r2
                            go_wp2_with fail
                            go_ret
                            exact ⟨ret_int (by rw [HRR.out, HQT.out]; rfl), HB.out.trans (HRB.out.mono hsz)⟩
                    · obtain rfl : i = f.ents.length := by omega
                      rw [ordG_end] at hres
                      subst hres
                      have hlt' : ¬ ((f.ents.length : Int) < f.ents.length) := by omega
                      go_wp2_with fail
                      go_ret
                      exact ⟨ret_int (by rw [HQT.out]; rfl), HB.out⟩
  · have q64 : (64 : Int) < f.path.length := by omega
    rw [decide_eq_false h64, Bool.false_and]
    clear h64
    go_enter Tryz.func9, Tryz.ntmps9
    go_wp2_with (first
      | (go_at_call 23; (with_reducible refine (H0.out _).mono ?_); rintro x w1 ⟨rfl, hb1⟩; have r1 := R0.out.trans (hb1.mono (by simp)); have hz1 : w.heap.size + 1 ≤ w1.heap.size := (by have := r1.size; simpa using this); obtain ⟨k0, k1, k2, k3, k4, k5⟩ := KEEP.out _ r1; clear hb1)
      | (go_at_call 23; (with_reducible refine (H1.out _).mono ?_); rintro x w2 ⟨rfl, hb2⟩; have r2 := r1.trans (hb2.mono hz1); have hz2 : w.heap.size + 1 ≤ w2.heap.size := (by have := r2.size; simpa using this); clear k0 k1 k2 k3 k4 k5; obtain ⟨k0, k1, k2, k3, k4, k5⟩ := KEEP.out _ r2; clear hb2)
      | (go_at_call 23; (with_reducible refine (H2.out _).mono ?_); rintro x w3 ⟨rfl, hb3⟩; have r3 := r2.trans (hb3.mono hz2); have hz3 : w.heap.size + 1 ≤ w3.heap.size := (by have := r3.size; simpa using this); clear k0 k1 k2 k3 k4 k5; obtain ⟨k0, k1, k2, k3, k4, k5⟩ := KEEP.out _ r3; clear hb3)
      | (go_at_call 24; refine (HTI.out _).mono ?_; rintro x w3 ⟨rfl, rfl⟩))
    go_ret
    exact ⟨rfl, HA0.out.trans (R0.out.mono (Nat.le_succ _))⟩
end Go.Proofs.YtadkgjbidhfefaaGreatDoor
