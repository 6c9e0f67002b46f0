/-
  Walks of chapter 13: LaterEntry (the program); which entries are valid (both).
-/
import Derived.Test.YtadkgjbidhfefaaDoorE4
import Derived.Test.YtadkgjbidhfefaaDoorCol13
set_option linter.unusedVariables false
namespace Go.Proofs.YtadkgjbidhfefaaDoor
open Go.RowKit

set_option maxHeartbeats 4000000 in
set_option maxRecDepth 100000 in
theorem laterEntry_any (a b : En) (w : World) (hT : TabJ w) (hf : EFit a) (hg : EFit b) (hs : a.id.length + a.title.length + a.link.length + a.content.length ≤ 100000) (ht : b.id.length + b.title.length + b.link.length + b.content.length ≤ 100000) :
    Calls Tryd.prog 38 #[entV a, entV b] w fun x w' => x = .returned (entV (lat3 cmpK a b)) ∧ Below w.heap.size w w' := by
  have E0 := Lib.hid (Ent3.new w a b)
  have F3 : Hid (Below w.heap.size w (((w.alloc (entBox a)).alloc (entBox b)).alloc zEntO)) := (((Below.refl _ _).alloc (Nat.le_refl _) _).alloc (by simp) _).alloc (by simp; omega) _
  have hl := laterE_any a b (((w.alloc (entBox a)).alloc (entBox b)).alloc zEntO) (hT.next F3.out) hf hg hs ht
  generalize lat3 cmpK a b = L at *
  have HL := Lib.hid hl
  obtain ⟨⟨a0, a1, a2, a3, a4⟩, b0, b1, b2, b3, b4⟩ := E0.out.cells
  clear hl hT hf hg hs ht
  go_enter Tryd.func38, Tryd.ntmps38
  go_wp2_with fail
  refine HL.out.mono ?_
  rintro x w1 ⟨rfl, hb1⟩
  have E1 := E0.out.next hb1
  have R1 := E1.res
  go_wp2_with (with_reducible refine gate ?_; refine wp_store_ent rfl _ _ rfl (w.heap.size + 1 + 1) _ _ _ _ _ _ rfl rfl R1 rfl ?_; intro w4 hw4 hu4)
  refine bodyPost_ret (v := .agg _) (res_whole Tryd.results38 _ _ (w.heap.size + 1 + 1) rfl _ _ hw4 Tryd.underlying59 rfl entSize) rfl ⟨rfl, ?_⟩
  have hz1 := hb1.size
  simp only [World.size_alloc] at hz1
  exact (F3.out.trans (hb1.mono (by simp; omega))).trans (hu4.below (by omega) (by omega))

/-! Checks. -/
def inT (t : Int) : Bool := decide (-62135596800 ≤ t) && decide (t ≤ 253402300799)
set_option maxHeartbeats 1000000 in
theorem inTime_any (t : Int) (w : World) : Calls Tryd.prog 63 #[.int .i64 t] w fun x w' => x = .returned (.bool (inT t)) ∧ w' = w := by
  unfold inT
  by_cases h1 : -62135596800 ≤ t <;> by_cases h2 : t ≤ 253402300799
  all_goals
    go_enter Tryd.func63, Tryd.ntmps63
    go_wp2
    go_ret
    exact ⟨ret_bool (by simp [h1, h2]), rfl⟩
set_option maxHeartbeats 1000000 in
theorem refInTime_any (t : Int) (w : World) : Calls Tryd.prog 66 #[.int .i64 t] w fun x w' => x = .returned (.bool (inT t)) ∧ w' = w := by
  unfold inT
  by_cases h1 : -62135596800 ≤ t <;> by_cases h2 : t ≤ 253402300799
  all_goals
    go_enter Tryd.func66, Tryd.ntmps66
    go_wp2
    go_ret
    exact ⟨ret_bool (by simp [h1, h2]), rfl⟩
/-- The error of a check. -/
def er13 (b : Bool) : Int := if b = true then 0 else 22
set_option maxHeartbeats 1000000 in
theorem checked_any (b : Bool) (w : World) : Calls Tryd.prog 62 #[.bool b] w fun x w' => x = .returned (.int .i64 (er13 b)) ∧ w' = w := by
  cases b
  all_goals
    go_enter Tryd.func62, Tryd.ntmps62
    go_wp2
    go_ret
    exact ⟨rfl, rfl⟩
set_option maxHeartbeats 2000000 in
set_option maxRecDepth 100000 in
theorem all13_any (l : List Bytes) (u : Value) (w : World) (hT : TabJ w) (h : ElsP strE w (· < w.heap.size) u l) (hl : l.length ≤ 1000000000000) (hs : ∀ s ∈ l, s.length ≤ 1000000) :
    Calls Tryd.prog 60 #[u] w fun x w' => x = .returned (.bool (l.all vldT)) ∧ Below w.heap.size w w' := by
  obtain ⟨A0, c0, rfl, _⟩ := h.slice
  have HL := Lib.hid h
  have HT := Lib.hid hT
  have HS := Lib.hid hs
  obtain ⟨q, hq⟩ : ∃ q, l.all vldT = q := ⟨_, rfl⟩
  rw [hq]
  have HQ := Lib.hid (show (l.drop 0).all vldT = q from hq)
  clear h hT hs hq
  go_enter Tryd.func60, Tryd.ntmps60
  go_wp2_with fail
  go_loopw [7] (fun i7 wr => ∃ i : Nat, i ≤ l.length ∧ i7 = .int .i64 i ∧ (l.drop i).all vldT = q ∧ Below w.heap.size w wr) (fun i7 _ => l.length - (intOf i7).toNat)
  case atStart => exact ⟨0, Nat.zero_le _, rfl, HQ.out, Below.refl _ _⟩
  case round =>
    obtain ⟨i, hi, rfl, hres, hb⟩ := hrel
    have HB := Lib.hid hb
    have hsz := hb.size
    clear hb HQ
    by_cases hlt : i < l.length
    · have hlt' : (i : Int) < l.length := by omega
      obtain ⟨b, off, rfl, hpb, hc1⟩ := strs_cell (HL.out.keep strE_ok HB.out.block (fun _ h => h)) hlt
      have hxl := HS.out _ (List.getElem_mem hlt)
      rw [List.drop_eq_getElem_cons hlt, List.all_cons] at hres
      generalize l[i] = x at *
      have hv := validT_any x wr (HT.out.next HB.out) hxl
      cases hu : vldT x with
      | false =>
        rw [hu] at hv hres
        rw [Bool.false_and] at hres
        subst hres
        have HV := Lib.hid hv
        clear hv hu
        go_wp2_with (go_at_call 93; refine HV.out.mono ?_; rintro e w2 ⟨rfl, hb2⟩)
        go_ret
        exact ⟨rfl, HB.out.trans (hb2.mono hsz)⟩
      | true =>
        rw [hu] at hv hres
        rw [Bool.true_and] at hres
        have HV := Lib.hid hv
        have HRES := Lib.hid hres
        clear hv hu hres
        go_wp2_with (go_at_call 93; refine HV.out.mono ?_; rintro e w2 ⟨rfl, hb2⟩)
        go_roundw
        case rel => exact ⟨i + 1, by omega, by go_num, HRES.out, HB.out.trans (hb2.mono hsz)⟩
        case measure => simp [intOf]; omega
    · obtain rfl : i = l.length := by omega
      rw [List.drop_length] at hres
      subst hres
      have hlt' : ¬ (l.length : Int) < l.length := by omega
      go_wp2_with fail
      go_ret
      exact ⟨rfl, HB.out⟩

/-- Which entries are valid. -/
def vldE (e : En) : Bool := !e.id.isEmpty && inT e.upd && (strsE e).all vldT

set_option maxHeartbeats 4000000 in
set_option maxRecDepth 100000 in
theorem checkEntry_any (e : En) (w : World) (hT : TabJ w) (hs : e.id.length + e.title.length + e.link.length + e.content.length ≤ 100000) :
    Calls Tryd.prog 30 #[entV e] w fun x w' => x = .returned (.int .i64 (er13 (vldE e))) ∧ Below w.heap.size w w' := by
  have hA0 : Below w.heap.size w (w.alloc (entBox e)) := (Below.refl _ _).alloc (Nat.le_refl _) _
  have hnew : ((w.alloc (entBox e)).alloc (.cells #[.string (S e.id), .string (S e.title), .string (S e.link), .string (S e.content)] 9)).heap[w.heap.size + 1]? = some (.cells #[.string (S e.id), .string (S e.title), .string (S e.link), .string (S e.content)] 9) := by
    have := heap_alloc_new (w.alloc (entBox e)) (.cells #[.string (S e.id), .string (S e.title), .string (S e.link), .string (S e.content)] 9)
    simpa using this
  have hall := all13_any (strsE e) _ _ (hT.next (hA0.alloc (by simp) _)) (els_four hnew) (by simp [strsE]) (fun s hs => by simp [strsE] at hs; rcases hs with rfl | rfl | rfl | rfl <;> omega)
  have hti := fun W => inTime_any e.upd W
  have HALL := Lib.hid hall
  have HTI := Lib.hid hti
  have HA0 := Lib.hid hA0
  have HCK := Lib.hid (fun b W => checked_any b W)
  clear hnew hall hti hA0 hT hs
  unfold vldE
  cases hi : e.id.isEmpty with
  | true =>
    have t2 : (e.id == []) = true := by cases h : e.id with | nil => rfl | cons _ _ => rw [h] at hi; cases hi
    have t3 : (e.id != []) = false := by rw [bne, t2]; rfl
    rw [Bool.not_true, Bool.false_and, Bool.false_and]
    go_enter Tryd.func30, Tryd.ntmps30
    go_wp2_with (go_at_call 62; refine (HCK.out _ _).mono ?_; rintro x wq ⟨rfl, rfl⟩)
    go_ret
    exact ⟨rfl, HA0.out⟩
  | false =>
    have t2 : (e.id == []) = false := by cases h : e.id with | nil => rw [h] at hi; cases hi | cons _ _ => rfl
    have t3 : (e.id != []) = true := by rw [bne, t2]; rfl
    rw [Bool.not_false, Bool.true_and]
    generalize inT e.upd = q at *
    generalize (strsE e).all vldT = r at *
    cases q with
    | false =>
      rw [Bool.false_and]
      go_enter Tryd.func30, Tryd.ntmps30
      go_wp2_with (first
        | (go_at_call 63; refine (HTI.out _).mono ?_; rintro x wq ⟨rfl, rfl⟩)
        | (go_at_call 62; refine (HCK.out _ _).mono ?_; rintro x wq ⟨rfl, rfl⟩))
      go_ret
      exact ⟨rfl, HA0.out⟩
    | true =>
      rw [Bool.true_and]
      go_enter Tryd.func30, Tryd.ntmps30
      go_wp2_with (first
        | (go_at_call 63; refine (HTI.out _).mono ?_; rintro x wq ⟨rfl, rfl⟩)
        | (go_at_call 60; refine HALL.out.mono ?_; rintro x w2 ⟨rfl, hb2⟩)
        | (go_at_call 62; refine (HCK.out _ _).mono ?_; rintro x wq ⟨rfl, rfl⟩))
      go_ret
      exact ⟨rfl, (HA0.out.alloc (by simp) _).trans (hb2.mono (by simp; omega))⟩
set_option maxHeartbeats 4000000 in
set_option maxRecDepth 100000 in
theorem refCheckEntry_any (e : En) (w : World) (hs : e.id.length + e.title.length + e.link.length + e.content.length ≤ 100000) :
    Calls Tryd.prog 31 #[entV e] w fun x w' => x = .returned (.int .i64 (er13 (vldE e))) ∧ Below w.heap.size w w' := by
  have hA0 : Below w.heap.size w (w.alloc (entBox e)) := (Below.refl _ _).alloc (Nat.le_refl _) _
  have h0 := fun W => refValidT_any e.id W (by omega)
  have h1 := fun W => refValidT_any e.title W (by omega)
  have h2 := fun W => refValidT_any e.link W (by omega)
  have h3 := fun W => refValidT_any e.content W (by omega)
  have hti := fun W => refInTime_any e.upd W
  have HTI := Lib.hid hti
  have HA0 := Lib.hid hA0
  have hx : ∀ W, Below (w.heap.size + 1) (w.alloc (entBox e)) W → W.cell? ⟨w.heap.size, 0, none⟩ = some (.string (S e.id)) ∧ W.cell? ⟨w.heap.size, 1, none⟩ = some (.string (S e.title)) ∧ W.cell? ⟨w.heap.size, 2, none⟩ = some (.string (S e.link)) ∧ W.cell? ⟨w.heap.size, 3, none⟩ = some (.string (S e.content)) ∧ W.cell? ⟨w.heap.size, 4, none⟩ = some (.int .i64 e.upd) := fun W hW =>
    cells5 ((hW.block w.heap.size (by omega)).trans (heap_alloc_new w (entBox e)))
  have KEEP := Lib.hid hx
  have hv : vldE e = (vldT e.id && (vldT e.title && (vldT e.link && (vldT e.content && (!e.id.isEmpty && inT e.upd))))) := by
    unfold vldE strsE
    simp only [List.all_cons, List.all_nil, Bool.and_true]
    cases e.id.isEmpty <;> cases inT e.upd <;> cases vldT e.id <;> cases vldT e.title <;> cases vldT e.link <;> cases vldT e.content <;> rfl
  rw [hv]
  clear hx hv hti hA0 hs
  have hz : (w.alloc (entBox e)).heap.size = w.heap.size + 1 := by simp
  have R0 := Lib.hid (show Below (w.heap.size + 1) (w.alloc (entBox e)) (w.alloc (entBox e)) from Below.refl _ _)
  generalize vldT e.id = v0 at *
  generalize vldT e.title = v1 at *
  generalize vldT e.link = v2 at *
  generalize vldT e.content = v3 at *
  generalize inT e.upd = q at *
  have H0 := Lib.hid h0
  have H1 := Lib.hid h1
  have H2 := Lib.hid h2
  have H3 := Lib.hid h3
  clear h0 h1 h2 h3 hz
  cases v0 with
  | false =>
    rw [Bool.false_and]
    go_enter Tryd.func31, Tryd.ntmps31
    go_wp2_with (first
      | (go_at_call 65; (with_reducible refine (H0.out _).mono ?_); rintro x w1 ⟨rfl, hb1⟩; have r1 := R0.out.trans (hb1.mono (by simp)); have hz1 : w.heap.size + 1 ≤ w1.heap.size := (by have := r1.size; simpa using this); obtain ⟨k0, k1, k2, k3, k4⟩ := KEEP.out _ r1; clear hb1)
      | (go_at_call 65; (with_reducible refine (H1.out _).mono ?_); rintro x w2 ⟨rfl, hb2⟩; have r2 := r1.trans (hb2.mono hz1); have hz2 : w.heap.size + 1 ≤ w2.heap.size := (by have := r2.size; simpa using this); clear k0 k1 k2 k3 k4; obtain ⟨k0, k1, k2, k3, k4⟩ := KEEP.out _ r2; clear hb2)
      | (go_at_call 65; (with_reducible refine (H2.out _).mono ?_); rintro x w3 ⟨rfl, hb3⟩; have r3 := r2.trans (hb3.mono hz2); have hz3 : w.heap.size + 1 ≤ w3.heap.size := (by have := r3.size; simpa using this); clear k0 k1 k2 k3 k4; obtain ⟨k0, k1, k2, k3, k4⟩ := KEEP.out _ r3; clear hb3)
      | (go_at_call 65; (with_reducible refine (H3.out _).mono ?_); rintro x w4 ⟨rfl, hb4⟩; have r4 := r3.trans (hb4.mono hz3); clear k0 k1 k2 k3 k4; obtain ⟨k0, k1, k2, k3, k4⟩ := KEEP.out _ r4; clear hb4)
      | (go_at_call 66; refine (HTI.out _).mono ?_; rintro x wq ⟨rfl, rfl⟩))
    go_ret
    exact ⟨rfl, HA0.out.trans (r1.mono (Nat.le_succ _))⟩
  | true =>
    rw [Bool.true_and]
    cases v1 with
    | false =>
      rw [Bool.false_and]
      go_enter Tryd.func31, Tryd.ntmps31
      go_wp2_with (first
        | (go_at_call 65; (with_reducible refine (H0.out _).mono ?_); rintro x w1 ⟨rfl, hb1⟩; have r1 := R0.out.trans (hb1.mono (by simp)); have hz1 : w.heap.size + 1 ≤ w1.heap.size := (by have := r1.size; simpa using this); obtain ⟨k0, k1, k2, k3, k4⟩ := KEEP.out _ r1; clear hb1)
        | (go_at_call 65; (with_reducible refine (H1.out _).mono ?_); rintro x w2 ⟨rfl, hb2⟩; have r2 := r1.trans (hb2.mono hz1); have hz2 : w.heap.size + 1 ≤ w2.heap.size := (by have := r2.size; simpa using this); clear k0 k1 k2 k3 k4; obtain ⟨k0, k1, k2, k3, k4⟩ := KEEP.out _ r2; clear hb2)
        | (go_at_call 65; (with_reducible refine (H2.out _).mono ?_); rintro x w3 ⟨rfl, hb3⟩; have r3 := r2.trans (hb3.mono hz2); have hz3 : w.heap.size + 1 ≤ w3.heap.size := (by have := r3.size; simpa using this); clear k0 k1 k2 k3 k4; obtain ⟨k0, k1, k2, k3, k4⟩ := KEEP.out _ r3; clear hb3)
        | (go_at_call 65; (with_reducible refine (H3.out _).mono ?_); rintro x w4 ⟨rfl, hb4⟩; have r4 := r3.trans (hb4.mono hz3); clear k0 k1 k2 k3 k4; obtain ⟨k0, k1, k2, k3, k4⟩ := KEEP.out _ r4; clear hb4)
        | (go_at_call 66; refine (HTI.out _).mono ?_; rintro x wq ⟨rfl, rfl⟩))
      go_ret
      exact ⟨rfl, HA0.out.trans (r2.mono (Nat.le_succ _))⟩
    | true =>
      rw [Bool.true_and]
      cases v2 with
      | false =>
        rw [Bool.false_and]
        go_enter Tryd.func31, Tryd.ntmps31
        go_wp2_with (first
          | (go_at_call 65; (with_reducible refine (H0.out _).mono ?_); rintro x w1 ⟨rfl, hb1⟩; have r1 := R0.out.trans (hb1.mono (by simp)); have hz1 : w.heap.size + 1 ≤ w1.heap.size := (by have := r1.size; simpa using this); obtain ⟨k0, k1, k2, k3, k4⟩ := KEEP.out _ r1; clear hb1)
          | (go_at_call 65; (with_reducible refine (H1.out _).mono ?_); rintro x w2 ⟨rfl, hb2⟩; have r2 := r1.trans (hb2.mono hz1); have hz2 : w.heap.size + 1 ≤ w2.heap.size := (by have := r2.size; simpa using this); clear k0 k1 k2 k3 k4; obtain ⟨k0, k1, k2, k3, k4⟩ := KEEP.out _ r2; clear hb2)
          | (go_at_call 65; (with_reducible refine (H2.out _).mono ?_); rintro x w3 ⟨rfl, hb3⟩; have r3 := r2.trans (hb3.mono hz2); have hz3 : w.heap.size + 1 ≤ w3.heap.size := (by have := r3.size; simpa using this); clear k0 k1 k2 k3 k4; obtain ⟨k0, k1, k2, k3, k4⟩ := KEEP.out _ r3; clear hb3)
          | (go_at_call 65; (with_reducible refine (H3.out _).mono ?_); rintro x w4 ⟨rfl, hb4⟩; have r4 := r3.trans (hb4.mono hz3); clear k0 k1 k2 k3 k4; obtain ⟨k0, k1, k2, k3, k4⟩ := KEEP.out _ r4; clear hb4)
          | (go_at_call 66; refine (HTI.out _).mono ?_; rintro x wq ⟨rfl, rfl⟩))
        go_ret
        exact ⟨rfl, HA0.out.trans (r3.mono (Nat.le_succ _))⟩
      | true =>
        rw [Bool.true_and]
        cases v3 with
        | false =>
          rw [Bool.false_and]
          go_enter Tryd.func31, Tryd.ntmps31
          go_wp2_with (first
            | (go_at_call 65; (with_reducible refine (H0.out _).mono ?_); rintro x w1 ⟨rfl, hb1⟩; have r1 := R0.out.trans (hb1.mono (by simp)); have hz1 : w.heap.size + 1 ≤ w1.heap.size := (by have := r1.size; simpa using this); obtain ⟨k0, k1, k2, k3, k4⟩ := KEEP.out _ r1; clear hb1)
            | (go_at_call 65; (with_reducible refine (H1.out _).mono ?_); rintro x w2 ⟨rfl, hb2⟩; have r2 := r1.trans (hb2.mono hz1); have hz2 : w.heap.size + 1 ≤ w2.heap.size := (by have := r2.size; simpa using this); clear k0 k1 k2 k3 k4; obtain ⟨k0, k1, k2, k3, k4⟩ := KEEP.out _ r2; clear hb2)
            | (go_at_call 65; (with_reducible refine (H2.out _).mono ?_); rintro x w3 ⟨rfl, hb3⟩; have r3 := r2.trans (hb3.mono hz2); have hz3 : w.heap.size + 1 ≤ w3.heap.size := (by have := r3.size; simpa using this); clear k0 k1 k2 k3 k4; obtain ⟨k0, k1, k2, k3, k4⟩ := KEEP.out _ r3; clear hb3)
            | (go_at_call 65; (with_reducible refine (H3.out _).mono ?_); rintro x w4 ⟨rfl, hb4⟩; have r4 := r3.trans (hb4.mono hz3); clear k0 k1 k2 k3 k4; obtain ⟨k0, k1, k2, k3, k4⟩ := KEEP.out _ r4; clear hb4)
            | (go_at_call 66; refine (HTI.out _).mono ?_; rintro x wq ⟨rfl, rfl⟩))
          go_ret
          exact ⟨rfl, HA0.out.trans (r4.mono (Nat.le_succ _))⟩
        | true =>
          rw [Bool.true_and]
          cases hi : e.id.isEmpty with
          | true =>
            have t2 : (e.id == []) = true := by cases h : e.id with | nil => rfl | cons _ _ => rw [h] at hi; cases hi
            rw [Bool.not_true, Bool.false_and]
            go_enter Tryd.func31, Tryd.ntmps31
            go_wp2_with (first
              | (go_at_call 65; (with_reducible refine (H0.out _).mono ?_); rintro x w1 ⟨rfl, hb1⟩; have r1 := R0.out.trans (hb1.mono (by simp)); have hz1 : w.heap.size + 1 ≤ w1.heap.size := (by have := r1.size; simpa using this); obtain ⟨k0, k1, k2, k3, k4⟩ := KEEP.out _ r1; clear hb1)
              | (go_at_call 65; (with_reducible refine (H1.out _).mono ?_); rintro x w2 ⟨rfl, hb2⟩; have r2 := r1.trans (hb2.mono hz1); have hz2 : w.heap.size + 1 ≤ w2.heap.size := (by have := r2.size; simpa using this); clear k0 k1 k2 k3 k4; obtain ⟨k0, k1, k2, k3, k4⟩ := KEEP.out _ r2; clear hb2)
              | (go_at_call 65; (with_reducible refine (H2.out _).mono ?_); rintro x w3 ⟨rfl, hb3⟩; have r3 := r2.trans (hb3.mono hz2); have hz3 : w.heap.size + 1 ≤ w3.heap.size := (by have := r3.size; simpa using this); clear k0 k1 k2 k3 k4; obtain ⟨k0, k1, k2, k3, k4⟩ := KEEP.out _ r3; clear hb3)
              | (go_at_call 65; (with_reducible refine (H3.out _).mono ?_); rintro x w4 ⟨rfl, hb4⟩; have r4 := r3.trans (hb4.mono hz3); clear k0 k1 k2 k3 k4; obtain ⟨k0, k1, k2, k3, k4⟩ := KEEP.out _ r4; clear hb4)
              | (go_at_call 66; refine (HTI.out _).mono ?_; rintro x wq ⟨rfl, rfl⟩))
            go_ret
            exact ⟨rfl, HA0.out.trans (r4.mono (Nat.le_succ _))⟩
          | false =>
            have t2 : (e.id == []) = false := by cases h : e.id with | nil => rw [h] at hi; cases hi | cons _ _ => rfl
            rw [Bool.not_false, Bool.true_and]
            cases q with
            | false =>
              go_enter Tryd.func31, Tryd.ntmps31
              go_wp2_with (first
                | (go_at_call 65; (with_reducible refine (H0.out _).mono ?_); rintro x w1 ⟨rfl, hb1⟩; have r1 := R0.out.trans (hb1.mono (by simp)); have hz1 : w.heap.size + 1 ≤ w1.heap.size := (by have := r1.size; simpa using this); obtain ⟨k0, k1, k2, k3, k4⟩ := KEEP.out _ r1; clear hb1)
                | (go_at_call 65; (with_reducible refine (H1.out _).mono ?_); rintro x w2 ⟨rfl, hb2⟩; have r2 := r1.trans (hb2.mono hz1); have hz2 : w.heap.size + 1 ≤ w2.heap.size := (by have := r2.size; simpa using this); clear k0 k1 k2 k3 k4; obtain ⟨k0, k1, k2, k3, k4⟩ := KEEP.out _ r2; clear hb2)
                | (go_at_call 65; (with_reducible refine (H2.out _).mono ?_); rintro x w3 ⟨rfl, hb3⟩; have r3 := r2.trans (hb3.mono hz2); have hz3 : w.heap.size + 1 ≤ w3.heap.size := (by have := r3.size; simpa using this); clear k0 k1 k2 k3 k4; obtain ⟨k0, k1, k2, k3, k4⟩ := KEEP.out _ r3; clear hb3)
                | (go_at_call 65; (with_reducible refine (H3.out _).mono ?_); rintro x w4 ⟨rfl, hb4⟩; have r4 := r3.trans (hb4.mono hz3); clear k0 k1 k2 k3 k4; obtain ⟨k0, k1, k2, k3, k4⟩ := KEEP.out _ r4; clear hb4)
                | (go_at_call 66; refine (HTI.out _).mono ?_; rintro x wq ⟨rfl, rfl⟩))
              go_ret
              exact ⟨rfl, HA0.out.trans (r4.mono (Nat.le_succ _))⟩
            | true =>
              go_enter Tryd.func31, Tryd.ntmps31
              go_wp2_with (first
                | (go_at_call 65; (with_reducible refine (H0.out _).mono ?_); rintro x w1 ⟨rfl, hb1⟩; have r1 := R0.out.trans (hb1.mono (by simp)); have hz1 : w.heap.size + 1 ≤ w1.heap.size := (by have := r1.size; simpa using this); obtain ⟨k0, k1, k2, k3, k4⟩ := KEEP.out _ r1; clear hb1)
                | (go_at_call 65; (with_reducible refine (H1.out _).mono ?_); rintro x w2 ⟨rfl, hb2⟩; have r2 := r1.trans (hb2.mono hz1); have hz2 : w.heap.size + 1 ≤ w2.heap.size := (by have := r2.size; simpa using this); clear k0 k1 k2 k3 k4; obtain ⟨k0, k1, k2, k3, k4⟩ := KEEP.out _ r2; clear hb2)
                | (go_at_call 65; (with_reducible refine (H2.out _).mono ?_); rintro x w3 ⟨rfl, hb3⟩; have r3 := r2.trans (hb3.mono hz2); have hz3 : w.heap.size + 1 ≤ w3.heap.size := (by have := r3.size; simpa using this); clear k0 k1 k2 k3 k4; obtain ⟨k0, k1, k2, k3, k4⟩ := KEEP.out _ r3; clear hb3)
                | (go_at_call 65; (with_reducible refine (H3.out _).mono ?_); rintro x w4 ⟨rfl, hb4⟩; have r4 := r3.trans (hb4.mono hz3); clear k0 k1 k2 k3 k4; obtain ⟨k0, k1, k2, k3, k4⟩ := KEEP.out _ r4; clear hb4)
                | (go_at_call 66; refine (HTI.out _).mono ?_; rintro x wq ⟨rfl, rfl⟩))
              go_ret
              exact ⟨rfl, HA0.out.trans (r4.mono (Nat.le_succ _))⟩
end Go.Proofs.YtadkgjbidhfefaaDoor
