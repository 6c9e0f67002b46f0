/-
  Walks of chapter 13: which feeds are valid (the reference).
-/
import Derived.Test.YtadkgjbidhfefaaDoorZChkF13
set_option linter.unusedVariables false
set_option linter.unusedSimpArgs false
namespace Go.Proofs.YtadkgjbidhfefaaDoor
open Go.RowKit

theorem drop_ids {α : Type} {f : α → Bytes} {l : List α} {i j : Nat} (h : j < i) (hi : i ≤ l.length) : ((l.take i).map f).drop j = f (l[j]'(by omega)) :: ((l.take i).map f).drop (j + 1) := by
  rw [List.drop_eq_getElem_cons (by simp; omega)]
  simp
def okP (s : Bytes) : Bool := !s.isEmpty && vldT s
theorem okP_all : ∀ l : List Bytes, l.all okP = (!(l.contains []) && l.all vldT)
  | [] => rfl
  | s :: l => by
    rw [List.all_cons, List.all_cons, okP_all l, List.contains_cons]
    unfold okP
    cases s with
    | nil => rfl
    | cons c s =>
      have : (([] : Bytes) == c :: s) = false := rfl
      rw [this]
      cases vldT (c :: s) <;> simp
set_option maxHeartbeats 16000000 in
set_option maxRecDepth 100000 in
theorem refCheckFeed_any (f : Fe) (u : Value) (w : World) (hs : FSz f) (hu : FeeV w (· < w.heap.size) f u) :
    Calls Tryd.prog 29 #[u] w fun x w' => x = .returned (.int .i64 (er13 (vldF f))) ∧ Below w.heap.size w w' := by
  obtain ⟨PA, pc, EA, ec, rfl, hp, he, hpc, hec⟩ := hu.open_
  have hA0 : Below w.heap.size w (w.alloc (feeBox f PA pc EA ec)) := (Below.refl _ _).alloc (Nat.le_refl _) _
  have h0 := fun W => refValidT_any f.id W (by have := hs.head; omega)
  have h1 := fun W => refValidT_any f.title W (by have := hs.head; omega)
  have h2 := fun W => refValidT_any f.link W (by have := hs.head; omega)
  have hti := fun W => refInTime_any f.upd W
  have hkp : ∀ W, Below (w.heap.size + 1) (w.alloc (feeBox f PA pc EA ec)) W → W.cell? ⟨w.heap.size, 0, none⟩ = some (.slice PA f.path.length pc) ∧ W.cell? ⟨w.heap.size, 1, none⟩ = some (.string (S f.id)) ∧ W.cell? ⟨w.heap.size, 2, none⟩ = some (.string (S f.title)) ∧ W.cell? ⟨w.heap.size, 3, none⟩ = some (.string (S f.link)) ∧ W.cell? ⟨w.heap.size, 4, none⟩ = some (.int .i64 f.upd) ∧ W.cell? ⟨w.heap.size, 5, none⟩ = some (.slice EA f.ents.length ec) := fun W hW =>
    cells6 ((hW.block w.heap.size (by omega)).trans (heap_alloc_new w (feeBox f PA pc EA ec)))
  have KEEP := Lib.hid hkp
  have HA0 := Lib.hid hA0
  have R0 := Lib.hid (show Below (w.heap.size + 1) (w.alloc (feeBox f PA pc EA ec)) (w.alloc (feeBox f PA pc EA ec)) from Below.refl _ _)
  have hv : vldF f = (decide (f.path.length ≤ 64) && (vldT f.id && (vldT f.title && (vldT f.link && (!f.id.isEmpty && (inT f.upd && (f.path.all okP && ordEs f.ents))))))) := by
    unfold vldF strsF
    rw [okP_all]
    simp only [List.all_cons, List.all_nil, Bool.and_true]
    cases decide (f.path.length ≤ 64) <;> cases f.id.isEmpty <;> cases inT f.upd <;> cases vldT f.id <;> cases vldT f.title <;> cases vldT f.link <;> cases f.path.contains [] <;> cases f.path.all vldT <;> rfl
  rw [hv]
  obtain ⟨QP, hqp⟩ : ∃ QP, f.path.all okP = QP := ⟨_, rfl⟩
  rw [hqp]
  obtain ⟨R, hR⟩ : ∃ R, ordEs f.ents = R := ⟨_, rfl⟩
  rw [hR]
  have HR0 := Lib.hid (show ordG vldE cmpE En.id ((f.ents).take 0) ((f.ents).drop 0) = R from hR)
  clear hR
  have HQP := Lib.hid (show (f.path.drop 0).all okP = QP from hqp)
  have HP := Lib.hid hp
  have HL := Lib.hid he
  have HS := Lib.hid hs
  have HTI := Lib.hid hti
  have hpl : f.path.length ≤ 1000000 := by have := hs.path; omega
  have hel : f.ents.length ≤ 1000000 := hs.many
  clear hkp hv hti hA0 hqp hp he hs hu
  generalize vldT f.id = v0 at *
  generalize vldT f.title = v1 at *
  generalize vldT f.link = v2 at *
  generalize inT f.upd = q at *
  have H0 := Lib.hid h0
  have H1 := Lib.hid h1
  have H2 := Lib.hid h2
  clear h0 h1 h2
  by_cases h64 : f.path.length ≤ 64
  · have q64 : ¬ (64 : Int) < f.path.length := by omega
    rw [decide_eq_true h64, Bool.true_and]
    clear h64
    cases v0 with
    | false =>
      rw [Bool.false_and]
      go_enter Tryd.func29, Tryd.ntmps29
      go_wp2_with (first
        | (go_at_call 65; (with_reducible refine (H0.out _).mono ?_); rintro x w1 ⟨rfl, hb1⟩; have r1 := R0.out.trans (hb1.mono (by simp)); have hz1 : w.heap.size + 1 ≤ w1.heap.size := (by have := r1.size; simpa using this); obtain ⟨k0, k1, k2, k3, k4, k5⟩ := KEEP.out _ r1; clear hb1)
        | (go_at_call 65; (with_reducible refine (H1.out _).mono ?_); rintro x w2 ⟨rfl, hb2⟩; have r2 := r1.trans (hb2.mono hz1); have hz2 : w.heap.size + 1 ≤ w2.heap.size := (by have := r2.size; simpa using this); clear k0 k1 k2 k3 k4 k5; obtain ⟨k0, k1, k2, k3, k4, k5⟩ := KEEP.out _ r2; clear hb2)
        | (go_at_call 65; (with_reducible refine (H2.out _).mono ?_); rintro x w3 ⟨rfl, hb3⟩; have r3 := r2.trans (hb3.mono hz2); have hz3 : w.heap.size + 1 ≤ w3.heap.size := (by have := r3.size; simpa using this); clear k0 k1 k2 k3 k4 k5; obtain ⟨k0, k1, k2, k3, k4, k5⟩ := KEEP.out _ r3; clear hb3)
        | (go_at_call 66; refine (HTI.out _).mono ?_; rintro x w3 ⟨rfl, rfl⟩))
      go_ret
      exact ⟨rfl, HA0.out.trans (r1.mono (Nat.le_succ _))⟩
    | true =>
      rw [Bool.true_and]
      cases v1 with
      | false =>
        rw [Bool.false_and]
        go_enter Tryd.func29, Tryd.ntmps29
        go_wp2_with (first
          | (go_at_call 65; (with_reducible refine (H0.out _).mono ?_); rintro x w1 ⟨rfl, hb1⟩; have r1 := R0.out.trans (hb1.mono (by simp)); have hz1 : w.heap.size + 1 ≤ w1.heap.size := (by have := r1.size; simpa using this); obtain ⟨k0, k1, k2, k3, k4, k5⟩ := KEEP.out _ r1; clear hb1)
          | (go_at_call 65; (with_reducible refine (H1.out _).mono ?_); rintro x w2 ⟨rfl, hb2⟩; have r2 := r1.trans (hb2.mono hz1); have hz2 : w.heap.size + 1 ≤ w2.heap.size := (by have := r2.size; simpa using this); clear k0 k1 k2 k3 k4 k5; obtain ⟨k0, k1, k2, k3, k4, k5⟩ := KEEP.out _ r2; clear hb2)
          | (go_at_call 65; (with_reducible refine (H2.out _).mono ?_); rintro x w3 ⟨rfl, hb3⟩; have r3 := r2.trans (hb3.mono hz2); have hz3 : w.heap.size + 1 ≤ w3.heap.size := (by have := r3.size; simpa using this); clear k0 k1 k2 k3 k4 k5; obtain ⟨k0, k1, k2, k3, k4, k5⟩ := KEEP.out _ r3; clear hb3)
          | (go_at_call 66; refine (HTI.out _).mono ?_; rintro x w3 ⟨rfl, rfl⟩))
        go_ret
        exact ⟨rfl, HA0.out.trans (r2.mono (Nat.le_succ _))⟩
      | true =>
        rw [Bool.true_and]
        cases v2 with
        | false =>
          rw [Bool.false_and]
          go_enter Tryd.func29, Tryd.ntmps29
          go_wp2_with (first
            | (go_at_call 65; (with_reducible refine (H0.out _).mono ?_); rintro x w1 ⟨rfl, hb1⟩; have r1 := R0.out.trans (hb1.mono (by simp)); have hz1 : w.heap.size + 1 ≤ w1.heap.size := (by have := r1.size; simpa using this); obtain ⟨k0, k1, k2, k3, k4, k5⟩ := KEEP.out _ r1; clear hb1)
            | (go_at_call 65; (with_reducible refine (H1.out _).mono ?_); rintro x w2 ⟨rfl, hb2⟩; have r2 := r1.trans (hb2.mono hz1); have hz2 : w.heap.size + 1 ≤ w2.heap.size := (by have := r2.size; simpa using this); clear k0 k1 k2 k3 k4 k5; obtain ⟨k0, k1, k2, k3, k4, k5⟩ := KEEP.out _ r2; clear hb2)
            | (go_at_call 65; (with_reducible refine (H2.out _).mono ?_); rintro x w3 ⟨rfl, hb3⟩; have r3 := r2.trans (hb3.mono hz2); have hz3 : w.heap.size + 1 ≤ w3.heap.size := (by have := r3.size; simpa using this); clear k0 k1 k2 k3 k4 k5; obtain ⟨k0, k1, k2, k3, k4, k5⟩ := KEEP.out _ r3; clear hb3)
            | (go_at_call 66; refine (HTI.out _).mono ?_; rintro x w3 ⟨rfl, rfl⟩))
          go_ret
          exact ⟨rfl, HA0.out.trans (r3.mono (Nat.le_succ _))⟩
        | true =>
          rw [Bool.true_and]
          cases hi : f.id.isEmpty with
          | true =>
            have t2 : (f.id == []) = true := by cases h : f.id with | nil => rfl | cons _ _ => rw [h] at hi; cases hi
            rw [Bool.not_true, Bool.false_and]
            go_enter Tryd.func29, Tryd.ntmps29
            go_wp2_with (first
              | (go_at_call 65; (with_reducible refine (H0.out _).mono ?_); rintro x w1 ⟨rfl, hb1⟩; have r1 := R0.out.trans (hb1.mono (by simp)); have hz1 : w.heap.size + 1 ≤ w1.heap.size := (by have := r1.size; simpa using this); obtain ⟨k0, k1, k2, k3, k4, k5⟩ := KEEP.out _ r1; clear hb1)
              | (go_at_call 65; (with_reducible refine (H1.out _).mono ?_); rintro x w2 ⟨rfl, hb2⟩; have r2 := r1.trans (hb2.mono hz1); have hz2 : w.heap.size + 1 ≤ w2.heap.size := (by have := r2.size; simpa using this); clear k0 k1 k2 k3 k4 k5; obtain ⟨k0, k1, k2, k3, k4, k5⟩ := KEEP.out _ r2; clear hb2)
              | (go_at_call 65; (with_reducible refine (H2.out _).mono ?_); rintro x w3 ⟨rfl, hb3⟩; have r3 := r2.trans (hb3.mono hz2); have hz3 : w.heap.size + 1 ≤ w3.heap.size := (by have := r3.size; simpa using this); clear k0 k1 k2 k3 k4 k5; obtain ⟨k0, k1, k2, k3, k4, k5⟩ := KEEP.out _ r3; clear hb3)
              | (go_at_call 66; refine (HTI.out _).mono ?_; rintro x w3 ⟨rfl, rfl⟩))
            go_ret
            exact ⟨rfl, HA0.out.trans (r3.mono (Nat.le_succ _))⟩
          | false =>
            have t2 : (f.id == []) = false := by cases h : f.id with | nil => rw [h] at hi; cases hi | cons _ _ => rfl
            rw [Bool.not_false, Bool.true_and]
            cases q with
            | false =>
              rw [Bool.false_and]
              go_enter Tryd.func29, Tryd.ntmps29
              go_wp2_with (first
                | (go_at_call 65; (with_reducible refine (H0.out _).mono ?_); rintro x w1 ⟨rfl, hb1⟩; have r1 := R0.out.trans (hb1.mono (by simp)); have hz1 : w.heap.size + 1 ≤ w1.heap.size := (by have := r1.size; simpa using this); obtain ⟨k0, k1, k2, k3, k4, k5⟩ := KEEP.out _ r1; clear hb1)
                | (go_at_call 65; (with_reducible refine (H1.out _).mono ?_); rintro x w2 ⟨rfl, hb2⟩; have r2 := r1.trans (hb2.mono hz1); have hz2 : w.heap.size + 1 ≤ w2.heap.size := (by have := r2.size; simpa using this); clear k0 k1 k2 k3 k4 k5; obtain ⟨k0, k1, k2, k3, k4, k5⟩ := KEEP.out _ r2; clear hb2)
                | (go_at_call 65; (with_reducible refine (H2.out _).mono ?_); rintro x w3 ⟨rfl, hb3⟩; have r3 := r2.trans (hb3.mono hz2); have hz3 : w.heap.size + 1 ≤ w3.heap.size := (by have := r3.size; simpa using this); clear k0 k1 k2 k3 k4 k5; obtain ⟨k0, k1, k2, k3, k4, k5⟩ := KEEP.out _ r3; clear hb3)
                | (go_at_call 66; refine (HTI.out _).mono ?_; rintro x w3 ⟨rfl, rfl⟩))
              go_ret
              exact ⟨rfl, HA0.out.trans (r3.mono (Nat.le_succ _))⟩
            | true =>
              rw [Bool.true_and]
              go_enter Tryd.func29, Tryd.ntmps29
              go_wp2_with (first
                | (go_at_call 65; (with_reducible refine (H0.out _).mono ?_); rintro x w1 ⟨rfl, hb1⟩; have r1 := R0.out.trans (hb1.mono (by simp)); have hz1 : w.heap.size + 1 ≤ w1.heap.size := (by have := r1.size; simpa using this); obtain ⟨k0, k1, k2, k3, k4, k5⟩ := KEEP.out _ r1; clear hb1)
                | (go_at_call 65; (with_reducible refine (H1.out _).mono ?_); rintro x w2 ⟨rfl, hb2⟩; have r2 := r1.trans (hb2.mono hz1); have hz2 : w.heap.size + 1 ≤ w2.heap.size := (by have := r2.size; simpa using this); clear k0 k1 k2 k3 k4 k5; obtain ⟨k0, k1, k2, k3, k4, k5⟩ := KEEP.out _ r2; clear hb2)
                | (go_at_call 65; (with_reducible refine (H2.out _).mono ?_); rintro x w3 ⟨rfl, hb3⟩; have r3 := r2.trans (hb3.mono hz2); have hz3 : w.heap.size + 1 ≤ w3.heap.size := (by have := r3.size; simpa using this); clear k0 k1 k2 k3 k4 k5; obtain ⟨k0, k1, k2, k3, k4, k5⟩ := KEEP.out _ r3; clear hb3)
                | (go_at_call 66; refine (HTI.out _).mono ?_; rintro x w3 ⟨rfl, rfl⟩))
              have HW3 := Lib.hid (HA0.out.trans (r3.mono (Nat.le_succ _)))
              have HX3 := Lib.hid ((r3.block w.heap.size (by omega)).trans (heap_alloc_new w (feeBox f PA pc EA ec)))
              clear r1 r2 r3 k0 k1 k2 k3 k4 k5
              go_loopw [3] (fun i3 wr => ∃ i : Nat, i ≤ f.path.length ∧ i3 = .int .i64 i ∧ (f.path.drop i).all okP = QP ∧ Below w.heap.size w wr ∧ wr.heap[w.heap.size]? = some (feeBox f PA pc EA ec)) (fun i3 _ => f.path.length - (intOf i3).toNat)
              case atStart => exact ⟨0, Nat.zero_le _, rfl, HQP.out, HW3.out, HX3.out⟩
              case round =>
                obtain ⟨i, hi0, rfl, hres, hb, hX⟩ := hrel
                have HB := Lib.hid hb
                have HX := Lib.hid hX
                have hsz := hb.size
                have hwx := heap_lt hX
                obtain ⟨k0, k1, k2, k3, k4, k5⟩ := cells6 hX
                clear hb hX HW3 HX3
                by_cases hlt : i < f.path.length
                · have hlt' : (i : Int) < f.path.length := by omega
                  obtain ⟨b, off, rfl, hpb, hc1⟩ := strs_cell (HP.out.keep strE_ok HB.out.block (fun _ h => h)) hlt
                  have hxl := HS.out.each _ (List.getElem_mem hlt)
                  rw [List.drop_eq_getElem_cons hlt, List.all_cons] at hres
                  generalize f.path[i] = s at *
                  cases he : s.isEmpty with
                  | true =>
                    have hs0 : s = [] := by cases s with | nil => rfl | cons _ _ => cases he
                    subst hs0
                    have hq : QP = false := by rw [← hres]; rfl
                    have HRR := Lib.hid hq
                    clear hres hq he
                    go_wp2_with fail
                    go_ret
                    exact ⟨ret_int (by rw [HRR.out]; rfl), HB.out⟩
                  | false =>
                    have t4 : (s == []) = false := by cases h : s with | nil => rw [h] at he; cases he | cons _ _ => rfl
                    have hv := fun W => refValidT_any s W hxl
                    unfold okP at hres
                    rw [he, Bool.not_false, Bool.true_and] at hres
                    cases hu : vldT s with
                    | false =>
                      rw [hu] at hv hres
                      have hq : QP = false := by rw [← hres]; rfl
                      have HRR := Lib.hid hq
                      have HV := Lib.hid hv
                      clear hres hq hv hu
                      go_wp2_with (go_at_call 65; refine (HV.out _).mono ?_; rintro x w5 ⟨rfl, hb5⟩)
                      go_ret
                      exact ⟨ret_int (by rw [HRR.out]; rfl), HB.out.trans (hb5.mono hsz)⟩
                    | true =>
                      rw [hu] at hv hres
                      rw [Bool.true_and] at hres
                      have HRES := Lib.hid hres
                      have HV := Lib.hid hv
                      clear hres hv hu
                      go_wp2_with (go_at_call 65; refine (HV.out _).mono ?_; rintro x w5 ⟨rfl, hb5⟩)
                      go_roundw
                      case rel => exact ⟨i + 1, by omega, by go_num, HRES.out, HB.out.trans (hb5.mono hsz), (hb5.block _ hwx).trans HX.out⟩
                      case measure => simp [intOf]; omega
                · obtain rfl : i = f.path.length := by omega
                  rw [List.drop_length] at hres
                  have hq : QP = true := by rw [← hres]; rfl
                  have hlt' : ¬ ((f.path.length : Int) < f.path.length) := by omega
                  have HQT := Lib.hid hq
                  have HW0 := Lib.hid HB.out
                  have HX0 := Lib.hid HX.out
                  clear hres hq hlt HQP
                  clear HB HX
                  go_wp2_with fail
                  clear k0 k1 k2 k3 k4 k5
                  obtain ⟨wo, rfl⟩ : ∃ wo : World, wo = wr := ⟨_, rfl⟩
                  go_loopw [4] (fun i4 wr => ∃ i : Nat, i ≤ f.ents.length ∧ i4 = .int .i64 i ∧ ordG vldE cmpE En.id ((f.ents).take i) ((f.ents).drop i) = R ∧ Below w.heap.size w wr ∧ wr.heap[w.heap.size]? = some (feeBox f PA pc EA ec)) (fun i4 _ => f.ents.length - (intOf i4).toNat)
                  case atStart => exact ⟨0, Nat.zero_le _, rfl, HR0.out, HW0.out, HX0.out⟩
                  case round =>
                    obtain ⟨i, hi, rfl, hres, hb, hX⟩ := hrel
                    have HX := Lib.hid hX
                    have hwx := heap_lt hX
                    have hhd := (cells6 hX).2.2.2.2.2
                    have HB := Lib.hid hb
                    have hsz := hb.size
                    clear hb HR0 HW0 HX0 hX
                    by_cases hlt : i < f.ents.length
                    · have hlt' : (i : Int) < f.ents.length := by omega
                      obtain ⟨b, off, rfl, hpb, hr⟩ := ents_at (HL.out.keep entE_ok HB.out.block (fun _ h => h)) hlt
                      have hxs := HS.out.ents _ (List.getElem_mem hlt)
                      have hbl : b < wr.heap.size := Nat.lt_of_lt_of_le hpb hsz
                      have hdr : ∀ W, Below wr.heap.size wr W → W.cell? ⟨w.heap.size, 5, none⟩ = some (.slice (some ⟨b, off, none⟩) f.ents.length ec) := fun W hW => (hW.cell (p := ⟨w.heap.size, 5, none⟩) hwx).trans hhd
                      have HDR := Lib.hid hdr
                      have hst0 : i = 0 → (vldE f.ents[i] && ordG vldE cmpE En.id ((f.ents).take (i + 1)) ((f.ents).drop (i + 1))) = R := fun h => by subst h; rw [← hres, ordG_zero hlt]
                      have hst1 : ∀ h : 0 < i, (vldE f.ents[i] && decide (cmpE (f.ents[i - 1]'(by omega)) f.ents[i] < 0) && !((((f.ents).take i).map En.id).contains f.ents[i].id) && ordG vldE cmpE En.id ((f.ents).take (i + 1)) ((f.ents).drop (i + 1))) = R := fun h => by rw [← hres, ordG_step hlt h]
                      have hpr : ∀ h : 0 < i, wr.rangeAt b (off + (i - 1) * 5) (entCells (f.ents[i - 1]'(by omega))) ∧ True := fun h => by
                        obtain ⟨b', off', hA, _, hr'⟩ := ents_at (HL.out.keep entE_ok HB.out.block (fun _ h => h)) (show i - 1 < f.ents.length by omega)
                        cases hA
                        exact ⟨hr', trivial⟩
                      have hcj : ∀ (j : Nat) (hj : j < f.ents.length) W, Below wr.heap.size wr W → W.cell? ⟨w.heap.size, 5, none⟩ = some (.slice (some ⟨b, off, none⟩) f.ents.length ec) ∧ W.cell? ⟨b, off + j * 5, none⟩ = some (.string (S (f.ents[j]'hj).id)) ∧ W.cell? ⟨b, off + i * 5, none⟩ = some (.string (S (f.ents[i]'hlt).id)) := fun j hj W hW => by
                        obtain ⟨b', off', hA, _, hr'⟩ := ents_at (HL.out.keep entE_ok HB.out.block (fun _ h => h)) hj
                        cases hA
                        exact ⟨HDR.out W hW, (hW.cell (p := ⟨b, off + j * 5, none⟩) hbl).trans (hr' 0 _ rfl), (hW.cell (p := ⟨b, off + i * 5, none⟩) hbl).trans (hr 0 _ rfl)⟩
                      obtain ⟨q, hq⟩ : ∃ q, (((f.ents).take i).map En.id).contains f.ents[i].id = q := ⟨_, rfl⟩
                      have hq0 : i = 0 → q = false := fun h => by subst h; rw [← hq]; rfl
                      rw [hq] at hst1
                      have HCJ := Lib.hid hcj
                      clear hres hcj hdr
                      have hxc : f.ents[i] = f.ents[i] := rfl
                      generalize f.ents[i] = X at *
                      have HQ := Lib.hid (show ((((f.ents).take i).map En.id).drop 0).contains X.id = q from hq)
                      generalize hN : ordG vldE cmpE En.id ((f.ents).take (i + 1)) ((f.ents).drop (i + 1)) = N at *
                      have HN := Lib.hid hN
                      have hck := fun W => fun (hW : Below wr.heap.size wr W) => refCheckEntry_any X W hxs
                      have hxk : ∀ W, Below wr.heap.size wr W → W.cell? ⟨w.heap.size, 5, none⟩ = some (.slice (some ⟨b, off, none⟩) f.ents.length ec) ∧ W.cell? ⟨b, off + i * 5, none⟩ = some (.string (S X.id)) ∧ W.cell? ⟨b, off + i * 5 + 1, none⟩ = some (.string (S X.title)) ∧ W.cell? ⟨b, off + i * 5 + 2, none⟩ = some (.string (S X.link)) ∧ W.cell? ⟨b, off + i * 5 + 3, none⟩ = some (.string (S X.content)) ∧ W.cell? ⟨b, off + i * 5 + 4, none⟩ = some (.int .i64 X.upd) := fun W hW => by
                        have hr2 := rangeAt_keep hr (hW.block b hbl)
                        exact ⟨HDR.out W hW, hr2 0 _ rfl, hr2 1 _ rfl, hr2 2 _ rfl, hr2 3 _ rfl, hr2 4 _ rfl⟩
                      have KX := Lib.hid hxk
                      clear hN hr hq hxk hxc
                      cases hc : vldE X with
                      | false =>
                        rw [hc] at hck hst0 hst1
                        rw [show er13 false = 22 from rfl] at hck
                        have hr : R = false := by
                          by_cases h : i = 0
                          · rw [← hst0 h]; rfl
                          · rw [← hst1 (by omega)]; rfl
                        have HCK := Lib.hid hck
                        have HRR := Lib.hid hr
                        have KEEP := KX
                        clear hck hst0 hst1 hq0 hpr hr hc
                        go_wp2_with fail
                        refine wp_region_held_drew (S := fun x => x.cell? ⟨w.heap.size, 5, none⟩ = some (.slice (some ⟨b, off, none⟩) f.ents.length ec) ∧ x.cell? ⟨b, off + i * 5, none⟩ = some (.string (S X.id)) ∧ x.cell? ⟨b, off + i * 5 + 1, none⟩ = some (.string (S X.title)) ∧ x.cell? ⟨b, off + i * 5 + 2, none⟩ = some (.string (S X.link)) ∧ x.cell? ⟨b, off + i * 5 + 3, none⟩ = some (.string (S X.content)) ∧ x.cell? ⟨b, off + i * 5 + 4, none⟩ = some (.int .i64 X.upd)) (by kernel_rfl) ?_ (fun hHeld => ?_)
                        · (try dsimp only); exact KEEP.out _ (Below.refl _ _).drew
                        refine wpAnyH_take (i := 0) (oi := (⟨some 68, _, _, _, _, _⟩ : Oper)) (v := ?_) rfl (by kernel_rfl) (by kernel_rfl) (by kernel_rfl) (fun _ _ _ h => h) (Or.inl ⟨by rfl, ?_⟩) (by assumption) ?_
                        rotate_left
                        · intro wS hSw; (try dsimp only at hSw); go_simp <;> with_reducible rfl
                        simp only [Act.put, List.setIfInBounds_toArray, List.set_cons_zero, List.set_cons_succ]
                        refine wpAnyH_take (i := 1) (oi := (⟨some 69, _, _, _, _, _⟩ : Oper)) (v := ?_) rfl (by kernel_rfl) (by kernel_rfl) (by kernel_rfl) (fun _ _ _ h => h) (Or.inl ⟨by rfl, ?_⟩) (by assumption) ?_
                        rotate_left
                        · intro wS hSw; (try dsimp only at hSw); go_simp <;> with_reducible rfl
                        simp only [Act.put, List.setIfInBounds_toArray, List.set_cons_zero, List.set_cons_succ]
                        refine wpAnyH_take (i := 2) (oi := (⟨some 70, _, _, _, _, _⟩ : Oper)) (v := ?_) rfl (by kernel_rfl) (by kernel_rfl) (by kernel_rfl) (fun _ _ _ h => h) (Or.inl ⟨by rfl, ?_⟩) (by assumption) ?_
                        rotate_left
                        · intro wS hSw; (try dsimp only at hSw); go_simp <;> with_reducible rfl
                        simp only [Act.put, List.setIfInBounds_toArray, List.set_cons_zero, List.set_cons_succ]
                        refine wpAnyH_take (i := 3) (oi := (⟨some 71, _, _, _, _, _⟩ : Oper)) (v := ?_) rfl (by kernel_rfl) (by kernel_rfl) (by kernel_rfl) (fun _ _ _ h => h) (Or.inl ⟨by rfl, ?_⟩) (by assumption) ?_
                        rotate_left
                        · intro wS hSw; (try dsimp only at hSw); go_simp <;> with_reducible rfl
                        simp only [Act.put, List.setIfInBounds_toArray, List.set_cons_zero, List.set_cons_succ]
                        refine wpAnyH_take (i := 4) (oi := (⟨some 72, _, _, _, _, _⟩ : Oper)) (v := ?_) rfl (by kernel_rfl) (by kernel_rfl) (by kernel_rfl) (fun _ _ _ h => h) (Or.inl ⟨by rfl, ?_⟩) (by assumption) ?_
                        rotate_left
                        · intro wS hSw; (try dsimp only at hSw); go_simp <;> with_reducible rfl
                        simp only [Act.put, List.setIfInBounds_toArray, List.set_cons_zero, List.set_cons_succ]
                        refine wpAnyH_ready (rs := [5]) (by kernel_rfl) (by simp) ?_
                        refine AllReadyH.cons (o := (⟨some 73, _, _, _, _, _⟩ : Oper)) rfl (fun K hK => ?_) ?_
                        rotate_left
                        · exact AllReadyH.nil
                        go_simp
                        (go_at_call 31; (with_reducible refine (HCK.out _ (Below.refl _ _).drew).mono ?_); rintro x w1 ⟨rfl, hb1⟩; have r1 := (Below.refl wr.heap.size wr).drew.trans hb1; have hz1 : wr.heap.size ≤ w1.heap.size := r1.size; clear hb1)
                        refine hK.out _ _ ?_ (fun hHeld => ?_)
                        · (try dsimp only); exact KEEP.out _ r1
                        clear hK K
                        try simp only [Act.put, List.setIfInBounds_toArray, List.set_cons_zero, List.set_cons_succ]
                        refine wpAnyH_take (i := 6) (oi := (⟨some 74, _, _, _, _, _⟩ : Oper)) (v := ?_) rfl (by kernel_rfl) (by kernel_rfl) (by kernel_rfl) (fun _ _ _ h => h) (Or.inl ⟨by rfl, ?_⟩) (by assumption) ?_
                        rotate_left
                        · intro wS hSw; (try dsimp only at hSw); go_simp <;> with_reducible rfl
                        simp only [Act.put, List.setIfInBounds_toArray, List.set_cons_zero, List.set_cons_succ]
                        refine wpAnyH_take (i := 7) (oi := (⟨some 75, _, _, _, _, _⟩ : Oper)) (v := ?_) rfl (by kernel_rfl) (by kernel_rfl) (by kernel_rfl) (fun _ _ _ h => h) (Or.inl ⟨by rfl, ?_⟩) (by assumption) ?_
                        rotate_left
                        · intro wS hSw; (try dsimp only at hSw); go_simp <;> with_reducible rfl
                        simp only [Act.put, List.setIfInBounds_toArray, List.set_cons_zero, List.set_cons_succ]
                        refine wpAnyH_take (i := 8) (oi := (⟨some 76, _, _, _, _, _⟩ : Oper)) (v := undef) rfl (by kernel_rfl) (by kernel_rfl) (by kernel_rfl) (fun _ _ _ h => h) (Or.inr ⟨by rfl, rfl⟩) (by assumption) ?_
                        simp only [Act.put, List.setIfInBounds_toArray, List.set_cons_zero, List.set_cons_succ]
                        refine wpAnyH_take (i := 9) (oi := (⟨some 77, _, _, _, _, _⟩ : Oper)) (v := undef) rfl (by kernel_rfl) (by kernel_rfl) (by kernel_rfl) (fun _ _ _ h => h) (Or.inr ⟨by rfl, rfl⟩) (by assumption) ?_
                        simp only [Act.put, List.setIfInBounds_toArray, List.set_cons_zero, List.set_cons_succ]
                        refine wpAnyH_take (i := 10) (oi := (⟨some 78, _, _, _, _, _⟩ : Oper)) (v := undef) rfl (by kernel_rfl) (by kernel_rfl) (by kernel_rfl) (fun _ _ _ h => h) (Or.inr ⟨by rfl, rfl⟩) (by assumption) ?_
                        simp only [Act.put, List.setIfInBounds_toArray, List.set_cons_zero, List.set_cons_succ]
                        refine wpAnyH_take (i := 11) (oi := (⟨some 79, _, _, _, _, _⟩ : Oper)) (v := undef) rfl (by kernel_rfl) (by kernel_rfl) (by kernel_rfl) (fun _ _ _ h => h) (Or.inr ⟨by rfl, rfl⟩) (by assumption) ?_
                        simp only [Act.put, List.setIfInBounds_toArray, List.set_cons_zero, List.set_cons_succ]
                        refine wpAnyH_take (i := 12) (oi := (⟨some 80, _, _, _, _, _⟩ : Oper)) (v := undef) rfl (by kernel_rfl) (by kernel_rfl) (by kernel_rfl) (fun _ _ _ h => h) (Or.inr ⟨by rfl, rfl⟩) (by assumption) ?_
                        simp only [Act.put, List.setIfInBounds_toArray, List.set_cons_zero, List.set_cons_succ]
                        refine wpAnyH_take (i := 13) (oi := (⟨some 81, _, _, _, _, _⟩ : Oper)) (v := undef) rfl (by kernel_rfl) (by kernel_rfl) (by kernel_rfl) (fun _ _ _ h => h) (Or.inr ⟨by rfl, rfl⟩) (by assumption) ?_
                        simp only [Act.put, List.setIfInBounds_toArray, List.set_cons_zero, List.set_cons_succ]
                        refine wpAnyH_take (i := 14) (oi := (⟨some 82, _, _, _, _, _⟩ : Oper)) (v := undef) rfl (by kernel_rfl) (by kernel_rfl) (by kernel_rfl) (fun _ _ _ h => h) (Or.inr ⟨by rfl, rfl⟩) (by assumption) ?_
                        simp only [Act.put, List.setIfInBounds_toArray, List.set_cons_zero, List.set_cons_succ]
                        refine wpAnyH_take (i := 15) (oi := (⟨some 83, _, _, _, _, _⟩ : Oper)) (v := undef) rfl (by kernel_rfl) (by kernel_rfl) (by kernel_rfl) (fun _ _ _ h => h) (Or.inr ⟨by rfl, rfl⟩) (by assumption) ?_
                        simp only [Act.put, List.setIfInBounds_toArray, List.set_cons_zero, List.set_cons_succ]
                        refine wpAnyH_take (i := 16) (oi := (⟨some 84, _, _, _, _, _⟩ : Oper)) (v := undef) rfl (by kernel_rfl) (by kernel_rfl) (by kernel_rfl) (fun _ _ _ h => h) (Or.inr ⟨by rfl, rfl⟩) (by assumption) ?_
                        simp only [Act.put, List.setIfInBounds_toArray, List.set_cons_zero, List.set_cons_succ]
                        refine wpAnyH_take (i := 17) (oi := (⟨some 85, _, _, _, _, _⟩ : Oper)) (v := undef) rfl (by kernel_rfl) (by kernel_rfl) (by kernel_rfl) (fun _ _ _ h => h) (Or.inr ⟨by rfl, rfl⟩) (by assumption) ?_
                        simp only [Act.put, List.setIfInBounds_toArray, List.set_cons_zero, List.set_cons_succ]
                        refine wpAnyH_take (i := 18) (oi := (⟨some 86, _, _, _, _, _⟩ : Oper)) (v := undef) rfl (by kernel_rfl) (by kernel_rfl) (by kernel_rfl) (fun _ _ _ h => h) (Or.inr ⟨by rfl, rfl⟩) (by assumption) ?_
                        simp only [Act.put, List.setIfInBounds_toArray, List.set_cons_zero, List.set_cons_succ]
                        refine wpAnyH_take (i := 19) (oi := (⟨some 87, _, _, _, _, _⟩ : Oper)) (v := undef) rfl (by kernel_rfl) (by kernel_rfl) (by kernel_rfl) (fun _ _ _ h => h) (Or.inr ⟨by rfl, rfl⟩) (by assumption) ?_
                        simp only [Act.put, List.setIfInBounds_toArray, List.set_cons_zero, List.set_cons_succ]
                        refine wpAnyH_take (i := 20) (oi := (⟨some 88, _, _, _, _, _⟩ : Oper)) (v := undef) rfl (by kernel_rfl) (by kernel_rfl) (by kernel_rfl) (fun _ _ _ h => h) (Or.inr ⟨by rfl, rfl⟩) (by assumption) ?_
                        simp only [Act.put, List.setIfInBounds_toArray, List.set_cons_zero, List.set_cons_succ]
                        refine wpAnyH_take (i := 21) (oi := (⟨some 89, _, _, _, _, _⟩ : Oper)) (v := undef) rfl (by kernel_rfl) (by kernel_rfl) (by kernel_rfl) (fun _ _ _ h => h) (Or.inr ⟨by rfl, rfl⟩) (by assumption) ?_
                        simp only [Act.put, List.setIfInBounds_toArray, List.set_cons_zero, List.set_cons_succ]
                        refine wpAnyH_take (i := 22) (oi := (⟨some 90, _, _, _, _, _⟩ : Oper)) (v := undef) rfl (by kernel_rfl) (by kernel_rfl) (by kernel_rfl) (fun _ _ _ h => h) (Or.inr ⟨by rfl, rfl⟩) (by assumption) ?_
                        simp only [Act.put, List.setIfInBounds_toArray, List.set_cons_zero, List.set_cons_succ]
                        refine wpAnyH_take (i := 23) (oi := (⟨some 91, _, _, _, _, _⟩ : Oper)) (v := undef) rfl (by kernel_rfl) (by kernel_rfl) (by kernel_rfl) (fun _ _ _ h => h) (Or.inr ⟨by rfl, rfl⟩) (by assumption) ?_
                        simp only [Act.put, List.setIfInBounds_toArray, List.set_cons_zero, List.set_cons_succ]
                        refine wpAnyH_take (i := 24) (oi := (⟨some 92, _, _, _, _, _⟩ : Oper)) (v := undef) rfl (by kernel_rfl) (by kernel_rfl) (by kernel_rfl) (fun _ _ _ h => h) (Or.inr ⟨by rfl, rfl⟩) (by assumption) ?_
                        simp only [Act.put, List.setIfInBounds_toArray, List.set_cons_zero, List.set_cons_succ]
                        refine wpAnyH_take (i := 25) (oi := (⟨some 93, _, _, _, _, _⟩ : Oper)) (v := ?_) rfl (by kernel_rfl) (by kernel_rfl) (by kernel_rfl) (fun _ _ _ h => h) (Or.inl ⟨by rfl, ?_⟩) (by assumption) ?_
                        rotate_left
                        · intro wS hSw; (try dsimp only at hSw); go_simp <;> with_reducible rfl
                        simp only [Act.put, List.setIfInBounds_toArray, List.set_cons_zero, List.set_cons_succ]
                        refine wpAnyH_done (by kernel_rfl) ?_ _
                        have HRB := Lib.hid r1
                        clear r1
                        go_wp2_with fail
                        go_ret
                        exact ⟨ret_int (by rw [HRR.out, HQT.out]; rfl), HB.out.trans (HRB.out.mono hsz)⟩
                      | true =>
                        rw [hc] at hck hst0 hst1
                        rw [show er13 true = 0 from rfl] at hck
                        simp only [Bool.true_and] at hst0 hst1
                        have HCK := Lib.hid hck
                        clear hck hc
                        by_cases h0 : i = 0
                        · have q0 : decide ((0 : Int) < (i : Int)) = false := decide_eq_false (by omega)
                          have q0' : decide (0 < i) = false := decide_eq_false (by omega)
                          have HST := Lib.hid (show (!q && N) = R by rw [hq0 h0, ← hst0 h0]; rfl)
                          have KEEP := KX
                          clear hst0 hst1 hq0 hpr h0
                          go_wp2_with fail
                          refine wp_region_held_drew (S := fun x => x.cell? ⟨w.heap.size, 5, none⟩ = some (.slice (some ⟨b, off, none⟩) f.ents.length ec) ∧ x.cell? ⟨b, off + i * 5, none⟩ = some (.string (S X.id)) ∧ x.cell? ⟨b, off + i * 5 + 1, none⟩ = some (.string (S X.title)) ∧ x.cell? ⟨b, off + i * 5 + 2, none⟩ = some (.string (S X.link)) ∧ x.cell? ⟨b, off + i * 5 + 3, none⟩ = some (.string (S X.content)) ∧ x.cell? ⟨b, off + i * 5 + 4, none⟩ = some (.int .i64 X.upd)) (by kernel_rfl) ?_ (fun hHeld => ?_)
                          · (try dsimp only); exact KEEP.out _ (Below.refl _ _).drew
                          refine wpAnyH_take (i := 0) (oi := (⟨some 68, _, _, _, _, _⟩ : Oper)) (v := ?_) rfl (by kernel_rfl) (by kernel_rfl) (by kernel_rfl) (fun _ _ _ h => h) (Or.inl ⟨by rfl, ?_⟩) (by assumption) ?_
                          rotate_left
                          · intro wS hSw; (try dsimp only at hSw); go_simp <;> with_reducible rfl
                          simp only [Act.put, List.setIfInBounds_toArray, List.set_cons_zero, List.set_cons_succ]
                          refine wpAnyH_take (i := 1) (oi := (⟨some 69, _, _, _, _, _⟩ : Oper)) (v := ?_) rfl (by kernel_rfl) (by kernel_rfl) (by kernel_rfl) (fun _ _ _ h => h) (Or.inl ⟨by rfl, ?_⟩) (by assumption) ?_
                          rotate_left
                          · intro wS hSw; (try dsimp only at hSw); go_simp <;> with_reducible rfl
                          simp only [Act.put, List.setIfInBounds_toArray, List.set_cons_zero, List.set_cons_succ]
                          refine wpAnyH_take (i := 2) (oi := (⟨some 70, _, _, _, _, _⟩ : Oper)) (v := ?_) rfl (by kernel_rfl) (by kernel_rfl) (by kernel_rfl) (fun _ _ _ h => h) (Or.inl ⟨by rfl, ?_⟩) (by assumption) ?_
                          rotate_left
                          · intro wS hSw; (try dsimp only at hSw); go_simp <;> with_reducible rfl
                          simp only [Act.put, List.setIfInBounds_toArray, List.set_cons_zero, List.set_cons_succ]
                          refine wpAnyH_take (i := 3) (oi := (⟨some 71, _, _, _, _, _⟩ : Oper)) (v := ?_) rfl (by kernel_rfl) (by kernel_rfl) (by kernel_rfl) (fun _ _ _ h => h) (Or.inl ⟨by rfl, ?_⟩) (by assumption) ?_
                          rotate_left
                          · intro wS hSw; (try dsimp only at hSw); go_simp <;> with_reducible rfl
                          simp only [Act.put, List.setIfInBounds_toArray, List.set_cons_zero, List.set_cons_succ]
                          refine wpAnyH_take (i := 4) (oi := (⟨some 72, _, _, _, _, _⟩ : Oper)) (v := ?_) rfl (by kernel_rfl) (by kernel_rfl) (by kernel_rfl) (fun _ _ _ h => h) (Or.inl ⟨by rfl, ?_⟩) (by assumption) ?_
                          rotate_left
                          · intro wS hSw; (try dsimp only at hSw); go_simp <;> with_reducible rfl
                          simp only [Act.put, List.setIfInBounds_toArray, List.set_cons_zero, List.set_cons_succ]
                          refine wpAnyH_ready (rs := [5]) (by kernel_rfl) (by simp) ?_
                          refine AllReadyH.cons (o := (⟨some 73, _, _, _, _, _⟩ : Oper)) rfl (fun K hK => ?_) ?_
                          rotate_left
                          · exact AllReadyH.nil
                          go_simp
                          (go_at_call 31; (with_reducible refine (HCK.out _ (Below.refl _ _).drew).mono ?_); rintro x w1 ⟨rfl, hb1⟩; have r1 := (Below.refl wr.heap.size wr).drew.trans hb1; have hz1 : wr.heap.size ≤ w1.heap.size := r1.size; clear hb1)
                          refine hK.out _ _ ?_ (fun hHeld => ?_)
                          · (try dsimp only); exact KEEP.out _ r1
                          clear hK K
                          try simp only [Act.put, List.setIfInBounds_toArray, List.set_cons_zero, List.set_cons_succ]
                          refine wpAnyH_take (i := 6) (oi := (⟨some 74, _, _, _, _, _⟩ : Oper)) (v := ?_) rfl (by kernel_rfl) (by kernel_rfl) (by kernel_rfl) (fun _ _ _ h => h) (Or.inl ⟨by rfl, ?_⟩) (by assumption) ?_
                          rotate_left
                          · intro wS hSw; (try dsimp only at hSw); go_simp <;> with_reducible rfl
                          simp only [Act.put, List.setIfInBounds_toArray, List.set_cons_zero, List.set_cons_succ]
                          refine wpAnyH_take (i := 7) (oi := (⟨some 75, _, _, _, _, _⟩ : Oper)) (v := ?_) rfl (by kernel_rfl) (by kernel_rfl) (by kernel_rfl) (fun _ _ _ h => h) (Or.inl ⟨by rfl, ?_⟩) (by assumption) ?_
                          rotate_left
                          · intro wS hSw; (try dsimp only at hSw); go_simp <;> with_reducible rfl
                          simp only [Act.put, List.setIfInBounds_toArray, List.set_cons_zero, List.set_cons_succ]
                          refine wpAnyH_take (i := 8) (oi := (⟨some 76, _, _, _, _, _⟩ : Oper)) (v := ?_) rfl (by kernel_rfl) (by kernel_rfl) (by kernel_rfl) (fun _ _ _ h => h) (Or.inl ⟨by rfl, ?_⟩) (by assumption) ?_
                          rotate_left
                          · intro wS hSw; (try dsimp only at hSw); go_simp <;> with_reducible rfl
                          simp only [Act.put, List.setIfInBounds_toArray, List.set_cons_zero, List.set_cons_succ]
                          refine wpAnyH_take (i := 9) (oi := (⟨some 77, _, _, _, _, _⟩ : Oper)) (v := ?_) rfl (by kernel_rfl) (by kernel_rfl) (by kernel_rfl) (fun _ _ _ h => h) (Or.inl ⟨by rfl, ?_⟩) (by assumption) ?_
                          rotate_left
                          · intro wS hSw; (try dsimp only at hSw); go_simp <;> with_reducible rfl
                          simp only [Act.put, List.setIfInBounds_toArray, List.set_cons_zero, List.set_cons_succ]
                          refine wpAnyH_take (i := 10) (oi := (⟨some 78, _, _, _, _, _⟩ : Oper)) (v := ?_) rfl (by kernel_rfl) (by kernel_rfl) (by kernel_rfl) (fun _ _ _ h => h) (Or.inl ⟨by rfl, ?_⟩) (by assumption) ?_
                          rotate_left
                          · intro wS hSw; (try dsimp only at hSw); go_simp <;> with_reducible rfl
                          simp only [Act.put, List.setIfInBounds_toArray, List.set_cons_zero, List.set_cons_succ]
                          refine wpAnyH_take (i := 11) (oi := (⟨some 79, _, _, _, _, _⟩ : Oper)) (v := undef) rfl (by kernel_rfl) (by kernel_rfl) (by kernel_rfl) (fun _ _ _ h => h) (Or.inr ⟨by rfl, rfl⟩) (by assumption) ?_
                          simp only [Act.put, List.setIfInBounds_toArray, List.set_cons_zero, List.set_cons_succ]
                          refine wpAnyH_take (i := 12) (oi := (⟨some 80, _, _, _, _, _⟩ : Oper)) (v := undef) rfl (by kernel_rfl) (by kernel_rfl) (by kernel_rfl) (fun _ _ _ h => h) (Or.inr ⟨by rfl, rfl⟩) (by assumption) ?_
                          simp only [Act.put, List.setIfInBounds_toArray, List.set_cons_zero, List.set_cons_succ]
                          refine wpAnyH_take (i := 13) (oi := (⟨some 81, _, _, _, _, _⟩ : Oper)) (v := undef) rfl (by kernel_rfl) (by kernel_rfl) (by kernel_rfl) (fun _ _ _ h => h) (Or.inr ⟨by rfl, rfl⟩) (by assumption) ?_
                          simp only [Act.put, List.setIfInBounds_toArray, List.set_cons_zero, List.set_cons_succ]
                          refine wpAnyH_take (i := 14) (oi := (⟨some 82, _, _, _, _, _⟩ : Oper)) (v := undef) rfl (by kernel_rfl) (by kernel_rfl) (by kernel_rfl) (fun _ _ _ h => h) (Or.inr ⟨by rfl, rfl⟩) (by assumption) ?_
                          simp only [Act.put, List.setIfInBounds_toArray, List.set_cons_zero, List.set_cons_succ]
                          refine wpAnyH_take (i := 15) (oi := (⟨some 83, _, _, _, _, _⟩ : Oper)) (v := undef) rfl (by kernel_rfl) (by kernel_rfl) (by kernel_rfl) (fun _ _ _ h => h) (Or.inr ⟨by rfl, rfl⟩) (by assumption) ?_
                          simp only [Act.put, List.setIfInBounds_toArray, List.set_cons_zero, List.set_cons_succ]
                          refine wpAnyH_take (i := 16) (oi := (⟨some 84, _, _, _, _, _⟩ : Oper)) (v := undef) rfl (by kernel_rfl) (by kernel_rfl) (by kernel_rfl) (fun _ _ _ h => h) (Or.inr ⟨by rfl, rfl⟩) (by assumption) ?_
                          simp only [Act.put, List.setIfInBounds_toArray, List.set_cons_zero, List.set_cons_succ]
                          refine wpAnyH_take (i := 17) (oi := (⟨some 85, _, _, _, _, _⟩ : Oper)) (v := undef) rfl (by kernel_rfl) (by kernel_rfl) (by kernel_rfl) (fun _ _ _ h => h) (Or.inr ⟨by rfl, rfl⟩) (by assumption) ?_
                          simp only [Act.put, List.setIfInBounds_toArray, List.set_cons_zero, List.set_cons_succ]
                          refine wpAnyH_take (i := 18) (oi := (⟨some 86, _, _, _, _, _⟩ : Oper)) (v := undef) rfl (by kernel_rfl) (by kernel_rfl) (by kernel_rfl) (fun _ _ _ h => h) (Or.inr ⟨by rfl, rfl⟩) (by assumption) ?_
                          simp only [Act.put, List.setIfInBounds_toArray, List.set_cons_zero, List.set_cons_succ]
                          refine wpAnyH_take (i := 19) (oi := (⟨some 87, _, _, _, _, _⟩ : Oper)) (v := undef) rfl (by kernel_rfl) (by kernel_rfl) (by kernel_rfl) (fun _ _ _ h => h) (Or.inr ⟨by rfl, rfl⟩) (by assumption) ?_
                          simp only [Act.put, List.setIfInBounds_toArray, List.set_cons_zero, List.set_cons_succ]
                          refine wpAnyH_take (i := 20) (oi := (⟨some 88, _, _, _, _, _⟩ : Oper)) (v := undef) rfl (by kernel_rfl) (by kernel_rfl) (by kernel_rfl) (fun _ _ _ h => h) (Or.inr ⟨by rfl, rfl⟩) (by assumption) ?_
                          simp only [Act.put, List.setIfInBounds_toArray, List.set_cons_zero, List.set_cons_succ]
                          refine wpAnyH_take (i := 21) (oi := (⟨some 89, _, _, _, _, _⟩ : Oper)) (v := undef) rfl (by kernel_rfl) (by kernel_rfl) (by kernel_rfl) (fun _ _ _ h => h) (Or.inr ⟨by rfl, rfl⟩) (by assumption) ?_
                          simp only [Act.put, List.setIfInBounds_toArray, List.set_cons_zero, List.set_cons_succ]
                          refine wpAnyH_take (i := 22) (oi := (⟨some 90, _, _, _, _, _⟩ : Oper)) (v := undef) rfl (by kernel_rfl) (by kernel_rfl) (by kernel_rfl) (fun _ _ _ h => h) (Or.inr ⟨by rfl, rfl⟩) (by assumption) ?_
                          simp only [Act.put, List.setIfInBounds_toArray, List.set_cons_zero, List.set_cons_succ]
                          refine wpAnyH_take (i := 23) (oi := (⟨some 91, _, _, _, _, _⟩ : Oper)) (v := undef) rfl (by kernel_rfl) (by kernel_rfl) (by kernel_rfl) (fun _ _ _ h => h) (Or.inr ⟨by rfl, rfl⟩) (by assumption) ?_
                          simp only [Act.put, List.setIfInBounds_toArray, List.set_cons_zero, List.set_cons_succ]
                          refine wpAnyH_take (i := 24) (oi := (⟨some 92, _, _, _, _, _⟩ : Oper)) (v := ?_) rfl (by kernel_rfl) (by kernel_rfl) (by kernel_rfl) (fun _ _ _ h => h) (Or.inl ⟨by rfl, ?_⟩) (by assumption) ?_
                          rotate_left
                          · intro wS hSw; (try dsimp only at hSw); go_simp <;> with_reducible rfl
                          simp only [Act.put, List.setIfInBounds_toArray, List.set_cons_zero, List.set_cons_succ]
                          refine wpAnyH_take (i := 25) (oi := (⟨some 93, _, _, _, _, _⟩ : Oper)) (v := ?_) rfl (by kernel_rfl) (by kernel_rfl) (by kernel_rfl) (fun _ _ _ h => h) (Or.inl ⟨by rfl, ?_⟩) (by assumption) ?_
                          rotate_left
                          · intro wS hSw; (try dsimp only at hSw); go_simp <;> with_reducible rfl
                          simp only [Act.put, List.setIfInBounds_toArray, List.set_cons_zero, List.set_cons_succ]
                          refine wpAnyH_done (by kernel_rfl) ?_ _
                          have HRB := Lib.hid r1
                          have hzr : w.heap.size ≤ w1.heap.size := Nat.le_trans hsz r1.size
                          have HWC := Lib.hid (HB.out.trans (r1.mono hsz))
                          clear r1
                          go_wp2_with fail
                          obtain ⟨wo, rfl⟩ : ∃ x : World, x = wr := ⟨_, rfl⟩
                          go_loopw [5] (fun j5 wr => ∃ j : Nat, j ≤ i ∧ j5 = .int .i64 j ∧ ((((f.ents).take i).map En.id).drop j).contains X.id = q ∧ Below wo.heap.size wo wr) (fun j5 _ => i - (intOf j5).toNat)
                          case atStart => exact ⟨0, Nat.zero_le _, rfl, HQ.out, HRB.out⟩
                          case round =>
                            obtain ⟨j, hj, rfl, hres, hb⟩ := hrel
                            have HRQ := Lib.hid hb
                            have hzq : wo.heap.size ≤ wr.heap.size := hb.size
                            clear hb HRB
                            by_cases hlj : j < i
                            · have hlj' : (j : Int) < i := by omega
                              have hjl : j < f.ents.length := by omega
                              have hjl' : (j : Int) < f.ents.length := by omega
                              have hcj := HCJ.out j hjl wr HRQ.out
                              obtain ⟨c1, c2, c3⟩ := hcj
                              rw [drop_ids hlj (by omega)] at hres
                              generalize (f.ents[j]'hjl).id = y at *
                              by_cases hy : y = X.id
                              · subst hy
                                have hq : q = true := by rw [← hres]; simp
                                have HRR := Lib.hid (show R = false by have := HST.out; rw [hq] at this; rw [← this]; rfl)
                                clear hres hq
                                go_wp2_with fail
                                go_quiet (fail)
                                go_wp2_with fail
                                go_ret
                                exact ⟨ret_int (by rw [HRR.out, HQT.out]; rfl), (HB.out.trans (HRQ.out.mono hsz)).trans ((below_drewN13 _ _).mono (Nat.le_trans hsz hzq))⟩
                              · have t1 : (y == X.id) = false := by rw [beq_eq_false_iff_ne]; exact hy
                                have t2 : (X.id == y) = false := by rw [beq_eq_false_iff_ne]; exact fun e => hy e.symm
                                rw [List.contains_cons, t2, Bool.false_or] at hres
                                have HRES := Lib.hid hres
                                clear hres hy t2
                                go_wp2_with fail
                                go_quiet (fail)
                                go_wp2_with fail
                                go_roundw
                                case rel => exact ⟨j + 1, by omega, by go_num, HRES.out, HRQ.out.trans ((below_drewN13 _ _).mono hzq)⟩
                                case measure => simp [intOf]; omega
                            · obtain rfl : j = i := by omega
                              have hq : q = false := by rw [← hres, List.drop_of_length_le (by simp; omega)]; rfl
                              have HRR := Lib.hid (show ordG vldE cmpE En.id ((f.ents).take (j + 1)) ((f.ents).drop (j + 1)) = R by have := HST.out; rw [hq, Bool.not_false, Bool.true_and] at this; rw [HN.out]; exact this)
                              have hlj' : ¬ ((j : Int) < j) := by omega
                              clear hres hq hlj
                              go_wp2_with fail
                              go_roundw
                              case rel => exact ⟨j + 1, by omega, by go_num, HRR.out, HB.out.trans (HRQ.out.mono hsz), (HRQ.out.block _ hwx).trans HX.out⟩
                              case measure => simp [intOf]; omega
                        · have q0 : decide ((0 : Int) < (i : Int)) = true := decide_eq_true (by omega)
                          have q0' : decide (0 < i) = true := decide_eq_true (by omega)
                          have w1' : IntKind.i64.wrap ((i : Int) - 1) = (i : Int) - 1 := by rw [IntKind.wrap_i64]; omega
                          have w2' : (0 : Int) ≤ (i : Int) - 1 := by omega
                          have w3' : ((i : Int) - 1).toNat = i - 1 := by omega
                          have w4' : (i : Int) - 1 < f.ents.length := by omega
                          have w5' : (1 : Int) ≤ i := by omega
                          obtain ⟨hpr1, _⟩ := hpr (by omega)
                          have hst := hst1 (by omega)
                          generalize (f.ents[i - 1]'(by omega)) = P at *
                          have hcm := fun W => fun (hW : Below wr.heap.size wr W) => refCmpEntries_any P X W
                          generalize cmpE P X = m at *
                          have HCM := Lib.hid hcm
                          have KEEP : Hid (∀ W, Below wr.heap.size wr W → (W.cell? ⟨w.heap.size, 5, none⟩ = some (.slice (some ⟨b, off, none⟩) f.ents.length ec) ∧ W.cell? ⟨b, off + i * 5, none⟩ = some (.string (S X.id)) ∧ W.cell? ⟨b, off + i * 5 + 1, none⟩ = some (.string (S X.title)) ∧ W.cell? ⟨b, off + i * 5 + 2, none⟩ = some (.string (S X.link)) ∧ W.cell? ⟨b, off + i * 5 + 3, none⟩ = some (.string (S X.content)) ∧ W.cell? ⟨b, off + i * 5 + 4, none⟩ = some (.int .i64 X.upd)) ∧ (W.cell? ⟨b, off + (i - 1) * 5, none⟩ = some (.string (S P.id)) ∧ W.cell? ⟨b, off + (i - 1) * 5 + 1, none⟩ = some (.string (S P.title)) ∧ W.cell? ⟨b, off + (i - 1) * 5 + 2, none⟩ = some (.string (S P.link)) ∧ W.cell? ⟨b, off + (i - 1) * 5 + 3, none⟩ = some (.string (S P.content)) ∧ W.cell? ⟨b, off + (i - 1) * 5 + 4, none⟩ = some (.int .i64 P.upd))) := fun W hW => by
                            have hr2 := rangeAt_keep hpr1 (hW.block b hbl)
                            exact ⟨KX.out W hW, hr2 0 _ rfl, hr2 1 _ rfl, hr2 2 _ rfl, hr2 3 _ rfl, hr2 4 _ rfl⟩
                          clear hcm hpr hpr1 hst0 hst1 hq0 h0
                          by_cases hm : m < 0
                          · have qm : decide ((0 : Int) ≤ m) = false := decide_eq_false (by omega)
                            rw [decide_eq_true hm] at hst
                            simp only [Bool.true_and] at hst
                            have HST := Lib.hid hst
                            clear hst hm
                            go_wp2_with fail
                            refine wp_region_held_drew (S := fun x => (x.cell? ⟨w.heap.size, 5, none⟩ = some (.slice (some ⟨b, off, none⟩) f.ents.length ec) ∧ x.cell? ⟨b, off + i * 5, none⟩ = some (.string (S X.id)) ∧ x.cell? ⟨b, off + i * 5 + 1, none⟩ = some (.string (S X.title)) ∧ x.cell? ⟨b, off + i * 5 + 2, none⟩ = some (.string (S X.link)) ∧ x.cell? ⟨b, off + i * 5 + 3, none⟩ = some (.string (S X.content)) ∧ x.cell? ⟨b, off + i * 5 + 4, none⟩ = some (.int .i64 X.upd)) ∧ (x.cell? ⟨b, off + (i - 1) * 5, none⟩ = some (.string (S P.id)) ∧ x.cell? ⟨b, off + (i - 1) * 5 + 1, none⟩ = some (.string (S P.title)) ∧ x.cell? ⟨b, off + (i - 1) * 5 + 2, none⟩ = some (.string (S P.link)) ∧ x.cell? ⟨b, off + (i - 1) * 5 + 3, none⟩ = some (.string (S P.content)) ∧ x.cell? ⟨b, off + (i - 1) * 5 + 4, none⟩ = some (.int .i64 P.upd))) (by kernel_rfl) ?_ (fun hHeld => ?_)
                            · (try dsimp only); exact KEEP.out _ (Below.refl _ _).drew
                            refine wpAnyH_take (i := 0) (oi := (⟨some 68, _, _, _, _, _⟩ : Oper)) (v := ?_) rfl (by kernel_rfl) (by kernel_rfl) (by kernel_rfl) (fun _ _ _ h => h) (Or.inl ⟨by rfl, ?_⟩) (by assumption) ?_
                            rotate_left
                            · intro wS hSw; (try dsimp only at hSw); go_simp <;> with_reducible rfl
                            simp only [Act.put, List.setIfInBounds_toArray, List.set_cons_zero, List.set_cons_succ]
                            refine wpAnyH_take (i := 1) (oi := (⟨some 69, _, _, _, _, _⟩ : Oper)) (v := ?_) rfl (by kernel_rfl) (by kernel_rfl) (by kernel_rfl) (fun _ _ _ h => h) (Or.inl ⟨by rfl, ?_⟩) (by assumption) ?_
                            rotate_left
                            · intro wS hSw; (try dsimp only at hSw); go_simp <;> with_reducible rfl
                            simp only [Act.put, List.setIfInBounds_toArray, List.set_cons_zero, List.set_cons_succ]
                            refine wpAnyH_take (i := 2) (oi := (⟨some 70, _, _, _, _, _⟩ : Oper)) (v := ?_) rfl (by kernel_rfl) (by kernel_rfl) (by kernel_rfl) (fun _ _ _ h => h) (Or.inl ⟨by rfl, ?_⟩) (by assumption) ?_
                            rotate_left
                            · intro wS hSw; (try dsimp only at hSw); go_simp <;> with_reducible rfl
                            simp only [Act.put, List.setIfInBounds_toArray, List.set_cons_zero, List.set_cons_succ]
                            refine wpAnyH_take (i := 3) (oi := (⟨some 71, _, _, _, _, _⟩ : Oper)) (v := ?_) rfl (by kernel_rfl) (by kernel_rfl) (by kernel_rfl) (fun _ _ _ h => h) (Or.inl ⟨by rfl, ?_⟩) (by assumption) ?_
                            rotate_left
                            · intro wS hSw; (try dsimp only at hSw); go_simp <;> with_reducible rfl
                            simp only [Act.put, List.setIfInBounds_toArray, List.set_cons_zero, List.set_cons_succ]
                            refine wpAnyH_take (i := 4) (oi := (⟨some 72, _, _, _, _, _⟩ : Oper)) (v := ?_) rfl (by kernel_rfl) (by kernel_rfl) (by kernel_rfl) (fun _ _ _ h => h) (Or.inl ⟨by rfl, ?_⟩) (by assumption) ?_
                            rotate_left
                            · intro wS hSw; (try dsimp only at hSw); go_simp <;> with_reducible rfl
                            simp only [Act.put, List.setIfInBounds_toArray, List.set_cons_zero, List.set_cons_succ]
                            refine wpAnyH_ready (rs := [5]) (by kernel_rfl) (by simp) ?_
                            refine AllReadyH.cons (o := (⟨some 73, _, _, _, _, _⟩ : Oper)) rfl (fun K hK => ?_) ?_
                            rotate_left
                            · exact AllReadyH.nil
                            go_simp
                            (go_at_call 31; (with_reducible refine (HCK.out _ (Below.refl _ _).drew).mono ?_); rintro x w1 ⟨rfl, hb1⟩; have r1 := (Below.refl wr.heap.size wr).drew.trans hb1; have hz1 : wr.heap.size ≤ w1.heap.size := r1.size; clear hb1)
                            refine hK.out _ _ ?_ (fun hHeld => ?_)
                            · (try dsimp only); exact KEEP.out _ r1
                            clear hK K
                            try simp only [Act.put, List.setIfInBounds_toArray, List.set_cons_zero, List.set_cons_succ]
                            refine wpAnyH_take (i := 6) (oi := (⟨some 74, _, _, _, _, _⟩ : Oper)) (v := ?_) rfl (by kernel_rfl) (by kernel_rfl) (by kernel_rfl) (fun _ _ _ h => h) (Or.inl ⟨by rfl, ?_⟩) (by assumption) ?_
                            rotate_left
                            · intro wS hSw; (try dsimp only at hSw); go_simp <;> with_reducible rfl
                            simp only [Act.put, List.setIfInBounds_toArray, List.set_cons_zero, List.set_cons_succ]
                            refine wpAnyH_take (i := 7) (oi := (⟨some 75, _, _, _, _, _⟩ : Oper)) (v := ?_) rfl (by kernel_rfl) (by kernel_rfl) (by kernel_rfl) (fun _ _ _ h => h) (Or.inl ⟨by rfl, ?_⟩) (by assumption) ?_
                            rotate_left
                            · intro wS hSw; (try dsimp only at hSw); go_simp <;> with_reducible rfl
                            simp only [Act.put, List.setIfInBounds_toArray, List.set_cons_zero, List.set_cons_succ]
                            refine wpAnyH_take (i := 8) (oi := (⟨some 76, _, _, _, _, _⟩ : Oper)) (v := ?_) rfl (by kernel_rfl) (by kernel_rfl) (by kernel_rfl) (fun _ _ _ h => h) (Or.inl ⟨by rfl, ?_⟩) (by assumption) ?_
                            rotate_left
                            · intro wS hSw; (try dsimp only at hSw); go_simp <;> with_reducible rfl
                            simp only [Act.put, List.setIfInBounds_toArray, List.set_cons_zero, List.set_cons_succ]
                            refine wpAnyH_take (i := 9) (oi := (⟨some 77, _, _, _, _, _⟩ : Oper)) (v := ?_) rfl (by kernel_rfl) (by kernel_rfl) (by kernel_rfl) (fun _ _ _ h => h) (Or.inl ⟨by rfl, ?_⟩) (by assumption) ?_
                            rotate_left
                            · intro wS hSw; (try dsimp only at hSw); go_simp <;> with_reducible rfl
                            simp only [Act.put, List.setIfInBounds_toArray, List.set_cons_zero, List.set_cons_succ]
                            refine wpAnyH_take (i := 10) (oi := (⟨some 78, _, _, _, _, _⟩ : Oper)) (v := ?_) rfl (by kernel_rfl) (by kernel_rfl) (by kernel_rfl) (fun _ _ _ h => h) (Or.inl ⟨by rfl, ?_⟩) (by assumption) ?_
                            rotate_left
                            · intro wS hSw; (try dsimp only at hSw); go_simp <;> with_reducible rfl
                            simp only [Act.put, List.setIfInBounds_toArray, List.set_cons_zero, List.set_cons_succ]
                            refine wpAnyH_take (i := 11) (oi := (⟨some 79, _, _, _, _, _⟩ : Oper)) (v := ?_) rfl (by kernel_rfl) (by kernel_rfl) (by kernel_rfl) (fun _ _ _ h => h) (Or.inl ⟨by rfl, ?_⟩) (by assumption) ?_
                            rotate_left
                            · intro wS hSw; (try dsimp only at hSw); go_simp <;> with_reducible rfl
                            simp only [Act.put, List.setIfInBounds_toArray, List.set_cons_zero, List.set_cons_succ]
                            refine wpAnyH_take (i := 12) (oi := (⟨some 80, _, _, _, _, _⟩ : Oper)) (v := ?_) rfl (by kernel_rfl) (by kernel_rfl) (by kernel_rfl) (fun _ _ _ h => h) (Or.inl ⟨by rfl, ?_⟩) (by assumption) ?_
                            rotate_left
                            · intro wS hSw; (try dsimp only at hSw); go_simp <;> with_reducible rfl
                            simp only [Act.put, List.setIfInBounds_toArray, List.set_cons_zero, List.set_cons_succ]
                            refine wpAnyH_take (i := 13) (oi := (⟨some 81, _, _, _, _, _⟩ : Oper)) (v := ?_) rfl (by kernel_rfl) (by kernel_rfl) (by kernel_rfl) (fun _ _ _ h => h) (Or.inl ⟨by rfl, ?_⟩) (by assumption) ?_
                            rotate_left
                            · intro wS hSw; (try dsimp only at hSw); go_simp <;> with_reducible rfl
                            simp only [Act.put, List.setIfInBounds_toArray, List.set_cons_zero, List.set_cons_succ]
                            refine wpAnyH_take (i := 14) (oi := (⟨some 82, _, _, _, _, _⟩ : Oper)) (v := ?_) rfl (by kernel_rfl) (by kernel_rfl) (by kernel_rfl) (fun _ _ _ h => h) (Or.inl ⟨by rfl, ?_⟩) (by assumption) ?_
                            rotate_left
                            · intro wS hSw; (try dsimp only at hSw); go_simp <;> with_reducible rfl
                            simp only [Act.put, List.setIfInBounds_toArray, List.set_cons_zero, List.set_cons_succ]
                            refine wpAnyH_take (i := 15) (oi := (⟨some 83, _, _, _, _, _⟩ : Oper)) (v := ?_) rfl (by kernel_rfl) (by kernel_rfl) (by kernel_rfl) (fun _ _ _ h => h) (Or.inl ⟨by rfl, ?_⟩) (by assumption) ?_
                            rotate_left
                            · intro wS hSw; (try dsimp only at hSw); go_simp <;> with_reducible rfl
                            simp only [Act.put, List.setIfInBounds_toArray, List.set_cons_zero, List.set_cons_succ]
                            refine wpAnyH_take (i := 16) (oi := (⟨some 84, _, _, _, _, _⟩ : Oper)) (v := ?_) rfl (by kernel_rfl) (by kernel_rfl) (by kernel_rfl) (fun _ _ _ h => h) (Or.inl ⟨by rfl, ?_⟩) (by assumption) ?_
                            rotate_left
                            · intro wS hSw; (try dsimp only at hSw); go_simp <;> with_reducible rfl
                            simp only [Act.put, List.setIfInBounds_toArray, List.set_cons_zero, List.set_cons_succ]
                            refine wpAnyH_take (i := 17) (oi := (⟨some 85, _, _, _, _, _⟩ : Oper)) (v := ?_) rfl (by kernel_rfl) (by kernel_rfl) (by kernel_rfl) (fun _ _ _ h => h) (Or.inl ⟨by rfl, ?_⟩) (by assumption) ?_
                            rotate_left
                            · intro wS hSw; (try dsimp only at hSw); go_simp <;> with_reducible rfl
                            simp only [Act.put, List.setIfInBounds_toArray, List.set_cons_zero, List.set_cons_succ]
                            refine wpAnyH_take (i := 18) (oi := (⟨some 86, _, _, _, _, _⟩ : Oper)) (v := ?_) rfl (by kernel_rfl) (by kernel_rfl) (by kernel_rfl) (fun _ _ _ h => h) (Or.inl ⟨by rfl, ?_⟩) (by assumption) ?_
                            rotate_left
                            · intro wS hSw; (try dsimp only at hSw); go_simp <;> with_reducible rfl
                            simp only [Act.put, List.setIfInBounds_toArray, List.set_cons_zero, List.set_cons_succ]
                            refine wpAnyH_take (i := 19) (oi := (⟨some 87, _, _, _, _, _⟩ : Oper)) (v := ?_) rfl (by kernel_rfl) (by kernel_rfl) (by kernel_rfl) (fun _ _ _ h => h) (Or.inl ⟨by rfl, ?_⟩) (by assumption) ?_
                            rotate_left
                            · intro wS hSw; (try dsimp only at hSw); go_simp <;> with_reducible rfl
                            simp only [Act.put, List.setIfInBounds_toArray, List.set_cons_zero, List.set_cons_succ]
                            refine wpAnyH_take (i := 20) (oi := (⟨some 88, _, _, _, _, _⟩ : Oper)) (v := ?_) rfl (by kernel_rfl) (by kernel_rfl) (by kernel_rfl) (fun _ _ _ h => h) (Or.inl ⟨by rfl, ?_⟩) (by assumption) ?_
                            rotate_left
                            · intro wS hSw; (try dsimp only at hSw); go_simp <;> with_reducible rfl
                            simp only [Act.put, List.setIfInBounds_toArray, List.set_cons_zero, List.set_cons_succ]
                            refine wpAnyH_take (i := 21) (oi := (⟨some 89, _, _, _, _, _⟩ : Oper)) (v := ?_) rfl (by kernel_rfl) (by kernel_rfl) (by kernel_rfl) (fun _ _ _ h => h) (Or.inl ⟨by rfl, ?_⟩) (by assumption) ?_
                            rotate_left
                            · intro wS hSw; (try dsimp only at hSw); go_simp <;> with_reducible rfl
                            simp only [Act.put, List.setIfInBounds_toArray, List.set_cons_zero, List.set_cons_succ]
                            refine wpAnyH_ready (rs := [22]) (by kernel_rfl) (by simp) ?_
                            refine AllReadyH.cons (o := (⟨some 90, _, _, _, _, _⟩ : Oper)) rfl (fun K hK => ?_) ?_
                            rotate_left
                            · exact AllReadyH.nil
                            go_simp
                            (go_at_call 45; (with_reducible refine (HCM.out _ r1).mono ?_); rintro x w2 ⟨rfl, hb2⟩; have r2 := r1.trans (hb2.mono hz1); have hz2 : wr.heap.size ≤ w2.heap.size := r2.size; clear hb2)
                            refine hK.out _ _ ?_ (fun hHeld => ?_)
                            · (try dsimp only); exact KEEP.out _ r2
                            clear hK K
                            try simp only [Act.put, List.setIfInBounds_toArray, List.set_cons_zero, List.set_cons_succ]
                            refine wpAnyH_take (i := 23) (oi := (⟨some 91, _, _, _, _, _⟩ : Oper)) (v := ?_) rfl (by kernel_rfl) (by kernel_rfl) (by kernel_rfl) (fun _ _ _ h => h) (Or.inl ⟨by rfl, ?_⟩) (by assumption) ?_
                            rotate_left
                            · intro wS hSw; (try dsimp only at hSw); go_simp <;> with_reducible rfl
                            simp only [Act.put, List.setIfInBounds_toArray, List.set_cons_zero, List.set_cons_succ]
                            refine wpAnyH_take (i := 24) (oi := (⟨some 92, _, _, _, _, _⟩ : Oper)) (v := ?_) rfl (by kernel_rfl) (by kernel_rfl) (by kernel_rfl) (fun _ _ _ h => h) (Or.inl ⟨by rfl, ?_⟩) (by assumption) ?_
                            rotate_left
                            · intro wS hSw; (try dsimp only at hSw); go_simp <;> with_reducible rfl
                            simp only [Act.put, List.setIfInBounds_toArray, List.set_cons_zero, List.set_cons_succ]
                            refine wpAnyH_take (i := 25) (oi := (⟨some 93, _, _, _, _, _⟩ : Oper)) (v := ?_) rfl (by kernel_rfl) (by kernel_rfl) (by kernel_rfl) (fun _ _ _ h => h) (Or.inl ⟨by rfl, ?_⟩) (by assumption) ?_
                            rotate_left
                            · intro wS hSw; (try dsimp only at hSw); go_simp <;> with_reducible rfl
                            simp only [Act.put, List.setIfInBounds_toArray, List.set_cons_zero, List.set_cons_succ]
                            refine wpAnyH_done (by kernel_rfl) ?_ _
                            clear w1' w2' w3' w4' w5'
                            have HRB := Lib.hid r2
                            have hzr : w.heap.size ≤ w2.heap.size := Nat.le_trans hsz r2.size
                            have HWC := Lib.hid (HB.out.trans (r2.mono hsz))
                            clear r2
                            go_wp2_with fail
                            obtain ⟨wo, rfl⟩ : ∃ x : World, x = wr := ⟨_, rfl⟩
                            go_loopw [5] (fun j5 wr => ∃ j : Nat, j ≤ i ∧ j5 = .int .i64 j ∧ ((((f.ents).take i).map En.id).drop j).contains X.id = q ∧ Below wo.heap.size wo wr) (fun j5 _ => i - (intOf j5).toNat)
                            case atStart => exact ⟨0, Nat.zero_le _, rfl, HQ.out, HRB.out⟩
                            case round =>
                              obtain ⟨j, hj, rfl, hres, hb⟩ := hrel
                              have HRQ := Lib.hid hb
                              have hzq : wo.heap.size ≤ wr.heap.size := hb.size
                              clear hb HRB
                              by_cases hlj : j < i
                              · have hlj' : (j : Int) < i := by omega
                                have hjl : j < f.ents.length := by omega
                                have hjl' : (j : Int) < f.ents.length := by omega
                                have hcj := HCJ.out j hjl wr HRQ.out
                                obtain ⟨c1, c2, c3⟩ := hcj
                                rw [drop_ids hlj (by omega)] at hres
                                generalize (f.ents[j]'hjl).id = y at *
                                by_cases hy : y = X.id
                                · subst hy
                                  have hq : q = true := by rw [← hres]; simp
                                  have HRR := Lib.hid (show R = false by have := HST.out; rw [hq] at this; rw [← this]; rfl)
                                  clear hres hq
                                  go_wp2_with fail
                                  go_quiet (fail)
                                  go_wp2_with fail
                                  go_ret
                                  exact ⟨ret_int (by rw [HRR.out, HQT.out]; rfl), (HB.out.trans (HRQ.out.mono hsz)).trans ((below_drewN13 _ _).mono (Nat.le_trans hsz hzq))⟩
                                · have t1 : (y == X.id) = false := by rw [beq_eq_false_iff_ne]; exact hy
                                  have t2 : (X.id == y) = false := by rw [beq_eq_false_iff_ne]; exact fun e => hy e.symm
                                  rw [List.contains_cons, t2, Bool.false_or] at hres
                                  have HRES := Lib.hid hres
                                  clear hres hy t2
                                  go_wp2_with fail
                                  go_quiet (fail)
                                  go_wp2_with fail
                                  go_roundw
                                  case rel => exact ⟨j + 1, by omega, by go_num, HRES.out, HRQ.out.trans ((below_drewN13 _ _).mono hzq)⟩
                                  case measure => simp [intOf]; omega
                              · obtain rfl : j = i := by omega
                                have hq : q = false := by rw [← hres, List.drop_of_length_le (by simp; omega)]; rfl
                                have HRR := Lib.hid (show ordG vldE cmpE En.id ((f.ents).take (j + 1)) ((f.ents).drop (j + 1)) = R by have := HST.out; rw [hq, Bool.not_false, Bool.true_and] at this; rw [HN.out]; exact this)
                                have hlj' : ¬ ((j : Int) < j) := by omega
                                clear hres hq hlj
                                go_wp2_with fail
                                go_roundw
                                case rel => exact ⟨j + 1, by omega, by go_num, HRR.out, HB.out.trans (HRQ.out.mono hsz), (HRQ.out.block _ hwx).trans HX.out⟩
                                case measure => simp [intOf]; omega
                          · have qm : decide ((0 : Int) ≤ m) = true := decide_eq_true (by omega)
                            rw [decide_eq_false hm] at hst
                            have hr : R = false := by rw [← hst]; rfl
                            have HRR := Lib.hid hr
                            clear hst hr hm
                            go_wp2_with fail
                            refine wp_region_held_drew (S := fun x => (x.cell? ⟨w.heap.size, 5, none⟩ = some (.slice (some ⟨b, off, none⟩) f.ents.length ec) ∧ x.cell? ⟨b, off + i * 5, none⟩ = some (.string (S X.id)) ∧ x.cell? ⟨b, off + i * 5 + 1, none⟩ = some (.string (S X.title)) ∧ x.cell? ⟨b, off + i * 5 + 2, none⟩ = some (.string (S X.link)) ∧ x.cell? ⟨b, off + i * 5 + 3, none⟩ = some (.string (S X.content)) ∧ x.cell? ⟨b, off + i * 5 + 4, none⟩ = some (.int .i64 X.upd)) ∧ (x.cell? ⟨b, off + (i - 1) * 5, none⟩ = some (.string (S P.id)) ∧ x.cell? ⟨b, off + (i - 1) * 5 + 1, none⟩ = some (.string (S P.title)) ∧ x.cell? ⟨b, off + (i - 1) * 5 + 2, none⟩ = some (.string (S P.link)) ∧ x.cell? ⟨b, off + (i - 1) * 5 + 3, none⟩ = some (.string (S P.content)) ∧ x.cell? ⟨b, off + (i - 1) * 5 + 4, none⟩ = some (.int .i64 P.upd))) (by kernel_rfl) ?_ (fun hHeld => ?_)
                            · (try dsimp only); exact KEEP.out _ (Below.refl _ _).drew
                            refine wpAnyH_take (i := 0) (oi := (⟨some 68, _, _, _, _, _⟩ : Oper)) (v := ?_) rfl (by kernel_rfl) (by kernel_rfl) (by kernel_rfl) (fun _ _ _ h => h) (Or.inl ⟨by rfl, ?_⟩) (by assumption) ?_
                            rotate_left
                            · intro wS hSw; (try dsimp only at hSw); go_simp <;> with_reducible rfl
                            simp only [Act.put, List.setIfInBounds_toArray, List.set_cons_zero, List.set_cons_succ]
                            refine wpAnyH_take (i := 1) (oi := (⟨some 69, _, _, _, _, _⟩ : Oper)) (v := ?_) rfl (by kernel_rfl) (by kernel_rfl) (by kernel_rfl) (fun _ _ _ h => h) (Or.inl ⟨by rfl, ?_⟩) (by assumption) ?_
                            rotate_left
                            · intro wS hSw; (try dsimp only at hSw); go_simp <;> with_reducible rfl
                            simp only [Act.put, List.setIfInBounds_toArray, List.set_cons_zero, List.set_cons_succ]
                            refine wpAnyH_take (i := 2) (oi := (⟨some 70, _, _, _, _, _⟩ : Oper)) (v := ?_) rfl (by kernel_rfl) (by kernel_rfl) (by kernel_rfl) (fun _ _ _ h => h) (Or.inl ⟨by rfl, ?_⟩) (by assumption) ?_
                            rotate_left
                            · intro wS hSw; (try dsimp only at hSw); go_simp <;> with_reducible rfl
                            simp only [Act.put, List.setIfInBounds_toArray, List.set_cons_zero, List.set_cons_succ]
                            refine wpAnyH_take (i := 3) (oi := (⟨some 71, _, _, _, _, _⟩ : Oper)) (v := ?_) rfl (by kernel_rfl) (by kernel_rfl) (by kernel_rfl) (fun _ _ _ h => h) (Or.inl ⟨by rfl, ?_⟩) (by assumption) ?_
                            rotate_left
                            · intro wS hSw; (try dsimp only at hSw); go_simp <;> with_reducible rfl
                            simp only [Act.put, List.setIfInBounds_toArray, List.set_cons_zero, List.set_cons_succ]
                            refine wpAnyH_take (i := 4) (oi := (⟨some 72, _, _, _, _, _⟩ : Oper)) (v := ?_) rfl (by kernel_rfl) (by kernel_rfl) (by kernel_rfl) (fun _ _ _ h => h) (Or.inl ⟨by rfl, ?_⟩) (by assumption) ?_
                            rotate_left
                            · intro wS hSw; (try dsimp only at hSw); go_simp <;> with_reducible rfl
                            simp only [Act.put, List.setIfInBounds_toArray, List.set_cons_zero, List.set_cons_succ]
                            refine wpAnyH_ready (rs := [5]) (by kernel_rfl) (by simp) ?_
                            refine AllReadyH.cons (o := (⟨some 73, _, _, _, _, _⟩ : Oper)) rfl (fun K hK => ?_) ?_
                            rotate_left
                            · exact AllReadyH.nil
                            go_simp
                            (go_at_call 31; (with_reducible refine (HCK.out _ (Below.refl _ _).drew).mono ?_); rintro x w1 ⟨rfl, hb1⟩; have r1 := (Below.refl wr.heap.size wr).drew.trans hb1; have hz1 : wr.heap.size ≤ w1.heap.size := r1.size; clear hb1)
                            refine hK.out _ _ ?_ (fun hHeld => ?_)
                            · (try dsimp only); exact KEEP.out _ r1
                            clear hK K
                            try simp only [Act.put, List.setIfInBounds_toArray, List.set_cons_zero, List.set_cons_succ]
                            refine wpAnyH_take (i := 6) (oi := (⟨some 74, _, _, _, _, _⟩ : Oper)) (v := ?_) rfl (by kernel_rfl) (by kernel_rfl) (by kernel_rfl) (fun _ _ _ h => h) (Or.inl ⟨by rfl, ?_⟩) (by assumption) ?_
                            rotate_left
                            · intro wS hSw; (try dsimp only at hSw); go_simp <;> with_reducible rfl
                            simp only [Act.put, List.setIfInBounds_toArray, List.set_cons_zero, List.set_cons_succ]
                            refine wpAnyH_take (i := 7) (oi := (⟨some 75, _, _, _, _, _⟩ : Oper)) (v := ?_) rfl (by kernel_rfl) (by kernel_rfl) (by kernel_rfl) (fun _ _ _ h => h) (Or.inl ⟨by rfl, ?_⟩) (by assumption) ?_
                            rotate_left
                            · intro wS hSw; (try dsimp only at hSw); go_simp <;> with_reducible rfl
                            simp only [Act.put, List.setIfInBounds_toArray, List.set_cons_zero, List.set_cons_succ]
                            refine wpAnyH_take (i := 8) (oi := (⟨some 76, _, _, _, _, _⟩ : Oper)) (v := ?_) rfl (by kernel_rfl) (by kernel_rfl) (by kernel_rfl) (fun _ _ _ h => h) (Or.inl ⟨by rfl, ?_⟩) (by assumption) ?_
                            rotate_left
                            · intro wS hSw; (try dsimp only at hSw); go_simp <;> with_reducible rfl
                            simp only [Act.put, List.setIfInBounds_toArray, List.set_cons_zero, List.set_cons_succ]
                            refine wpAnyH_take (i := 9) (oi := (⟨some 77, _, _, _, _, _⟩ : Oper)) (v := ?_) rfl (by kernel_rfl) (by kernel_rfl) (by kernel_rfl) (fun _ _ _ h => h) (Or.inl ⟨by rfl, ?_⟩) (by assumption) ?_
                            rotate_left
                            · intro wS hSw; (try dsimp only at hSw); go_simp <;> with_reducible rfl
                            simp only [Act.put, List.setIfInBounds_toArray, List.set_cons_zero, List.set_cons_succ]
                            refine wpAnyH_take (i := 10) (oi := (⟨some 78, _, _, _, _, _⟩ : Oper)) (v := ?_) rfl (by kernel_rfl) (by kernel_rfl) (by kernel_rfl) (fun _ _ _ h => h) (Or.inl ⟨by rfl, ?_⟩) (by assumption) ?_
                            rotate_left
                            · intro wS hSw; (try dsimp only at hSw); go_simp <;> with_reducible rfl
                            simp only [Act.put, List.setIfInBounds_toArray, List.set_cons_zero, List.set_cons_succ]
                            refine wpAnyH_take (i := 11) (oi := (⟨some 79, _, _, _, _, _⟩ : Oper)) (v := ?_) rfl (by kernel_rfl) (by kernel_rfl) (by kernel_rfl) (fun _ _ _ h => h) (Or.inl ⟨by rfl, ?_⟩) (by assumption) ?_
                            rotate_left
                            · intro wS hSw; (try dsimp only at hSw); go_simp <;> with_reducible rfl
                            simp only [Act.put, List.setIfInBounds_toArray, List.set_cons_zero, List.set_cons_succ]
                            refine wpAnyH_take (i := 12) (oi := (⟨some 80, _, _, _, _, _⟩ : Oper)) (v := ?_) rfl (by kernel_rfl) (by kernel_rfl) (by kernel_rfl) (fun _ _ _ h => h) (Or.inl ⟨by rfl, ?_⟩) (by assumption) ?_
                            rotate_left
                            · intro wS hSw; (try dsimp only at hSw); go_simp <;> with_reducible rfl
                            simp only [Act.put, List.setIfInBounds_toArray, List.set_cons_zero, List.set_cons_succ]
                            refine wpAnyH_take (i := 13) (oi := (⟨some 81, _, _, _, _, _⟩ : Oper)) (v := ?_) rfl (by kernel_rfl) (by kernel_rfl) (by kernel_rfl) (fun _ _ _ h => h) (Or.inl ⟨by rfl, ?_⟩) (by assumption) ?_
                            rotate_left
                            · intro wS hSw; (try dsimp only at hSw); go_simp <;> with_reducible rfl
                            simp only [Act.put, List.setIfInBounds_toArray, List.set_cons_zero, List.set_cons_succ]
                            refine wpAnyH_take (i := 14) (oi := (⟨some 82, _, _, _, _, _⟩ : Oper)) (v := ?_) rfl (by kernel_rfl) (by kernel_rfl) (by kernel_rfl) (fun _ _ _ h => h) (Or.inl ⟨by rfl, ?_⟩) (by assumption) ?_
                            rotate_left
                            · intro wS hSw; (try dsimp only at hSw); go_simp <;> with_reducible rfl
                            simp only [Act.put, List.setIfInBounds_toArray, List.set_cons_zero, List.set_cons_succ]
                            refine wpAnyH_take (i := 15) (oi := (⟨some 83, _, _, _, _, _⟩ : Oper)) (v := ?_) rfl (by kernel_rfl) (by kernel_rfl) (by kernel_rfl) (fun _ _ _ h => h) (Or.inl ⟨by rfl, ?_⟩) (by assumption) ?_
                            rotate_left
                            · intro wS hSw; (try dsimp only at hSw); go_simp <;> with_reducible rfl
                            simp only [Act.put, List.setIfInBounds_toArray, List.set_cons_zero, List.set_cons_succ]
                            refine wpAnyH_take (i := 16) (oi := (⟨some 84, _, _, _, _, _⟩ : Oper)) (v := ?_) rfl (by kernel_rfl) (by kernel_rfl) (by kernel_rfl) (fun _ _ _ h => h) (Or.inl ⟨by rfl, ?_⟩) (by assumption) ?_
                            rotate_left
                            · intro wS hSw; (try dsimp only at hSw); go_simp <;> with_reducible rfl
                            simp only [Act.put, List.setIfInBounds_toArray, List.set_cons_zero, List.set_cons_succ]
                            refine wpAnyH_take (i := 17) (oi := (⟨some 85, _, _, _, _, _⟩ : Oper)) (v := ?_) rfl (by kernel_rfl) (by kernel_rfl) (by kernel_rfl) (fun _ _ _ h => h) (Or.inl ⟨by rfl, ?_⟩) (by assumption) ?_
                            rotate_left
                            · intro wS hSw; (try dsimp only at hSw); go_simp <;> with_reducible rfl
                            simp only [Act.put, List.setIfInBounds_toArray, List.set_cons_zero, List.set_cons_succ]
                            refine wpAnyH_take (i := 18) (oi := (⟨some 86, _, _, _, _, _⟩ : Oper)) (v := ?_) rfl (by kernel_rfl) (by kernel_rfl) (by kernel_rfl) (fun _ _ _ h => h) (Or.inl ⟨by rfl, ?_⟩) (by assumption) ?_
                            rotate_left
                            · intro wS hSw; (try dsimp only at hSw); go_simp <;> with_reducible rfl
                            simp only [Act.put, List.setIfInBounds_toArray, List.set_cons_zero, List.set_cons_succ]
                            refine wpAnyH_take (i := 19) (oi := (⟨some 87, _, _, _, _, _⟩ : Oper)) (v := ?_) rfl (by kernel_rfl) (by kernel_rfl) (by kernel_rfl) (fun _ _ _ h => h) (Or.inl ⟨by rfl, ?_⟩) (by assumption) ?_
                            rotate_left
                            · intro wS hSw; (try dsimp only at hSw); go_simp <;> with_reducible rfl
                            simp only [Act.put, List.setIfInBounds_toArray, List.set_cons_zero, List.set_cons_succ]
                            refine wpAnyH_take (i := 20) (oi := (⟨some 88, _, _, _, _, _⟩ : Oper)) (v := ?_) rfl (by kernel_rfl) (by kernel_rfl) (by kernel_rfl) (fun _ _ _ h => h) (Or.inl ⟨by rfl, ?_⟩) (by assumption) ?_
                            rotate_left
                            · intro wS hSw; (try dsimp only at hSw); go_simp <;> with_reducible rfl
                            simp only [Act.put, List.setIfInBounds_toArray, List.set_cons_zero, List.set_cons_succ]
                            refine wpAnyH_take (i := 21) (oi := (⟨some 89, _, _, _, _, _⟩ : Oper)) (v := ?_) rfl (by kernel_rfl) (by kernel_rfl) (by kernel_rfl) (fun _ _ _ h => h) (Or.inl ⟨by rfl, ?_⟩) (by assumption) ?_
                            rotate_left
                            · intro wS hSw; (try dsimp only at hSw); go_simp <;> with_reducible rfl
                            simp only [Act.put, List.setIfInBounds_toArray, List.set_cons_zero, List.set_cons_succ]
                            refine wpAnyH_ready (rs := [22]) (by kernel_rfl) (by simp) ?_
                            refine AllReadyH.cons (o := (⟨some 90, _, _, _, _, _⟩ : Oper)) rfl (fun K hK => ?_) ?_
                            rotate_left
                            · exact AllReadyH.nil
                            go_simp
                            (go_at_call 45; (with_reducible refine (HCM.out _ r1).mono ?_); rintro x w2 ⟨rfl, hb2⟩; have r2 := r1.trans (hb2.mono hz1); have hz2 : wr.heap.size ≤ w2.heap.size := r2.size; clear hb2)
                            refine hK.out _ _ ?_ (fun hHeld => ?_)
                            · (try dsimp only); exact KEEP.out _ r2
                            clear hK K
                            try simp only [Act.put, List.setIfInBounds_toArray, List.set_cons_zero, List.set_cons_succ]
                            refine wpAnyH_take (i := 23) (oi := (⟨some 91, _, _, _, _, _⟩ : Oper)) (v := ?_) rfl (by kernel_rfl) (by kernel_rfl) (by kernel_rfl) (fun _ _ _ h => h) (Or.inl ⟨by rfl, ?_⟩) (by assumption) ?_
                            rotate_left
                            · intro wS hSw; (try dsimp only at hSw); go_simp <;> with_reducible rfl
                            simp only [Act.put, List.setIfInBounds_toArray, List.set_cons_zero, List.set_cons_succ]
                            refine wpAnyH_take (i := 24) (oi := (⟨some 92, _, _, _, _, _⟩ : Oper)) (v := ?_) rfl (by kernel_rfl) (by kernel_rfl) (by kernel_rfl) (fun _ _ _ h => h) (Or.inl ⟨by rfl, ?_⟩) (by assumption) ?_
                            rotate_left
                            · intro wS hSw; (try dsimp only at hSw); go_simp <;> with_reducible rfl
                            simp only [Act.put, List.setIfInBounds_toArray, List.set_cons_zero, List.set_cons_succ]
                            refine wpAnyH_take (i := 25) (oi := (⟨some 93, _, _, _, _, _⟩ : Oper)) (v := ?_) rfl (by kernel_rfl) (by kernel_rfl) (by kernel_rfl) (fun _ _ _ h => h) (Or.inl ⟨by rfl, ?_⟩) (by assumption) ?_
                            rotate_left
                            · intro wS hSw; (try dsimp only at hSw); go_simp <;> with_reducible rfl
                            simp only [Act.put, List.setIfInBounds_toArray, List.set_cons_zero, List.set_cons_succ]
                            refine wpAnyH_done (by kernel_rfl) ?_ _
                            have HRB := Lib.hid r2
                            clear r2
                            go_wp2_with fail
                            go_ret
                            exact ⟨ret_int (by rw [HRR.out, HQT.out]; rfl), HB.out.trans (HRB.out.mono hsz)⟩
                    · obtain rfl : i = f.ents.length := by omega
                      rw [ordG_end] at hres
                      subst hres
                      have hlt' : ¬ ((f.ents.length : Int) < f.ents.length) := by omega
                      go_wp2_with fail
                      go_ret
                      exact ⟨ret_int (by rw [HQT.out]; rfl), HB.out⟩
  · have q64 : (64 : Int) < f.path.length := by omega
    rw [decide_eq_false h64, Bool.false_and]
    clear h64
    go_enter Tryd.func29, Tryd.ntmps29
    go_wp2_with (first
      | (go_at_call 65; (with_reducible refine (H0.out _).mono ?_); rintro x w1 ⟨rfl, hb1⟩; have r1 := R0.out.trans (hb1.mono (by simp)); have hz1 : w.heap.size + 1 ≤ w1.heap.size := (by have := r1.size; simpa using this); obtain ⟨k0, k1, k2, k3, k4, k5⟩ := KEEP.out _ r1; clear hb1)
      | (go_at_call 65; (with_reducible refine (H1.out _).mono ?_); rintro x w2 ⟨rfl, hb2⟩; have r2 := r1.trans (hb2.mono hz1); have hz2 : w.heap.size + 1 ≤ w2.heap.size := (by have := r2.size; simpa using this); clear k0 k1 k2 k3 k4 k5; obtain ⟨k0, k1, k2, k3, k4, k5⟩ := KEEP.out _ r2; clear hb2)
      | (go_at_call 65; (with_reducible refine (H2.out _).mono ?_); rintro x w3 ⟨rfl, hb3⟩; have r3 := r2.trans (hb3.mono hz2); have hz3 : w.heap.size + 1 ≤ w3.heap.size := (by have := r3.size; simpa using this); clear k0 k1 k2 k3 k4 k5; obtain ⟨k0, k1, k2, k3, k4, k5⟩ := KEEP.out _ r3; clear hb3)
      | (go_at_call 66; refine (HTI.out _).mono ?_; rintro x w3 ⟨rfl, rfl⟩))
    go_ret
    exact ⟨rfl, HA0.out.trans (R0.out.mono (Nat.le_succ _))⟩
end Go.Proofs.YtadkgjbidhfefaaDoor
