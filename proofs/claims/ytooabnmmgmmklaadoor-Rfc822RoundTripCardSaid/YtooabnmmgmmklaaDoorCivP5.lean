/-
  Walks of chapter 2, what chapter 4 uses of it: day numbers of dates, seconds of times (program and reference).
-/
import Derived.Test.YtooabnmmgmmklaaDoorCivP4
import Derived.Test.YtooabnmmgmmklaaDoorDate4
set_option linter.unusedVariables false
namespace Go.Proofs.YtooabnmmgmmklaaDoor
open Go.RowKit

theorem valI {k : IntKind} {a b : Int} (h : a = b) : Value.int k a = .int k b := by rw [h]
theorem mon_12 {y : Int} {k : Nat} (h1 : 1 ≤ y) (h2 : y ≤ 9999) (hk : k ≤ 12) : 0 ≤ mon y k ∧ mon y k ≤ 366 := by
  have := mon_year h1 h2
  have := ylen_pos y
  have := mon_mono (y := y) hk
  exact ⟨mon_nonneg y k, by omega⟩
theorem mon_next (y : Int) (k : Nat) : mon y (k + 1) = mon y k + dimY y ((k : Int) + 1) := by rw [mon]
theorem bef_bound {y : Int} (h1 : 1 ≤ y) (h2 : y ≤ 9999) : 0 ≤ bef y ∧ bef y ≤ 3652059 := by
  have a := bef_mono (by decide) h1 (by omega)
  have b := bef_mono h1 (show y ≤ 10000 by omega) (by decide)
  rw [bef_one] at a
  rw [bef_end] at b
  exact ⟨a, b⟩
set_option maxHeartbeats 4000000 in
theorem days_any (y m d : Int) (w : World) :
    Calls Tryd.prog 57 #[.int .i64 y, .int .i64 m, .int .i64 d] w fun e w' => e = .returned (.tuple #[.int .i64 (if isDate y m d = true then dayNo y m d else 0), .int .i64 (if isDate y m d = true then 0 else 3)]) ∧ w = w' := by
  have hl := daysIn_any
  have HL := Lib.hid hl
  clear hl
  by_cases hd : isDate y m d = true
  case neg =>
    rw [if_neg hd, if_neg hd]
    have hd' : d < 1 ∨ dimY y m < d := by
      have := mt isDate_iff.2 hd
      omega
    clear hd
    go_enter Tryd.func57, Tryd.ntmps57
    go_wp2_with (go_at_call 70; refine (HL.out _ _ _).mono ?_; rintro e w2 ⟨rfl, rfl⟩)
    all_goals first
      | (go_ret2; exact ⟨rfl, rfl⟩)
      | (exfalso; omega)
  case pos =>
    rw [if_pos hd, if_pos hd]
    obtain ⟨y1, y2, m1, m2, d1, d2⟩ := isDate_in hd
    have hdim := (isDate_iff.1 hd).2
    have hbef := bef_bound y1 y2
    have hbd : bef y = 365 * (y - 1) + (y - 1) / 4 - (y - 1) / 100 + (y - 1) / 400 := rfl
    have q4 : (y - 1).tdiv 4 = (y - 1) / 4 := tdiv_pos (by omega)
    have q100 : (y - 1).tdiv 100 = (y - 1) / 100 := tdiv_pos (by omega)
    have q400 : (y - 1).tdiv 400 = (y - 1) / 400 := tdiv_pos (by omega)
    have hn : dayNo y m d = bef y + mon y (m - 1).toNat + d - 1 - 719162 := rfl
    generalize hB : bef y = B at *
    generalize hN : dayNo y m d = N at *
    have HN := Lib.hid hn
    have HB := Lib.hid hbd
    clear hn hbd hB hN hd
    go_enter Tryd.func57, Tryd.ntmps57
    go_wp2_with (go_at_call 70; refine (HL.out _ _ _).mono ?_; rintro e w2 ⟨rfl, rfl⟩)
    go_loopw [9, 10, 38] (fun s9 _ s38 wr => ∃ k : Nat, (k : Int) ≤ m - 1 ∧ s9 = .int .i64 (B + d - 1 + mon y k) ∧ s38 = .int .i64 (k : Int) ∧ w = wr) (fun _ _ s38 _ => (m - 1 - intOf s38).toNat)
    case atStart => exact ⟨0, by omega, valI (by have := HB.out; rw [mon]; omega), rfl, rfl⟩
    case round =>
      obtain ⟨k, hk, rfl, rfl, rfl⟩ := hrel
      have hmk := mon_12 y1 y2 (show k ≤ 12 by omega)
      have hdk := dimY_le y ((k : Int) + 1)
      go_wp2_with (go_at_call 70; refine (HL.out _ _ _).mono ?_; rintro e w2 ⟨rfl, rfl⟩)
      · exact ⟨⟨k + 1, by omega, valI (by rw [mon_next]; omega), valI (by omega), trivial⟩, by simp [intOf]; omega⟩
      · have e : (k : Int) = m - 1 := by omega
        go_ret2
        exact ⟨ret_II (by rw [HN.out, show (m - 1).toNat = k by omega]; omega) rfl, rfl⟩
theorem secOf_yes {y m d h mi s : Int} (hd : isDate y m d = true) (hh : 0 ≤ h ∧ h ≤ 23 ∧ 0 ≤ mi ∧ mi ≤ 59 ∧ 0 ≤ s ∧ s ≤ 59) : secOf y m d h mi s = some (dayNo y m d * 86400 + h * 3600 + mi * 60 + s) := if_pos ⟨hd, hh⟩
theorem secOf_no {y m d h mi s : Int} (hh : isDate y m d = false ∨ ¬ (0 ≤ h ∧ h ≤ 23 ∧ 0 ≤ mi ∧ mi ≤ 59 ∧ 0 ≤ s ∧ s ≤ 59)) : secOf y m d h mi s = none := if_neg fun h2 => by
  rcases hh with hh | hh
  · rw [h2.1] at hh; cases hh
  · exact hh h2.2
/-- What Seconds hands back: the number and the error. -/
def secA (o : Option Int) : Int := match o with | some t => t | none => 0
def secE (o : Option Int) : Int := match o with | some _ => 0 | none => 3
set_option maxHeartbeats 4000000 in
theorem seconds_any (y m d hr mi s : Int) (w : World) :
    Calls Tryd.prog 32 #[.int .i64 y, .int .i64 m, .int .i64 d, .int .i64 hr, .int .i64 mi, .int .i64 s] w fun e w' =>
      e = .returned (.tuple #[.int .i64 (secA (secOf y m d hr mi s)), .int .i64 (secE (secOf y m d hr mi s))]) ∧ Below w.heap.size w w' := by
  have hl := days_any y m d
  have HL := Lib.hid hl
  clear hl
  obtain ⟨R, hR⟩ : ∃ R, secOf y m d hr mi s = R := ⟨_, rfl⟩
  rw [hR]
  obtain ⟨A, hA⟩ : ∃ A, secA R = A := ⟨_, rfl⟩
  obtain ⟨E, hE⟩ : ∃ E, secE R = E := ⟨_, rfl⟩
  rw [hA, hE]
  have HR := Lib.hid hR
  have HA := Lib.hid hA
  have HE := Lib.hid hE
  clear hR hA hE
  by_cases hd : isDate y m d = true
  case neg =>
    rw [if_neg hd, if_neg hd] at HL
    have hd2 : isDate y m d = false := by simpa using hd
    go_enter Tryd.func32, Tryd.ntmps32
    go_wp2_with (go_at_call 57; refine (HL.out _).mono ?_; rintro e w2 ⟨rfl, rfl⟩)
    all_goals go_ret2
    all_goals exact ⟨ret_II (by rw [← HA.out, ← HR.out, secOf_no (.inl hd2)]; rfl) (by rw [← HE.out, ← HR.out, secOf_no (.inl hd2)]; rfl), by first | exact Below.refl _ _ | exact (Below.refl _ _).alloc (Nat.le_refl _) _⟩
  case pos =>
    rw [if_pos hd, if_pos hd] at HL
    have hb := dayNo_in hd
    obtain ⟨N, hN⟩ : ∃ N, dayNo y m d = N := ⟨_, rfl⟩
    rw [hN] at HL hb
    have HN := Lib.hid hN
    clear hN
    obtain ⟨b1, b2⟩ := hb
    go_enter Tryd.func32, Tryd.ntmps32
    go_wp2_with (go_at_call 57; refine (HL.out _).mono ?_; rintro e w2 ⟨rfl, rfl⟩)
    all_goals go_ret2
    all_goals first
      | exact ⟨ret_II (by rw [← HA.out, ← HR.out, secOf_no (.inr (by omega))]; rfl) (by rw [← HE.out, ← HR.out, secOf_no (.inr (by omega))]; rfl), by first | exact Below.refl _ _ | exact (Below.refl _ _).alloc (Nat.le_refl _) _⟩
      | exact ⟨ret_II (by rw [← HA.out, ← HR.out, secOf_yes hd (by omega), HN.out]; first | rfl | (show _ = N * 86400 + hr * 3600 + mi * 60 + s; omega)) (by rw [← HE.out, ← HR.out, secOf_yes hd (by omega)]; rfl), by first | exact Below.refl _ _ | exact (Below.refl _ _).alloc (Nat.le_refl _) _⟩
set_option maxHeartbeats 4000000 in
theorem refBefore_any (y : Int) (y1 : 1 ≤ y) (y2 : y ≤ 9999) (w : World) :
    Calls Tryd.prog 60 #[.int .i64 y] w fun e w' => e = .returned (.int .i64 (bef y)) ∧ w = w' := by
  have hl := refLeap_any
  have HL := Lib.hid hl
  clear hl
  go_enter Tryd.func60, Tryd.ntmps60
  go_wp2_with fail
  go_loopw [3, 4] (fun s3 s4 wr => ∃ i : Int, 1 ≤ i ∧ i ≤ y ∧ s4 = .int .i64 i ∧ s3 = .int .i64 (bef i) ∧ w = wr) (fun _ s4 _ => (y - intOf s4).toNat)
  case atStart => exact ⟨1, by omega, y1, rfl, valI bef_one.symm, rfl⟩
  case round =>
    obtain ⟨i, i1, i2, rfl, rfl, rfl⟩ := hrel
    have hb := bef_bound i1 (by omega)
    have hn : i < y → bef (i + 1) = bef i + ylen i := fun h => bef_next i1 (by omega)
    have HN := Lib.hid hn
    clear hn
    go_wp2_with (go_at_call 74; refine (HL.out _ _).mono ?_; rintro e w2 ⟨rfl, rfl⟩)
    · rename_i hi hl
      refine ⟨⟨i + 1, by omega, by omega, rfl, valI (by rw [HN.out hi]; unfold ylen; rw [if_pos hl]; omega), ?_⟩, by simp [intOf]; omega⟩
      first | trivial | rfl
    · rename_i hi hl
      refine ⟨⟨i + 1, by omega, by omega, rfl, valI (by rw [HN.out hi]; unfold ylen; rw [if_neg (by rw [hl]; decide)]), ?_⟩, by simp [intOf]; omega⟩
      first | trivial | rfl
    · have e : i = y := by omega
      subst e
      go_ret
      exact ⟨rfl, rfl⟩
set_option maxHeartbeats 4000000 in
theorem refDays_any (y m d : Int) (w : World) :
    Calls Tryd.prog 38 #[.int .i64 y, .int .i64 m, .int .i64 d] w fun e w' => e = .returned (.tuple #[.int .i64 (if isDate y m d = true then dayNo y m d else 0), .int .i64 (if isDate y m d = true then 0 else 3)]) ∧ w = w' := by
  have hl := refDaysIn_any
  have HL := Lib.hid hl
  clear hl
  have hbf := refBefore_any y
  have HBF := Lib.hid hbf
  clear hbf
  by_cases hd : isDate y m d = true
  case neg =>
    rw [if_neg hd, if_neg hd]
    have hd' : d < 1 ∨ dimY y m < d := by
      have := mt isDate_iff.2 hd
      omega
    clear hd
    go_enter Tryd.func38, Tryd.ntmps38
    go_wp2_with (go_at_call 59; refine (HL.out _ _ _).mono ?_; rintro e w2 ⟨rfl, rfl⟩)
    all_goals first
      | (go_ret2; exact ⟨rfl, rfl⟩)
      | (exfalso; omega)
  case pos =>
    rw [if_pos hd, if_pos hd]
    obtain ⟨y1, y2, m1, m2, d1, d2⟩ := isDate_in hd
    have hdim := (isDate_iff.1 hd).2
    have hbef := bef_bound y1 y2
    have hn : dayNo y m d = bef y + mon y (m - 1).toNat + d - 1 - 719162 := rfl
    generalize hB : bef y = B at *
    generalize hN : dayNo y m d = N at *
    have HN := Lib.hid hn
    have hbf2 := HBF.out y1 y2
    have HB2 := Lib.hid hbf2
    clear hn hB hN hd hbf2 HBF
    go_enter Tryd.func38, Tryd.ntmps38
    go_wp2_with (first | (go_at_call 59; refine (HL.out _ _ _).mono ?_; rintro e w2 ⟨rfl, rfl⟩) | (go_at_call 60; refine (HB2.out _).mono ?_; rintro e w2 ⟨rfl, rfl⟩))
    go_loopw [8, 9] (fun s8 s9 wr => ∃ k : Nat, (k : Int) ≤ m - 1 ∧ s8 = .int .i64 (B - 719162 + mon y k) ∧ s9 = .int .i64 ((k : Int) + 1) ∧ w = wr) (fun _ s9 _ => (m - intOf s9).toNat)
    case atStart => exact ⟨0, by omega, valI (by rw [mon]; omega), rfl, rfl⟩
    case round =>
      obtain ⟨k, hk, rfl, rfl, rfl⟩ := hrel
      have hmk := mon_12 y1 y2 (show k ≤ 12 by omega)
      have hdk := dimY_le y ((k : Int) + 1)
      go_wp2_with (go_at_call 59; refine (HL.out _ _ _).mono ?_; rintro e w2 ⟨rfl, rfl⟩)
      · exact ⟨⟨k + 1, by omega, valI (by rw [mon_next]; omega), valI (by omega), trivial⟩, by simp [intOf]; omega⟩
      · have e : (k : Int) = m - 1 := by omega
        go_ret2
        exact ⟨ret_II (by rw [HN.out, show (m - 1).toNat = k by omega]; omega) rfl, rfl⟩
set_option maxHeartbeats 4000000 in
theorem refSeconds_any (y m d hr mi s : Int) (w : World) :
    Calls Tryd.prog 14 #[.int .i64 y, .int .i64 m, .int .i64 d, .int .i64 hr, .int .i64 mi, .int .i64 s] w fun e w' =>
      e = .returned (.tuple #[.int .i64 (secA (secOf y m d hr mi s)), .int .i64 (secE (secOf y m d hr mi s))]) ∧ Below w.heap.size w w' := by
  have hl := refDays_any y m d
  have HL := Lib.hid hl
  clear hl
  obtain ⟨R, hR⟩ : ∃ R, secOf y m d hr mi s = R := ⟨_, rfl⟩
  rw [hR]
  obtain ⟨A, hA⟩ : ∃ A, secA R = A := ⟨_, rfl⟩
  obtain ⟨E, hE⟩ : ∃ E, secE R = E := ⟨_, rfl⟩
  rw [hA, hE]
  have HR := Lib.hid hR
  have HA := Lib.hid hA
  have HE := Lib.hid hE
  clear hR hA hE
  by_cases hd : isDate y m d = true
  case neg =>
    rw [if_neg hd, if_neg hd] at HL
    have hd2 : isDate y m d = false := by simpa using hd
    go_enter Tryd.func14, Tryd.ntmps14
    go_wp2_with (go_at_call 38; refine (HL.out _).mono ?_; rintro e w2 ⟨rfl, rfl⟩)
    all_goals go_ret2
    all_goals exact ⟨ret_II (by rw [← HA.out, ← HR.out, secOf_no (.inl hd2)]; rfl) (by rw [← HE.out, ← HR.out, secOf_no (.inl hd2)]; rfl), by first | exact Below.refl _ _ | exact (Below.refl _ _).alloc (Nat.le_refl _) _⟩
  case pos =>
    rw [if_pos hd, if_pos hd] at HL
    have hb := dayNo_in hd
    obtain ⟨N, hN⟩ : ∃ N, dayNo y m d = N := ⟨_, rfl⟩
    rw [hN] at HL hb
    have HN := Lib.hid hN
    clear hN
    obtain ⟨b1, b2⟩ := hb
    go_enter Tryd.func14, Tryd.ntmps14
    go_wp2_with (go_at_call 38; refine (HL.out _).mono ?_; rintro e w2 ⟨rfl, rfl⟩)
    all_goals go_ret2
    all_goals first
      | exact ⟨ret_II (by rw [← HA.out, ← HR.out, secOf_no (.inr (by omega))]; rfl) (by rw [← HE.out, ← HR.out, secOf_no (.inr (by omega))]; rfl), by first | exact Below.refl _ _ | exact (Below.refl _ _).alloc (Nat.le_refl _) _⟩
      | exact ⟨ret_II (by rw [← HA.out, ← HR.out, secOf_yes hd (by omega), HN.out]; first | rfl | (show _ = N * 86400 + hr * 3600 + mi * 60 + s; omega)) (by rw [← HE.out, ← HR.out, secOf_yes hd (by omega)]; rfl), by first | exact Below.refl _ _ | exact (Below.refl _ _).alloc (Nat.le_refl _) _⟩
end Go.Proofs.YtooabnmmgmmklaaDoor
