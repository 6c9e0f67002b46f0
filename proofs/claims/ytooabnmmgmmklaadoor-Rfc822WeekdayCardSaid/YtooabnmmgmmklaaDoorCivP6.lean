/-
  Walks of chapter 2, what chapter 4 uses of it: the date of a day number (program and reference).
-/
import Derived.Test.YtooabnmmgmmklaaDoorCivP5
set_option linter.unusedVariables false
namespace Go.Proofs.YtooabnmmgmmklaaDoor
open Go.RowKit

/-- Where a year is left. -/
theorem year_step {y i L : Int} (y1 : 1 ≤ y) (y2 : y ≤ 9999) (i1 : 1 ≤ i) (i2 : i ≤ y) (h1 : bef y ≤ L) (h2 : L < bef y + ylen y) (hi : bef i ≤ L) :
    (ylen i ≤ L - bef i → i + 1 ≤ y ∧ bef (i + 1) = bef i + ylen i) ∧ (L - bef i < ylen i → i = y) := by
  refine ⟨fun h => ?_, fun h => year_unique i1 (by omega) y1 y2 hi (by omega) h1 h2⟩
  have e := bef_next i1 (show i ≤ 9999 by omega)
  refine ⟨?_, e⟩
  by_cases hc : i + 1 ≤ y
  · exact hc
  · have : i = y := by omega
    subst this
    omega
theorem month_step {y l : Int} {j k : Nat} (h1 : mon y j ≤ l) (h2 : l < mon y (j + 1)) (hk : k ≤ j) (hl : mon y k ≤ l) :
    (dimY y ((k : Int) + 1) ≤ l - mon y k → k + 1 ≤ j ∧ mon y (k + 1) = mon y k + dimY y ((k : Int) + 1)) ∧ (l - mon y k < dimY y ((k : Int) + 1) → k = j) := by
  have e := mon_next y k
  refine ⟨fun h => ⟨?_, e⟩, fun h => month_unique hl (by omega) h1 h2⟩
  by_cases hc : k + 1 ≤ j
  · exact hc
  · have : k = j := by omega
    subst this
    omega
theorem ret_4 {a b c a' b' c' : Int} (h1 : a = a') (h2 : b = b') (h3 : c = c') : Ending.returned (.tuple #[.int .i64 a, .int .i64 b, .int .i64 c, .int .i64 0]) = .returned (.tuple #[.int .i64 a', .int .i64 b', .int .i64 c', .int .i64 0]) := by rw [h1, h2, h3]
theorem results_tmp4 {fn : Func} {t u v x : Tmp} (h : fn.results = #[.tmp t, .tmp u, .tmp v, .tmp x]) (tmps : Array Value) (P : Program) (w : World) :
    (results fn tmps).run P w = .ok (.tuple #[tmps.getD t undef, tmps.getD u undef, tmps.getD v undef, tmps.getD x undef]) w := by
  simp [results, h]
set_option maxHeartbeats 4000000 in
theorem refDate_any (days y m d : Int) (hd : isDate y m d = true) (he : dayNo y m d = days) (w : World) :
    Calls Tryd.prog 51 #[.int .i64 days] w fun e w' => e = .returned (.tuple #[.int .i64 y, .int .i64 m, .int .i64 d, .int .i64 0]) ∧ w = w' := by
  have hl := refLeap_any
  have HL := Lib.hid hl
  have hi := refDaysIn_any
  have HI := Lib.hid hi
  clear hl hi
  have hb := dayNo_in hd
  obtain ⟨y1, y2, m1, m2, d1, d2⟩ := isDate_in hd
  have hdim := (isDate_iff.1 hd).2
  have hbef := bef_bound y1 y2
  have hn : dayNo y m d = bef y + mon y (m - 1).toNat + d - 1 - 719162 := rfl
  rw [he] at hb hn
  obtain ⟨j, hj⟩ : ∃ j : Nat, m = (j : Int) + 1 := ⟨(m - 1).toNat, by omega⟩
  subst hj
  have ej : ((j : Int) + 1 - 1).toNat = j := by omega
  rw [ej] at hn
  have hmj := mon_12 y1 y2 (show j ≤ 12 by omega)
  have hmj2 := mon_12 y1 y2 (show j + 1 ≤ 12 by omega)
  have hnx := mon_next y j
  have hyl : mon y (j + 1) ≤ ylen y := by rw [← mon_year y1 y2]; exact mon_mono (by omega)
  obtain ⟨b1, b2⟩ := hb
  obtain ⟨L, hL⟩ : ∃ L, days + 719162 = L := ⟨_, rfl⟩
  have hyl2 := ylen_pos y
  have k1 : bef y ≤ L := by omega
  have k2 : L < bef y + ylen y := by omega
  have k3 : mon y j ≤ L - bef y := by omega
  have k4 : L - bef y < mon y (j + 1) := by omega
  have k5 : L - bef y - mon y j + 1 = d := by omega
  have L1 : 0 ≤ L := by omega
  have L2 : L ≤ 3652058 := by omega
  have HY := Lib.hid (fun (i : Int) (i1 : 1 ≤ i) (i2 : i ≤ y) (hi : bef i ≤ L) => year_step y1 y2 i1 i2 k1 k2 hi)
  have HM := Lib.hid (fun (k : Nat) (hk : k ≤ j) (hl : mon y k ≤ L - bef y) => month_step k3 k4 hk hl)
  have HD := Lib.hid k5
  have HK := Lib.hid (show 0 ≤ L - bef y ∧ L - bef y ≤ 366 from ⟨by omega, by omega⟩)
  have HLL := Lib.hid hL
  clear hn hdim hmj hmj2 hnx hyl k1 k2 k3 k4 k5 hd he hyl2 ej hL d1 d2
  go_enter Tryd.func51, Tryd.ntmps51
  go_wp2_with fail
  go_loopw [6, 7, 8] (fun s6 s7 _ wr => ∃ i : Int, 1 ≤ i ∧ i ≤ y ∧ bef i ≤ L ∧ s7 = .int .i64 i ∧ s6 = .int .i64 (L - bef i) ∧ w = wr) (fun _ s7 _ _ => (y - intOf s7).toNat)
  case atStart => exact ⟨1, by omega, y1, by rw [bef_one]; exact L1, rfl, valI (by have := HLL.out; rw [bef_one]; omega), rfl⟩
  case round =>
    obtain ⟨i, i1, i2, i3, rfl, rfl, rfl⟩ := hrel
    have hbi := bef_bound i1 (by omega)
    have hs := HY.out i i1 i2 i3
    have HS := Lib.hid hs
    clear hs
    go_wp2_with (go_at_call 74; refine (HL.out _ _).mono ?_; rintro e w2 ⟨rfl, rfl⟩)
    · have hle : leapY i = true := by assumption
      have hlt : L - bef i < 366 := by assumption
      have e : i = y := HS.out.2 (by unfold ylen; rw [if_pos hle]; exact hlt)
      subst e
      have hk := HK.out
      (try simp only [hle, hlt, decide_true])
      go_loopw [6, 9] (fun s6 s9 wr => ∃ k : Nat, k ≤ j ∧ mon i k ≤ L - bef i ∧ s9 = .int .i64 ((k : Int) + 1) ∧ s6 = .int .i64 (L - bef i - mon i k) ∧ w = wr) (fun _ s9 _ => ((j : Int) + 1 - intOf s9).toNat)
      case atStart => exact ⟨0, Nat.zero_le _, by rw [mon]; omega, valI (by omega), valI (by rw [mon]; omega), rfl⟩
      case round =>
        obtain ⟨k, k1, k2, rfl, rfl, rfl⟩ := hrel
        have hmk := mon_12 y1 y2 (show k ≤ 12 by omega)
        have hdk := dimY_le i ((k : Int) + 1)
        have hms := HM.out k k1 k2
        have HMS := Lib.hid hms
        clear hms
        go_wp2_with (go_at_call 59; refine (HI.out _ _ _).mono ?_; rintro e w2 ⟨rfl, rfl⟩)
        · have hs := HMS.out.1 (by assumption)
          go_roundw
          case rel => exact ⟨k + 1, hs.1, by rw [hs.2]; omega, valI (by omega), valI (by rw [hs.2]; omega), trivial⟩
          case measure => simp [intOf]; omega
        · have e2 : k = j := HMS.out.2 (by assumption)
          subst e2
          (try simp only [Exit.inBlock, Exit.then])
          refine bodyPost_ret (results_tmp4 rfl _ _ _) rfl ?_
          exact ⟨ret_4 rfl (by omega) HD.out, rfl⟩
    · have hle : leapY i = true := by assumption
      have hlt : 366 ≤ L - bef i := by assumption
      have hs := HS.out.1 (by unfold ylen; rw [if_pos hle]; exact hlt)
      refine ⟨⟨i + 1, by omega, hs.1, by rw [hs.2]; unfold ylen; rw [if_pos hle]; omega, rfl, valI (by rw [hs.2]; unfold ylen; rw [if_pos hle]; omega), ?_⟩, by simp [intOf]; omega⟩
      first | trivial | rfl
    · have hle : leapY i = false := by assumption
      have hlt : L - bef i < 365 := by assumption
      have e : i = y := HS.out.2 (by unfold ylen; rw [if_neg (by rw [hle]; decide)]; exact hlt)
      subst e
      have hk := HK.out
      (try simp only [hle, hlt, decide_true])
      go_loopw [6, 9] (fun s6 s9 wr => ∃ k : Nat, k ≤ j ∧ mon i k ≤ L - bef i ∧ s9 = .int .i64 ((k : Int) + 1) ∧ s6 = .int .i64 (L - bef i - mon i k) ∧ w = wr) (fun _ s9 _ => ((j : Int) + 1 - intOf s9).toNat)
      case atStart => exact ⟨0, Nat.zero_le _, by rw [mon]; omega, valI (by omega), valI (by rw [mon]; omega), rfl⟩
      case round =>
        obtain ⟨k, k1, k2, rfl, rfl, rfl⟩ := hrel
        have hmk := mon_12 y1 y2 (show k ≤ 12 by omega)
        have hdk := dimY_le i ((k : Int) + 1)
        have hms := HM.out k k1 k2
        have HMS := Lib.hid hms
        clear hms
        go_wp2_with (go_at_call 59; refine (HI.out _ _ _).mono ?_; rintro e w2 ⟨rfl, rfl⟩)
        · have hs := HMS.out.1 (by assumption)
          go_roundw
          case rel => exact ⟨k + 1, hs.1, by rw [hs.2]; omega, valI (by omega), valI (by rw [hs.2]; omega), trivial⟩
          case measure => simp [intOf]; omega
        · have e2 : k = j := HMS.out.2 (by assumption)
          subst e2
          (try simp only [Exit.inBlock, Exit.then])
          refine bodyPost_ret (results_tmp4 rfl _ _ _) rfl ?_
          exact ⟨ret_4 rfl (by omega) HD.out, rfl⟩
    · have hle : leapY i = false := by assumption
      have hlt : 365 ≤ L - bef i := by assumption
      have hs := HS.out.1 (by unfold ylen; rw [if_neg (by rw [hle]; decide)]; exact hlt)
      refine ⟨⟨i + 1, by omega, hs.1, by rw [hs.2]; unfold ylen; rw [if_neg (by rw [hle]; decide)]; omega, rfl, valI (by rw [hs.2]; unfold ylen; rw [if_neg (by rw [hle]; decide)]; omega), ?_⟩, by simp [intOf]; omega⟩
      first | trivial | rfl
end Go.Proofs.YtooabnmmgmmklaaDoor
