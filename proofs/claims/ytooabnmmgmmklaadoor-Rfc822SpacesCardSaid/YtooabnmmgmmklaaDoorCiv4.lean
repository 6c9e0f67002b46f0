/-
  Plain functions of chapter 2 (civil): years, months and day numbers, by counting and by cycles. No program.
-/
import Derived.Test.YtooabnmmgmmklaaDoorUtf
set_option linter.unusedVariables false
namespace Go.Proofs.YtooabnmmgmmklaaDoor

/-! Years. -/
def leapY (y : Int) : Bool := decide (1 ≤ y ∧ y ≤ 9999 ∧ y % 4 = 0 ∧ (y % 100 ≠ 0 ∨ y % 400 = 0))
theorem leapY_iff {y : Int} : leapY y = true ↔ (1 ≤ y ∧ y ≤ 9999 ∧ y % 4 = 0 ∧ (y % 100 ≠ 0 ∨ y % 400 = 0)) := by unfold leapY; simp
/-- The length of a year. -/
def ylen (y : Int) : Int := if leapY y = true then 366 else 365
theorem ylen_cases (y : Int) : (leapY y = true ∧ ylen y = 366) ∨ (leapY y = false ∧ ylen y = 365) := by
  unfold ylen
  cases leapY y <;> simp
/-- The days ahead of a year, from the year 1 on. -/
def bef (y : Int) : Int := 365 * (y - 1) + (y - 1) / 4 - (y - 1) / 100 + (y - 1) / 400
theorem bef_one : bef 1 = 0 := by decide
theorem quot_next {y n : Int} (hn : 0 < n) : (y % n = 0 → y / n = (y - 1) / n + 1) ∧ (y % n ≠ 0 → y / n = (y - 1) / n) := by
  have e := Int.mul_ediv_add_emod y n
  have r1 := Int.emod_nonneg y (show n ≠ 0 by omega)
  have r2 := Int.emod_lt_of_pos y hn
  constructor
  · intro h
    have : (y - 1) / n = y / n - 1 := ((Int.ediv_emod_unique hn (r := n - 1)).2 ⟨by rw [Int.mul_sub, Int.mul_one]; omega, by omega, by omega⟩).1
    omega
  · intro h
    have : (y - 1) / n = y / n := ((Int.ediv_emod_unique hn (r := y % n - 1)).2 ⟨by omega, by omega, by omega⟩).1
    omega
theorem bef_next {y : Int} (h1 : 1 ≤ y) (h2 : y ≤ 9999) : bef (y + 1) = bef y + ylen y := by
  obtain ⟨p4, n4⟩ := quot_next (y := y) (n := 4) (by decide)
  obtain ⟨p100, n100⟩ := quot_next (y := y) (n := 100) (by decide)
  obtain ⟨p400, n400⟩ := quot_next (y := y) (n := 400) (by decide)
  have i1 : y % 100 = 0 → y % 4 = 0 := by omega
  have i2 : y % 400 = 0 → y % 100 = 0 := by omega
  have e : bef (y + 1) = 365 * y + y / 4 - y / 100 + y / 400 := by
    unfold bef
    rw [Int.add_sub_cancel]
  have e2 : bef y = 365 * (y - 1) + (y - 1) / 4 - (y - 1) / 100 + (y - 1) / 400 := rfl
  rw [e, e2]
  generalize (y - 1) / 4 = a at *
  generalize (y - 1) / 100 = b at *
  generalize (y - 1) / 400 = c at *
  generalize y / 4 = a' at *
  generalize y / 100 = b' at *
  generalize y / 400 = c' at *
  rcases ylen_cases y with ⟨hl, hy⟩ | ⟨hl, hy⟩
  · rw [leapY_iff] at hl
    rw [hy]
    generalize y % 4 = r at *
    generalize y % 100 = s at *
    generalize y % 400 = t at *
    omega
  · have hn : ¬ (leapY y = true) := by rw [hl]; decide
    rw [leapY_iff] at hn
    rw [hy]
    generalize y % 4 = r at *
    generalize y % 100 = s at *
    generalize y % 400 = t at *
    omega
theorem ylen_pos (y : Int) : 365 ≤ ylen y ∧ ylen y ≤ 366 := by rcases ylen_cases y with ⟨_, h⟩ | ⟨_, h⟩ <;> rw [h] <;> decide
theorem bef_mono {y z : Int} (h1 : 1 ≤ y) (h2 : y ≤ z) (h3 : z ≤ 10000) : bef y ≤ bef z := by
  obtain ⟨n, hn⟩ : ∃ n : Nat, z = y + n := ⟨(z - y).toNat, by omega⟩
  subst hn
  clear h2
  induction n with
  | zero => simp
  | succ n ih =>
    have := ih (by omega)
    have e : y + (n + 1 : Nat) = y + n + 1 := by omega
    rw [e, bef_next (by omega) (by omega)]
    have := ylen_pos (y + n)
    omega
/-- The year is known by its days. -/
theorem year_unique {y z l : Int} (hy1 : 1 ≤ y) (hy2 : y ≤ 9999) (hz1 : 1 ≤ z) (hz2 : z ≤ 9999) (h1 : bef y ≤ l) (h2 : l < bef y + ylen y) (h3 : bef z ≤ l) (h4 : l < bef z + ylen z) : y = z := by
  rw [← bef_next hy1 hy2] at h2
  rw [← bef_next hz1 hz2] at h4
  rcases Int.lt_trichotomy y z with h | h | h
  · have := bef_mono (y := y + 1) (z := z) (by omega) (by omega) (by omega); omega
  · exact h
  · have := bef_mono (y := z + 1) (z := y) (by omega) (by omega) (by omega); omega

/-! Months. -/
def dimY (y m : Int) : Int := if y < 1 ∨ 9999 < y ∨ m < 1 ∨ 12 < m then 0 else if m = 2 then (if leapY y = true then 29 else 28) else if m = 4 ∨ m = 6 ∨ m = 9 ∨ m = 11 then 30 else 31
theorem dimY_out {y m : Int} (h : y < 1 ∨ 9999 < y ∨ m < 1 ∨ 12 < m) : dimY y m = 0 := by unfold dimY; rw [if_pos h]
theorem dimY_in {y m : Int} (hy1 : 1 ≤ y) (hy2 : y ≤ 9999) (h1 : 1 ≤ m) (h2 : m ≤ 12) : dimY y m = if m = 2 then (if leapY y = true then 29 else 28) else if m = 4 ∨ m = 6 ∨ m = 9 ∨ m = 11 then 30 else 31 := by
  unfold dimY; rw [if_neg (by omega)]
/-- The other form of a month's length. -/
theorem dimY_form {y m : Int} (hy1 : 1 ≤ y) (hy2 : y ≤ 9999) (h1 : 1 ≤ m) (h2 : m ≤ 12) (h3 : m ≠ 2) : dimY y m = 30 + (m + m / 8) % 2 := by
  rw [dimY_in hy1 hy2 h1 h2, if_neg h3]
  have : m = 1 ∨ m = 3 ∨ m = 4 ∨ m = 5 ∨ m = 6 ∨ m = 7 ∨ m = 8 ∨ m = 9 ∨ m = 10 ∨ m = 11 ∨ m = 12 := by omega
  rcases this with rfl | rfl | rfl | rfl | rfl | rfl | rfl | rfl | rfl | rfl | rfl <;> decide
theorem dimY_pos {y m : Int} (hy1 : 1 ≤ y) (hy2 : y ≤ 9999) (h1 : 1 ≤ m) (h2 : m ≤ 12) : 28 ≤ dimY y m ∧ dimY y m ≤ 31 := by
  rw [dimY_in hy1 hy2 h1 h2]
  repeat' split
  all_goals omega
theorem dimY_le (y m : Int) : 0 ≤ dimY y m ∧ dimY y m ≤ 31 := by
  unfold dimY
  repeat' split
  all_goals omega
/-- The days of the first n months. -/
def mon (y : Int) : Nat → Int
  | 0 => 0
  | n + 1 => mon y n + dimY y ((n : Int) + 1)
theorem mon_year {y : Int} (h1 : 1 ≤ y) (h2 : y ≤ 9999) : mon y 12 = ylen y := by
  have hl : ylen y = if leapY y = true then 366 else 365 := rfl
  simp only [mon]
  rw [dimY_in h1 h2 (by decide) (by decide), dimY_in h1 h2 (by decide) (by decide), dimY_in h1 h2 (by decide) (by decide), dimY_in h1 h2 (by decide) (by decide), dimY_in h1 h2 (by decide) (by decide), dimY_in h1 h2 (by decide) (by decide), dimY_in h1 h2 (by decide) (by decide), dimY_in h1 h2 (by decide) (by decide), dimY_in h1 h2 (by decide) (by decide), dimY_in h1 h2 (by decide) (by decide), dimY_in h1 h2 (by decide) (by decide), dimY_in h1 h2 (by decide) (by decide), hl]
  cases leapY y <;> decide
theorem mon_mono {y : Int} {i j : Nat} (h : i ≤ j) : mon y i ≤ mon y j := by
  induction j with
  | zero => have : i = 0 := by omega
            subst this; exact Int.le_refl _
  | succ j ih =>
    by_cases h1 : i = j + 1
    · subst h1; exact Int.le_refl _
    · have := ih (by omega)
      have := dimY_le y ((j : Int) + 1)
      rw [mon]; omega
theorem mon_nonneg (y : Int) (i : Nat) : 0 ≤ mon y i := mon_mono (Nat.zero_le i)
/-- The month is known by its days. -/
theorem month_unique {y l : Int} {i j : Nat} (h1 : mon y i ≤ l) (h2 : l < mon y (i + 1)) (h3 : mon y j ≤ l) (h4 : l < mon y (j + 1)) : i = j := by
  rcases Nat.lt_trichotomy i j with h | h | h
  · have := mon_mono (y := y) (show i + 1 ≤ j by omega); omega
  · exact h
  · have := mon_mono (y := y) (show j + 1 ≤ i by omega); omega

/-! Dates and day numbers. -/
def isDate (y m d : Int) : Bool := decide (1 ≤ d ∧ d ≤ dimY y m)
theorem isDate_iff {y m d : Int} : isDate y m d = true ↔ 1 ≤ d ∧ d ≤ dimY y m := by unfold isDate; simp
theorem isDate_in {y m d : Int} (h : isDate y m d = true) : 1 ≤ y ∧ y ≤ 9999 ∧ 1 ≤ m ∧ m ≤ 12 ∧ 1 ≤ d ∧ d ≤ 31 := by
  rw [isDate_iff] at h
  have := dimY_le y m
  by_cases hh : y < 1 ∨ 9999 < y ∨ m < 1 ∨ 12 < m
  · rw [dimY_out hh] at h; omega
  · omega
/-- The number of a date's day, from 1970-01-01. -/
def dayNo (y m d : Int) : Int := bef y + mon y (m - 1).toNat + d - 1 - 719162
theorem bef_end : bef 10000 = 3652059 := by decide
theorem dayNo_in {y m d : Int} (h : isDate y m d = true) : -719162 ≤ dayNo y m d ∧ dayNo y m d ≤ 2932896 := by
  have hb := isDate_in h
  rw [isDate_iff] at h
  have h1 := mon_nonneg y (m - 1).toNat
  have h2 : mon y (m - 1).toNat + dimY y m ≤ mon y 12 := by
    have e : mon y ((m - 1).toNat + 1) = mon y (m - 1).toNat + dimY y m := by rw [mon]; congr 2; omega
    rw [← e]
    exact mon_mono (by omega)
  rw [mon_year hb.1 hb.2.1] at h2
  have h3 := bef_mono (y := 1) (z := y) (by decide) hb.1 (by omega)
  have h4 := bef_mono (y := y + 1) (z := 10000) (by omega) (by omega) (by decide)
  rw [bef_next hb.1 hb.2.1, bef_end] at h4
  rw [bef_one] at h3
  unfold dayNo; omega
/-- A date is known by its number. -/
theorem dayNo_inj {y m d y' m' d' : Int} (h : isDate y m d = true) (h' : isDate y' m' d' = true) (he : dayNo y m d = dayNo y' m' d') : y = y' ∧ m = m' ∧ d = d' := by
  have hb := isDate_in h
  have hb' := isDate_in h'
  rw [isDate_iff] at h h'
  have part : ∀ {y m d : Int}, 1 ≤ y ∧ y ≤ 9999 ∧ 1 ≤ m ∧ m ≤ 12 ∧ 1 ≤ d ∧ d ≤ 31 → 1 ≤ d ∧ d ≤ dimY y m → 0 ≤ mon y (m - 1).toNat + d - 1 ∧ mon y (m - 1).toNat + d - 1 < ylen y ∧ mon y (m - 1).toNat + d - 1 < mon y ((m - 1).toNat + 1) := by
    intro y m d hb h
    have h1 := mon_nonneg y (m - 1).toNat
    have e : mon y ((m - 1).toNat + 1) = mon y (m - 1).toNat + dimY y m := by rw [mon]; congr 2; omega
    have h2 : mon y ((m - 1).toNat + 1) ≤ mon y 12 := mon_mono (by omega)
    rw [mon_year hb.1 hb.2.1] at h2
    omega
  obtain ⟨a1, a2, a3⟩ := part hb h
  obtain ⟨b1, b2, b3⟩ := part hb' h'
  unfold dayNo at he
  have hy : y = y' := year_unique (l := bef y + (mon y (m - 1).toNat + d - 1)) hb.1 hb.2.1 hb'.1 hb'.2.1 (by omega) (by omega) (by omega) (by omega)
  subst hy
  have hm : (m - 1).toNat = (m' - 1).toNat := month_unique (y := y) (l := mon y (m - 1).toNat + d - 1) (by omega) a3 (by omega) (by omega)
  have hm' : m = m' := by omega
  subst hm'
  exact ⟨rfl, rfl, by omega⟩

/-! The four cycles. -/
/-- A cycle's number and what is left. -/
def cyc (l n k : Int) : Int := min (l / n) k
theorem cyc_le {l n k : Int} (hn : 0 < n) (hk : 0 ≤ k) (hl : 0 ≤ l) : 0 ≤ cyc l n k ∧ cyc l n k ≤ k ∧ n * cyc l n k ≤ l ∧ (cyc l n k < k → l < n * cyc l n k + n) := by
  have h0 : 0 ≤ l / n := Int.ediv_nonneg hl (by omega)
  have h1 : n * (l / n) ≤ l := Int.mul_ediv_self_le (by omega)
  have h2 : l < n * (l / n) + n := by
    have := Int.lt_mul_ediv_self_add (x := l) hn
    omega
  unfold cyc
  rcases Int.le_total (l / n) k with h | h
  · rw [Int.min_eq_left h]; exact ⟨h0, h, h1, fun _ => h2⟩
  · rw [Int.min_eq_right h]
    refine ⟨hk, Int.le_refl _, ?_, fun h => absurd h (by omega)⟩
    have := Int.mul_le_mul_of_nonneg_left h (show 0 ≤ n by omega)
    omega
theorem year_cycles {l a b c d : Int} (h0 : 0 ≤ l) (h1 : l ≤ 3652058) (ea : cyc l 146097 25 = a) (eb : cyc (l - 146097 * a) 36524 3 = b) (ec : cyc (l - 146097 * a - 36524 * b) 1461 24 = c) (ed : cyc (l - 146097 * a - 36524 * b - 1461 * c) 365 3 = d) :
    1 ≤ 1 + 400 * a + 100 * b + 4 * c + d ∧ 1 + 400 * a + 100 * b + 4 * c + d ≤ 9999 ∧ bef (1 + 400 * a + 100 * b + 4 * c + d) = 146097 * a + 36524 * b + 1461 * c + 365 * d ∧
    0 ≤ l - 146097 * a - 36524 * b - 1461 * c - 365 * d ∧ l - 146097 * a - 36524 * b - 1461 * c - 365 * d < ylen (1 + 400 * a + 100 * b + 4 * c + d) := by
  obtain ⟨a0, a1, a2, a3⟩ := cyc_le (l := l) (n := 146097) (k := 25) (by decide) (by decide) h0
  rw [ea] at a0 a1 a2 a3
  obtain ⟨b0, b1, b2, b3⟩ := cyc_le (l := l - 146097 * a) (n := 36524) (k := 3) (by decide) (by decide) (by omega)
  rw [eb] at b0 b1 b2 b3
  obtain ⟨c0, c1, c2, c3⟩ := cyc_le (l := l - 146097 * a - 36524 * b) (n := 1461) (k := 24) (by decide) (by decide) (by omega)
  rw [ec] at c0 c1 c2 c3
  obtain ⟨d0, d1, d2, d3⟩ := cyc_le (l := l - 146097 * a - 36524 * b - 1461 * c) (n := 365) (k := 3) (by decide) (by decide) (by omega)
  rw [ed] at d0 d1 d2 d3
  have la : l - 146097 * a ≤ 146096 := by
    by_cases h : a < 25
    · have := a3 h; omega
    · omega
  have lb : l - 146097 * a - 36524 * b ≤ 36524 ∧ (l - 146097 * a - 36524 * b = 36524 → b = 3) := by
    by_cases h : b < 3
    · have := b3 h; omega
    · omega
  have lc : l - 146097 * a - 36524 * b - 1461 * c ≤ 1460 := by
    by_cases h : c < 24
    · have := c3 h; omega
    · omega
  have ld : l - 146097 * a - 36524 * b - 1461 * c - 365 * d ≤ 365 ∧ (l - 146097 * a - 36524 * b - 1461 * c - 365 * d = 365 → d = 3 ∧ (c = 24 → b = 3)) := by
    by_cases h : d < 3
    · have := d3 h; omega
    · omega
  refine ⟨by omega, by omega, ?_, by omega, ?_⟩
  · unfold bef
    have e1 : (1 + 400 * a + 100 * b + 4 * c + d - 1) / 4 = 100 * a + 25 * b + c := by omega
    have e2 : (1 + 400 * a + 100 * b + 4 * c + d - 1) / 100 = 4 * a + b := by omega
    have e3 : (1 + 400 * a + 100 * b + 4 * c + d - 1) / 400 = a := by omega
    rw [e1, e2, e3]; omega
  · rcases ylen_cases (1 + 400 * a + 100 * b + 4 * c + d) with ⟨_, hy⟩ | ⟨hl, hy⟩
    · rw [hy]; omega
    · rw [hy]
      have hn : ¬ leapY (1 + 400 * a + 100 * b + 4 * c + d) = true := by rw [hl]; decide
      rw [leapY_iff] at hn
      by_cases he : l - 146097 * a - 36524 * b - 1461 * c - 365 * d = 365
      · exfalso
        obtain ⟨hd, hc⟩ := ld.2 he
        apply hn
        refine ⟨by omega, by omega, by omega, ?_⟩
        by_cases h24 : c = 24
        · right; have := hc h24; omega
        · left; omega
      · omega

/-! The day of the week. -/
def wday (days : Int) : Int := (days + 4) % 7
theorem wday_prog {days : Int} : (Int.tmod days 7 + 11).tmod 7 = wday days := by
  unfold wday
  have h : Int.tmod days 7 = days % 7 ∨ Int.tmod days 7 = days % 7 - 7 := by
    have := Int.tmod_eq_emod (a := days) (b := 7)
    by_cases h0 : 0 ≤ days ∨ (7 : Int) ∣ days
    · left; rw [this, if_pos h0]; simp
    · right; rw [this, if_neg h0]; simp
  rcases h with h | h <;> (rw [h, Int.tmod_eq_emod_of_nonneg (by omega)]; omega)
theorem wday_ref {days : Int} (h : -719162 ≤ days) : (days + 719162 + 1).tmod 7 = wday days := by
  unfold wday
  rw [Int.tmod_eq_emod_of_nonneg (by omega)]; omega
end Go.Proofs.YtooabnmmgmmklaaDoor
