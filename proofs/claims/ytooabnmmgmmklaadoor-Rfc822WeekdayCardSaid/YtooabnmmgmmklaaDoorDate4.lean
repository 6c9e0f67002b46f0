/-
  Plain functions of chapter 4 (rfc822) and of what it uses: digits, canonical dates, words and their meanings. No program.
-/
import Derived.Test.YtooabnmmgmmklaaDoorCiv4
set_option linter.unusedVariables false
namespace Go.Proofs.YtooabnmmgmmklaaDoor

/-! Digits. -/
def dg (n : Nat) : UInt8 := UInt8.ofNat (48 + n % 10)
def d2 (n : Nat) : Bytes := [dg (n / 10), dg n]
def d4 (n : Nat) : Bytes := [dg (n / 1000), dg (n / 100), dg (n / 10), dg n]
theorem dg_nat (n : Nat) : (dg n).toNat = 48 + n % 10 := by unfold dg; rw [u8_of (by omega)]
def isDig (c : UInt8) : Bool := decide (48 ≤ c.toNat ∧ c.toNat ≤ 57)
theorem isDig_dg (n : Nat) : isDig (dg n) = true := by unfold isDig; rw [dg_nat]; exact decide_eq_true (by omega)
/-- The number that digits stand for. -/
def valD (v : Nat) (l : Bytes) : Nat := l.foldl (fun a c => a * 10 + (c.toNat - 48)) v
theorem valD_nil (v : Nat) : valD v [] = v := by unfold valD; rw [List.foldl_nil]
theorem valD_cons (v : Nat) (c : UInt8) (l : Bytes) : valD v (c :: l) = valD (v * 10 + (c.toNat - 48)) l := by unfold valD; rw [List.foldl_cons]
theorem valD_app (x y : Bytes) (v : Nat) : valD v (x ++ y) = valD (valD v x) y := by unfold valD; rw [List.foldl_append]
def num (lo hi : Nat) (s : Bytes) : Option Nat := if lo ≤ s.length ∧ s.length ≤ hi ∧ s.all isDig = true then some (valD 0 s) else none
theorem num_d2 {n : Nat} (h : n < 100) : num 2 2 (d2 n) = some n ∧ num 1 2 (d2 n) = some n := by
  have h1 : (d2 n).all isDig = true := by show (isDig (dg (n / 10)) && (isDig (dg n) && true)) = true; rw [isDig_dg, isDig_dg]; rfl
  have h2 : valD 0 (d2 n) = n := by unfold d2; rw [valD_cons, valD_cons, valD_nil, dg_nat, dg_nat]; omega
  have h3 : (d2 n).length = 2 := rfl
  unfold num
  rw [h1, h2, h3]
  simp
theorem num_d4 {n : Nat} (h : n < 10000) : num 4 4 (d4 n) = some n ∧ num 2 4 (d4 n) = some n := by
  have h1 : (d4 n).all isDig = true := by show (isDig (dg (n / 1000)) && (isDig (dg (n / 100)) && (isDig (dg (n / 10)) && (isDig (dg n) && true)))) = true; rw [isDig_dg, isDig_dg, isDig_dg, isDig_dg]; rfl
  have h2 : valD 0 (d4 n) = n := by unfold d4; rw [valD_cons, valD_cons, valD_cons, valD_cons, valD_nil, dg_nat, dg_nat, dg_nat, dg_nat]; omega
  have h3 : (d4 n).length = 4 := rfl
  unfold num
  rw [h1, h2, h3]
  simp

/-! Canonical forms. -/
def low (c : UInt8) : UInt8 := if 65 ≤ c.toNat ∧ c.toNat ≤ 90 then UInt8.ofNat (c.toNat + 32) else c
def lowS (s : Bytes) : Bytes := s.map low
def dayTab : List Bytes := [[115, 117, 110], [109, 111, 110], [116, 117, 101], [119, 101, 100], [116, 104, 117], [102, 114, 105], [115, 97, 116]]
def monTab : List Bytes := [[106, 97, 110], [102, 101, 98], [109, 97, 114], [97, 112, 114], [109, 97, 121], [106, 117, 110], [106, 117, 108], [97, 117, 103], [115, 101, 112], [111, 99, 116], [110, 111, 118], [100, 101, 99]]
def titleS : Bytes → Bytes
  | [] => []
  | c :: l => UInt8.ofNat (c.toNat - 32) :: l
/-- The time of day. -/
def clk (s : Nat) : Bytes := d2 (s / 3600) ++ [58] ++ d2 (s / 60 % 60) ++ [58] ++ d2 (s % 60)
/-- The form of layer 3. -/
def f33 (y m d s : Nat) : Bytes := d4 y ++ [45] ++ d2 m ++ [45] ++ d2 d ++ [84] ++ clk s ++ [90]
/-- The form of layer 4. -/
def f82 (w y m d s : Nat) : Bytes := titleS (dayTab.getD w []) ++ [44, 32] ++ d2 d ++ [32] ++ titleS (monTab.getD (m - 1) []) ++ [32] ++ d4 y ++ [32] ++ clk s ++ [32, 71, 77, 84]
/-- A time's date and what is left of its day. -/
structure TimeOf (t : Int) (y m d s : Nat) : Prop where
  date : isDate y m d = true
  sec : s < 86400
  eq : t = dayNo y m d * 86400 + s
theorem TimeOf.inj {t : Int} {y m d s y' m' d' s' : Nat} (h : TimeOf t y m d s) (h' : TimeOf t y' m' d' s') : y = y' ∧ m = m' ∧ d = d' ∧ s = s' := by
  have e1 := h.eq; have e2 := h'.eq; have s1 := h.sec; have s2 := h'.sec
  have hd : dayNo y m d = dayNo y' m' d' := by omega
  obtain ⟨a, b, c⟩ := dayNo_inj h.date h'.date hd
  exact ⟨by omega, by omega, by omega, by omega⟩
theorem TimeOf.range {t : Int} {y m d s : Nat} (h : TimeOf t y m d s) : -62135596800 ≤ t ∧ t ≤ 253402300799 := by
  have h1 := dayNo_in h.date; have h2 := h.eq; have h3 := h.sec
  omega
theorem TimeOf.parts {t : Int} {y m d s : Nat} (h : TimeOf t y m d s) : 1 ≤ y ∧ y ≤ 9999 ∧ 1 ≤ m ∧ m ≤ 12 ∧ 1 ≤ d ∧ d ≤ 31 := by
  have := isDate_in h.date; omega
/-- Every month is found. -/
theorem month_at {y l : Int} : ∀ n : Nat, 0 ≤ l → l < mon y n → ∃ i, i < n ∧ mon y i ≤ l ∧ l < mon y (i + 1)
  | 0, h0, h1 => by rw [mon] at h1; omega
  | n + 1, h0, h1 => by
    by_cases h : l < mon y n
    · obtain ⟨i, hi, h2⟩ := month_at n h0 h
      exact ⟨i, by omega, h2⟩
    · exact ⟨n, by omega, by omega, h1⟩
theorem date_at {days : Int} (h0 : -719162 ≤ days) (h1 : days ≤ 2932896) : ∃ y m d : Nat, isDate y m d = true ∧ dayNo y m d = days := by
  obtain ⟨g1, g2, g3, g4, g5⟩ := year_cycles (l := days + 719162) (by omega) (by omega) rfl rfl rfl rfl
  generalize 1 + 400 * cyc (days + 719162) 146097 25 + _ + _ + _ = y at *
  rw [← mon_year g1 g2] at g5
  obtain ⟨i, hi, g6, g7⟩ := month_at 12 g4 g5
  have e : mon y (i + 1) = mon y i + dimY y ((i : Int) + 1) := rfl
  refine ⟨y.toNat, i + 1, (days + 719162 - bef y - mon y i + 1).toNat, ?_, ?_⟩
  · rw [isDate_iff, show ((y.toNat : Nat) : Int) = y by omega, show (((i + 1 : Nat)) : Int) = (i : Int) + 1 by omega]
    omega
  · unfold dayNo
    rw [show ((y.toNat : Nat) : Int) = y by omega, show ((((i + 1 : Nat)) : Int) - 1).toNat = i by omega]
    omega
theorem time_at {t : Int} (h0 : -62135596800 ≤ t) (h1 : t ≤ 253402300799) : ∃ y m d s : Nat, TimeOf t y m d s := by
  obtain ⟨y, m, d, h2, h3⟩ := date_at (days := t / 86400) (by omega) (by omega)
  exact ⟨y, m, d, (t % 86400).toNat, h2, by omega, by rw [h3]; omega⟩

/-! Words. -/
/-- The place in a list, counted from one. -/
def findW (s : Bytes) : Nat → List Bytes → Nat
  | _, [] => 0
  | i, x :: l => if s == x then i + 1 else findW s (i + 1) l
def monthOf (s : Bytes) : Nat := findW (lowS s) 0 monTab
def isDay (s : Bytes) : Bool := dayTab.any fun x => lowS s == x ++ [44]
def yearOf (s : Bytes) : Option Nat :=
  match num 2 4 s with
  | none => none
  | some n => if s.length = 3 then none else if s.length = 4 then some n else if n < 50 then some (n + 2000) else some (n + 1900)
def clockOf (s : Bytes) : Option (Nat × Nat × Nat) :=
  if s.length = 5 ∧ s.getD 2 0 = 58 then
    match num 2 2 (s.take 2), num 2 2 (s.drop 3) with
    | some h, some m => some (h, m, 0)
    | _, _ => none
  else if s.length = 8 ∧ s.getD 2 0 = 58 ∧ s.getD 5 0 = 58 then
    match num 2 2 (s.take 2), num 2 2 ((s.drop 3).take 2), num 2 2 (s.drop 6) with
    | some h, some m, some c => some (h, m, c)
    | _, _, _ => none
  else none
def zoneTab : List (Bytes × Int) := [([117, 116], 0), ([117, 116, 99], 0), ([103, 109, 116], 0), ([122], 0), ([101, 115, 116], -5), ([101, 100, 116], -4), ([99, 115, 116], -6), ([99, 100, 116], -5), ([109, 115, 116], -7), ([109, 100, 116], -6), ([112, 115, 116], -8), ([112, 100, 116], -7)]
def zoneOf (s : Bytes) : Option Int :=
  match zoneTab.find? (fun x => x.1 == lowS s) with
  | some x => some (60 * x.2)
  | none =>
    if s.length = 5 ∧ (s.getD 0 0 = 43 ∨ s.getD 0 0 = 45) then
      match num 4 4 (s.drop 1) with
      | none => none
      | some n => if 23 < n / 100 ∨ 59 < n % 100 then none else some (if s.getD 0 0 = 45 then -((n / 100 * 60 + n % 100 : Nat) : Int) else ((n / 100 * 60 + n % 100 : Nat) : Int))
    else none
/-- The seconds of a date and a time of day. -/
def secOf (y m d h mi s : Int) : Option Int := if isDate y m d = true ∧ 0 ≤ h ∧ h ≤ 23 ∧ 0 ≤ mi ∧ mi ≤ 59 ∧ 0 ≤ s ∧ s ≤ 59 then some (dayNo y m d * 86400 + h * 3600 + mi * 60 + s) else none
/-- The words of a collapsed string. -/
def splitW : Bytes → List Bytes
  | [] => [[]]
  | c :: l => if c = 32 then [] :: splitW l else match splitW l with | [] => [[c]] | x :: xs => (c :: x) :: xs
def words5 (d m y c z : Bytes) : Int × Int :=
  match num 1 2 d, yearOf y, clockOf c, zoneOf z with
  | some dn, some yn, some (h, mi, s), some zn =>
    if monthOf m = 0 then (0, 20)
    else match secOf yn (monthOf m) dn h mi s with
      | none => (0, 20)
      | some t => if t - 60 * zn < -62135596800 ∨ 253402300799 < t - 60 * zn then (0, 3) else (t - 60 * zn, 0)
  | _, _, _, _ => (0, 20)
def parseW (ws : List Bytes) : Int × Int :=
  match (if isDay (ws.headD []) = true then ws.drop 1 else ws) with
  | [d, m, y, c, z] => words5 d m y c z
  | _ => (0, 20)
end Go.Proofs.YtooabnmmgmmklaaDoor
