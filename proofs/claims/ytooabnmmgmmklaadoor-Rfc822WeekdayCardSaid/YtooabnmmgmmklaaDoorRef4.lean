/-
  Chapter 04, plain: what the reference reads is what the program reads. No program.
-/
import Derived.Test.YtooabnmmgmmklaaDoorDate4
set_option linter.unusedVariables false
namespace Go.Proofs.YtooabnmmgmmklaaDoor

def opt (o : Option Nat) : Int := match o with | none => -1 | some n => n
/-- The number with so many digits at an offset, or -1. -/
def numR (s : Bytes) (a w : Nat) : Int := if a + w ≤ s.length ∧ ((s.drop a).take w).all isDig = true then (valD 0 ((s.drop a).take w) : Int) else -1
def wholeR (s : Bytes) (w : Nat) : Int := if s.length = w then numR s 0 w else -1
def dayR (s : Bytes) : Int := if wholeR s 1 < 0 then wholeR s 2 else wholeR s 1
def yearR (s : Bytes) : Int := if 50 ≤ wholeR s 2 then 1900 + wholeR s 2 else if 0 ≤ wholeR s 2 then 2000 + wholeR s 2 else wholeR s 4
def fullC (s : Bytes) : Bytes := if s.length = 5 then s ++ [58, 48, 48] else s
def clockR (s : Bytes) : Option (Int × Int × Int) :=
  if (fullC s).length = 8 ∧ (fullC s).getD 2 0 = 58 ∧ (fullC s).getD 5 0 = 58 then some (wholeR ((fullC s).take 2) 2, wholeR (((fullC s).drop 3).take 2) 2, wholeR ((fullC s).drop 6) 2) else none
def zoneR (s : Bytes) : Option Int :=
  match zoneTab.find? (fun x => x.1 == lowS s) with
  | some x => some (60 * x.2)
  | none =>
    if s.length ≠ 5 ∨ (s.getD 0 0 ≠ 43 ∧ s.getD 0 0 ≠ 45) ∨ numR s 1 2 < 0 ∨ 23 < numR s 1 2 ∨ numR s 3 2 < 0 ∨ 59 < numR s 3 2 then none
    else if s.getD 0 0 = 45 then some (-60 * numR s 1 2 - numR s 3 2) else some (60 * numR s 1 2 + numR s 3 2)
def words5R (d m y c z : Bytes) : Int × Int :=
  match zoneR z, clockR c with
  | some zn, some (h, mi, s) =>
    match secOf (yearR y) (monthOf m) (dayR d) h mi s with
    | none => (0, 20)
    | some t => if t - 60 * zn < -62135596800 ∨ 253402300799 < t - 60 * zn then (0, 3) else (t - 60 * zn, 0)
  | _, _ => (0, 20)
def parseR (ws : List Bytes) : Int × Int :=
  match (if isDay (ws.headD []) = true then ws.drop 1 else ws) with
  | [d, m, y, c, z] => words5R d m y c z
  | _ => (0, 20)

theorem opt_nonneg {o : Option Nat} : 0 ≤ opt o ↔ ∃ n, o = some n := by
  cases o with
  | none => simp [opt]
  | some n => simp [opt]
theorem valD_bound : ∀ (l : Bytes) (v : Nat), l.all isDig = true → valD v l < (v + 1) * 10 ^ l.length
  | [], v, _ => by rw [valD_nil]; simp
  | c :: l, v, h => by
    rw [List.all_cons, Bool.and_eq_true] at h
    have hc := h.1
    unfold isDig at hc
    rw [decide_eq_true_eq] at hc
    have := valD_bound l (v * 10 + (c.toNat - 48)) h.2
    rw [valD_cons, List.length_cons, Nat.pow_succ]
    have h2 : (v * 10 + (c.toNat - 48) + 1) * 10 ^ l.length ≤ ((v + 1) * 10) * 10 ^ l.length := Nat.mul_le_mul_right _ (by omega)
    calc valD (v * 10 + (c.toNat - 48)) l < (v * 10 + (c.toNat - 48) + 1) * 10 ^ l.length := this
      _ ≤ ((v + 1) * 10) * 10 ^ l.length := h2
      _ = (v + 1) * (10 ^ l.length * 10) := by rw [Nat.mul_assoc, Nat.mul_comm 10]
theorem whole_num (s : Bytes) (w : Nat) : wholeR s w = opt (num w w s) := by
  unfold wholeR numR num
  by_cases h : s.length = w
  · subst h
    rw [if_pos rfl]
    simp only [List.drop_zero, List.take_length, Nat.zero_add, Nat.le_refl, true_and]
    by_cases h2 : s.all isDig = true
    · rw [if_pos h2, if_pos h2]; rfl
    · rw [if_neg h2, if_neg h2]; rfl
  · rw [if_neg h, if_neg (by omega)]; rfl
theorem num_len {lo hi : Nat} {s : Bytes} {n : Nat} (h : num lo hi s = some n) : lo ≤ s.length ∧ s.length ≤ hi ∧ s.all isDig = true ∧ n = valD 0 s := by
  unfold num at h
  split at h
  · rename_i hh
    cases h
    exact ⟨hh.1, hh.2.1, hh.2.2, rfl⟩
  · cases h
theorem num_no {lo hi : Nat} {s : Bytes} (h : num lo hi s = none) : s.length < lo ∨ hi < s.length ∨ s.all isDig = false := by
  unfold num at h
  split at h
  · cases h
  · rename_i hh
    cases ha : s.all isDig with
    | false => exact .inr (.inr rfl)
    | true =>
      rw [ha] at hh
      simp at hh
      omega
theorem num_some {lo hi : Nat} {s : Bytes} (h1 : lo ≤ s.length) (h2 : s.length ≤ hi) (h3 : s.all isDig = true) : num lo hi s = some (valD 0 s) := if_pos ⟨h1, h2, h3⟩
theorem num_none {lo hi : Nat} {s : Bytes} (h : s.length < lo ∨ hi < s.length ∨ s.all isDig = false) : num lo hi s = none := by
  unfold num
  rw [if_neg]
  rintro ⟨h1, h2, h3⟩
  rcases h with h | h | h
  · omega
  · omega
  · rw [h3] at h; cases h
theorem day_ref (s : Bytes) : dayR s = opt (num 1 2 s) := by
  unfold dayR
  rw [whole_num, whole_num]
  cases ha : s.all isDig with
  | false => rw [num_none (.inr (.inr ha)), num_none (.inr (.inr ha)), num_none (.inr (.inr ha))]; rfl
  | true =>
    by_cases h1 : s.length = 1
    · rw [num_some (lo := 1) (hi := 1) (by omega) (by omega) ha, num_some (lo := 1) (hi := 2) (by omega) (by omega) ha, if_neg (by simp only [opt]; omega)]
    by_cases h2 : s.length = 2
    · rw [num_none (lo := 1) (hi := 1) (by omega), num_some (lo := 2) (by omega) (by omega) ha, num_some (lo := 1) (hi := 2) (by omega) (by omega) ha, if_pos (by simp only [opt]; omega)]
    · rw [num_none (lo := 1) (hi := 1) (by omega), num_none (lo := 2) (by omega), num_none (lo := 1) (hi := 2) (by omega)]; rfl
theorem year_ref (s : Bytes) : yearR s = opt (yearOf s) := by
  unfold yearR yearOf
  rw [whole_num, whole_num]
  cases ha : s.all isDig with
  | false => rw [num_none (lo := 2) (hi := 2) (.inr (.inr ha)), num_none (.inr (.inr ha)), num_none (.inr (.inr ha))]; rfl
  | true =>
    by_cases h2 : s.length = 2
    · rw [num_some (lo := 2) (hi := 2) (by omega) (by omega) ha, num_some (lo := 2) (hi := 4) (by omega) (by omega) ha, num_none (lo := 4) (by omega)]
      show (if (50 : Int) ≤ (valD 0 s : Int) then 1900 + (valD 0 s : Int) else if (0 : Int) ≤ (valD 0 s : Int) then 2000 + (valD 0 s : Int) else -1) = opt (if s.length = 3 then none else if s.length = 4 then some (valD 0 s) else if valD 0 s < 50 then some (valD 0 s + 2000) else some (valD 0 s + 1900))
      rw [if_neg (show ¬ s.length = 3 by omega), if_neg (show ¬ s.length = 4 by omega)]
      by_cases h50 : valD 0 s < 50
      · rw [if_pos h50, if_neg (by omega), if_pos (by omega)]; simp only [opt]; omega
      · rw [if_neg h50, if_pos (by omega)]; simp only [opt]; omega
    rw [num_none (lo := 2) (hi := 2) (by omega)]
    by_cases h4 : s.length = 4
    · rw [num_some (lo := 4) (by omega) (by omega) ha, num_some (lo := 2) (hi := 4) (by omega) (by omega) ha]
      simp only [opt]
      rw [if_neg (show ¬ s.length = 3 by omega), if_pos h4]
      rfl
    rw [num_none (lo := 4) (by omega)]
    by_cases h3 : s.length = 3
    · rw [num_some (lo := 2) (hi := 4) (by omega) (by omega) ha]
      simp only [opt]
      rw [if_pos h3]
      rfl
    · rw [num_none (lo := 2) (hi := 4) (by omega)]; rfl
theorem zone_ref (s : Bytes) : zoneR s = zoneOf s := by
  unfold zoneR zoneOf
  cases zoneTab.find? (fun x => x.1 == lowS s) with
  | some x => rfl
  | none =>
    simp only
    by_cases h5 : s.length = 5
    case neg => rw [if_pos (.inl h5), if_neg (fun h => h5 h.1)]
    by_cases hs : s.getD 0 0 = 43 ∨ s.getD 0 0 = 45
    case neg => rw [if_pos (Or.inr (Or.inl (And.intro (fun h => hs (.inl h)) (fun h => hs (.inr h))))), if_neg (fun h => hs h.2)]
    rw [if_pos (show s.length = 5 ∧ (s.getD 0 0 = 43 ∨ s.getD 0 0 = 45) from ⟨h5, hs⟩)]
    obtain ⟨c, a, b, d, e, rfl⟩ : ∃ c a b d e, s = [c, a, b, d, e] := by
      match s, h5 with
      | [c, a, b, d, e], _ => exact ⟨c, a, b, d, e, rfl⟩
    have n1 : numR [c, a, b, d, e] 1 2 = opt (num 2 2 [a, b]) := by
      rw [← whole_num]
      simp [wholeR, numR]
    have n2 : numR [c, a, b, d, e] 3 2 = opt (num 2 2 [d, e]) := by
      rw [← whole_num]
      simp [wholeR, numR]
    rw [n1, n2]
    have hdr : [c, a, b, d, e].drop 1 = [a, b] ++ [d, e] := rfl
    have hg : [c, a, b, d, e].getD 0 0 = c := rfl
    rw [hdr, hg]
    rw [hg] at hs
    cases ha : [a, b].all isDig with
    | false =>
      rw [num_none (s := [a, b]) (.inr (.inr ha)), num_none (s := [a, b] ++ [d, e]) (.inr (.inr (by rw [List.all_append, ha]; rfl))), if_pos (.inr (.inr (.inl (by decide))))]
    | true =>
      cases hd : [d, e].all isDig with
      | false =>
        rw [num_none (s := [d, e]) (.inr (.inr hd)), num_none (s := [a, b] ++ [d, e]) (.inr (.inr (by rw [List.all_append, hd, Bool.and_false]))), if_pos (.inr (.inr (.inr (.inr (.inl (by decide))))))]
      | true =>
        have hv : valD 0 ([a, b] ++ [d, e]) = valD 0 [a, b] * 100 + valD 0 [d, e] := by
          simp only [valD_app, valD_cons, valD_nil]; omega
        have hb1 := valD_bound [a, b] 0 ha
        have hb2 := valD_bound [d, e] 0 hd
        simp only [List.length_cons, List.length_nil] at hb1 hb2
        have l2 : ∀ x y : UInt8, [x, y].length = 2 := fun _ _ => rfl
        have l4 : ([a, b] ++ [d, e]).length = 4 := rfl
        rw [num_some (s := [a, b]) (by rw [l2]; omega) (by rw [l2]; omega) ha, num_some (s := [d, e]) (by rw [l2]; omega) (by rw [l2]; omega) hd, num_some (s := [a, b] ++ [d, e]) (by rw [l4]; omega) (by rw [l4]; omega) (by rw [List.all_append, ha, hd]; rfl), hv]
        generalize valD 0 [a, b] = x at hb1
        generalize valD 0 [d, e] = y at hb2
        show (if ([c, a, b, d, e].length ≠ 5 ∨ (c ≠ 43 ∧ c ≠ 45) ∨ (x : Int) < 0 ∨ 23 < (x : Int) ∨ (y : Int) < 0 ∨ 59 < (y : Int)) then none else if c = 45 then some (-60 * (x : Int) - (y : Int)) else some (60 * (x : Int) + (y : Int))) = if (23 < (x * 100 + y) / 100 ∨ 59 < (x * 100 + y) % 100) then none else some (if c = 45 then -(((x * 100 + y) / 100 * 60 + (x * 100 + y) % 100 : Nat) : Int) else (((x * 100 + y) / 100 * 60 + (x * 100 + y) % 100 : Nat) : Int))
        have e1 : (x * 100 + y) / 100 = x := by omega
        have e2 : (x * 100 + y) % 100 = y := by omega
        rw [e1, e2]
        by_cases hr : 23 < x ∨ 59 < y
        · rw [if_pos hr, if_pos (by omega)]
        · have hs' : ¬ (c ≠ 43 ∧ c ≠ 45) := fun h => hs.elim h.1 h.2
          rw [if_neg hr, if_neg (by
            intro h
            rcases h with h | h | h
            · exact h rfl
            · exact hs' h
            · omega)]
          by_cases hm : c = 45
          · rw [if_pos hm, if_pos hm]; congr 1; omega
          · rw [if_neg hm, if_neg hm]; congr 1; omega
theorem clock_ref (s : Bytes) : (∀ h m c, clockOf s = some (h, m, c) → clockR s = some ((h : Int), (m : Int), (c : Int))) ∧ (clockOf s = none → clockR s = none ∨ ∃ h m c : Int, clockR s = some (h, m, c) ∧ (h < 0 ∨ m < 0 ∨ c < 0)) := by
  have neg : ∀ {x : Bytes}, num 2 2 x = none → wholeR x 2 < 0 := fun h => by rw [whole_num, h]; decide
  have pos : ∀ {x : Bytes} {n : Nat}, num 2 2 x = some n → wholeR x 2 = (n : Int) := fun h => by rw [whole_num, h]; rfl
  unfold clockOf clockR fullC
  by_cases h5 : s.length = 5
  · rw [if_pos h5]
    match s, h5 with
    | [a, b, c, d, e], _ =>
      have hz : wholeR [48, 48] 2 = 0 := by decide
      simp only [List.length_cons, List.length_nil, List.cons_append, List.nil_append, List.getD_cons_succ, List.getD_cons_zero, List.take, List.drop, true_and, and_true, hz]
      by_cases hc : c = 58
      · subst hc
        simp only [if_true]
        cases h1 : num 2 2 [a, b] with
        | none => simp only [reduceCtorEq, false_implies, implies_true, true_and, forall_const]; exact .inr ⟨_, _, _, rfl, .inl (neg h1)⟩
        | some h =>
          cases h2 : num 2 2 [d, e] with
          | none => simp only [reduceCtorEq, false_implies, implies_true, true_and, forall_const]; exact .inr ⟨_, _, _, rfl, .inr (.inl (neg h2))⟩
          | some m =>
            refine ⟨fun x y z hh => ?_, fun hh => by cases hh⟩
            cases hh
            rw [pos h1, pos h2]; rfl
      · simp [hc]
  · rw [if_neg h5, if_neg (fun h => h5 h.1)]
    by_cases h8 : s.length = 8 ∧ s.getD 2 0 = 58 ∧ s.getD 5 0 = 58
    · rw [if_pos h8, if_pos h8]
      cases h1 : num 2 2 (s.take 2) with
      | none => simp only [reduceCtorEq, false_implies, implies_true, true_and, forall_const]; exact .inr ⟨_, _, _, rfl, .inl (neg h1)⟩
      | some h =>
        cases h2 : num 2 2 ((s.drop 3).take 2) with
        | none => simp only [reduceCtorEq, false_implies, implies_true, true_and, forall_const]; exact .inr ⟨_, _, _, rfl, .inr (.inl (neg h2))⟩
        | some m =>
          cases h3 : num 2 2 (s.drop 6) with
          | none => simp only [reduceCtorEq, false_implies, implies_true, true_and, forall_const]; exact .inr ⟨_, _, _, rfl, .inr (.inr (neg h3))⟩
          | some c =>
            refine ⟨fun x y z hh => ?_, fun hh => by cases hh⟩
            cases hh
            rw [pos h1, pos h2, pos h3]
    · rw [if_neg h8, if_neg h8]
      exact ⟨fun _ _ _ hh => (by cases hh), fun _ => .inl rfl⟩
theorem secOf_none {y m d h mi s : Int} (hh : y < 1 ∨ m < 1 ∨ d < 1 ∨ h < 0 ∨ mi < 0 ∨ s < 0) : secOf y m d h mi s = none := by
  unfold secOf
  rw [if_neg]
  rintro ⟨h1, h2, h3, h4, h5, h6, h7⟩
  have := isDate_in h1
  omega
theorem words5_ref (d m y c z : Bytes) : words5R d m y c z = words5 d m y c z := by
  unfold words5R words5
  rw [zone_ref, day_ref, year_ref]
  obtain ⟨c1, c2⟩ := clock_ref c
  cases hz : zoneOf z with
  | none => cases num 1 2 d <;> cases yearOf y <;> rcases clockOf c with _ | ⟨_, _, _⟩ <;> rfl
  | some zn =>
    cases hc : clockOf c with
    | none =>
      have : words5 d m y c z = (0, 20) ∨ True := .inr trivial
      rcases c2 hc with h | ⟨h, mi, s, h, hn⟩
      · rw [h]; cases num 1 2 d <;> cases yearOf y <;> rfl
      · rw [h]; simp only; rw [secOf_none (by omega)]; cases num 1 2 d <;> cases yearOf y <;> rfl
    | some p =>
      obtain ⟨h, mi, s⟩ := p
      rw [c1 h mi s hc]
      cases hd : num 1 2 d with
      | none => simp only; rw [secOf_none (by simp only [opt]; omega)]
      | some dn =>
        cases hy : yearOf y with
        | none => simp only; rw [secOf_none (by simp only [opt]; omega)]
        | some yn =>
          simp only [opt]
          by_cases hm : monthOf m = 0
          · rw [if_pos hm, secOf_none (by omega)]
          · rw [if_neg hm]; cases secOf (yn : Int) (monthOf m : Int) (dn : Int) (h : Int) (mi : Int) (s : Int) <;> rfl
theorem parse_ref (ws : List Bytes) : parseR ws = parseW ws := by
  unfold parseR parseW
  generalize (if isDay (ws.headD []) = true then ws.drop 1 else ws) = l
  match l with
  | [] => rfl
  | [_] => rfl
  | [_, _] => rfl
  | [_, _, _] => rfl
  | [_, _, _, _] => rfl
  | [d, m, y, c, z] => exact words5_ref d m y c z
  | _ :: _ :: _ :: _ :: _ :: _ :: _ => rfl
end Go.Proofs.YtooabnmmgmmklaaDoor
