/-
  Chapter 04, plain: parts of a canonical date, and the canonical date of rfc822 made of them. No program.
-/
import Derived.Test.YtooabnmmgmmklaaDoorRnd4
set_option linter.unusedVariables false
namespace Go.Proofs.YtooabnmmgmmklaaDoor

theorem f33_form (y m d s : Nat) : f33 y m d s = [dg (y / 1000), dg (y / 100), dg (y / 10), dg y, 45, dg (m / 10), dg m, 45, dg (d / 10), dg d, 84, dg (s / 3600 / 10), dg (s / 3600), 58, dg (s / 60 % 60 / 10), dg (s / 60 % 60), 58, dg (s % 60 / 10), dg (s % 60), 90] := rfl
theorem f33_len (y m d s : Nat) : (f33 y m d s).length = 20 := rfl
theorem f33_parts (y m d s : Nat) : (f33 y m d s).take 4 = d4 y ∧ ((f33 y m d s).drop 5).take 2 = d2 m ∧ ((f33 y m d s).drop 8).take 2 = d2 d ∧ ((f33 y m d s).drop 11).take 8 = clk s := ⟨rfl, rfl, rfl, rfl⟩
/-- The names in one string. -/
def daysS : Bytes := [83, 117, 110, 77, 111, 110, 84, 117, 101, 87, 101, 100, 84, 104, 117, 70, 114, 105, 83, 97, 116]
def monsS : Bytes := [74, 97, 110, 70, 101, 98, 77, 97, 114, 65, 112, 114, 77, 97, 121, 74, 117, 110, 74, 117, 108, 65, 117, 103, 83, 101, 112, 79, 99, 116, 78, 111, 118, 68, 101, 99]
theorem daysS_at {w : Nat} (h : w < 7) : (daysS.drop (3 * w)).take 3 = dayN w := by
  have key : ∀ i : Fin 7, (daysS.drop (3 * i.1)).take 3 = dayN i.1 := by decide
  exact key ⟨w, h⟩
theorem monsS_at {m : Nat} (h1 : 1 ≤ m) (h2 : m ≤ 12) : (monsS.drop (3 * (m - 1))).take 3 = monN m := by
  have key : ∀ i : Fin 12, (monsS.drop (3 * i.1)).take 3 = monN (i.1 + 1) := by decide
  have := key ⟨m - 1, by omega⟩
  simp only at this
  rwa [show m - 1 + 1 = m by omega] at this
/-- What the reference's Find returns, counted from one. -/
def findR (tab name : Bytes) : Nat → Nat → Nat
  | 0, _ => 0
  | f + 1, i => if lowS ((tab.drop (3 * i)).take 3) = lowS name then i + 1 else findR tab name f (i + 1)
theorem findW_R (tab name : Bytes) : ∀ (l : List Bytes) (i : Nat), (∀ j (h : j < l.length), lowS ((tab.drop (3 * (i + j))).take 3) = l[j]) → findR tab name l.length i = findW (lowS name) i l
  | [], i, h => rfl
  | x :: l, i, h => by
    have h0 := h 0 (by simp)
    simp only [Nat.add_zero, List.getElem_cons_zero] at h0
    rw [List.length_cons, findR, findW, h0, findW_R tab name l (i + 1) fun j hj => by
      have := h (j + 1) (by simp; omega)
      simp only [List.getElem_cons_succ] at this
      rwa [show i + 1 + j = i + (j + 1) by omega]]
    by_cases hx : lowS name = x
    · rw [if_pos hx.symm, if_pos (by simp [hx])]
    · rw [if_neg (Ne.symm hx), if_neg (by simp [hx])]
theorem months_find (name : Bytes) : findR monsS name 12 0 = monthOf name := by
  unfold monthOf
  refine findW_R monsS name monTab 0 fun j hj => ?_
  have key : ∀ i : Fin 12, lowS ((monsS.drop (3 * (0 + i.1))).take 3) = monTab[i.1] := by decide
  exact key ⟨j, hj⟩
theorem days_find (name : Bytes) : findR daysS name 7 0 = findW (lowS name) 0 dayTab := by
  refine findW_R daysS name dayTab 0 fun j hj => ?_
  have key : ∀ i : Fin 7, lowS ((daysS.drop (3 * (0 + i.1))).take 3) = dayTab[i.1] := by decide
  exact key ⟨j, hj⟩
theorem findW_pos (s : Bytes) : ∀ (l : List Bytes) (i : Nat), findW s i l ≠ 0 ↔ s ∈ l
  | [], i => by simp [findW]
  | x :: l, i => by
    rw [findW, List.mem_cons]
    by_cases h : s = x
    · rw [if_pos (by simp [h])]; simp [h]
    · rw [if_neg (by simp [h]), findW_pos s l]; simp [h]
theorem low_comma : ∀ c : UInt8, low c = 44 ↔ c = 44 := by
  have key : ∀ n < 256, low (UInt8.ofNat n) = 44 ↔ UInt8.ofNat n = 44 := by decide +kernel
  intro c
  have := key c.toNat c.toNat_lt
  rwa [UInt8.ofNat_toNat] at this
/-- The reference's test for a day of the week. -/
theorem isDay_ref (s : Bytes) : isDay s = true ↔ s.length = 4 ∧ s.getD 3 0 = 44 ∧ findR daysS (s.take 3) 7 0 ≠ 0 := by
  rw [days_find, findW_pos]
  unfold isDay
  rw [List.any_eq_true]
  have hlen : ∀ x ∈ dayTab, x.length = 3 := by decide
  constructor
  · rintro ⟨x, hx, he⟩
    have he := eq_of_beq he
    have hl : s.length = 4 := by
      have := congrArg List.length he
      unfold lowS at this
      rw [List.length_map, List.length_append, hlen x hx] at this
      exact this
    match s, hl with
    | [a, b, c, d], _ =>
      have hx3 := hlen x hx
      match x, hx3 with
      | [p, q, r], _ =>
        unfold lowS at he
        simp only [List.map_cons, List.map_nil, List.cons_append, List.nil_append, List.cons.injEq, and_true] at he
        refine ⟨rfl, (low_comma d).1 he.2.2.2, ?_⟩
        show lowS [a, b, c] ∈ dayTab
        unfold lowS
        simp only [List.map_cons, List.map_nil]
        rw [he.1, he.2.1, he.2.2.1]
        exact hx
  · rintro ⟨hl, hc, hm⟩
    match s, hl with
    | [a, b, c, d], _ =>
      have hd : d = 44 := hc
      subst hd
      exact ⟨_, hm, by
        show (lowS [a, b, c, 44] == lowS [a, b, c] ++ [44]) = true
        have : low 44 = 44 := by decide
        simp [lowS, this]⟩
end Go.Proofs.YtooabnmmgmmklaaDoor
