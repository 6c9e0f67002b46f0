/-
  Chapter 13, plain: comparisons with three answers, in sequence and over lists; they are antisymmetric and transitive. No function of the program.
-/
import Derived.Test.YtadkgjbidhfefaaGreatDoorUtf
set_option linter.unusedVariables false
namespace Go.Proofs.YtadkgjbidhfefaaGreatDoor

/-- A comparison with the answers -1, 0 and 1. -/
structure Ord3 {α : Type} (f : α → α → Int) : Prop where
  rng : ∀ a b, f a b = -1 ∨ f a b = 0 ∨ f a b = 1
  anti : ∀ a b, f b a = - f a b
  tr : ∀ a b c, f a b ≤ 0 → f b c ≤ 0 → f a c = min (f a b) (f b c)
theorem Ord3.same {α : Type} {f : α → α → Int} (h : Ord3 f) (a : α) : f a a = 0 := by have := h.anti a a; omega
/-- Two comparisons in sequence. -/
def lex3 {α : Type} (f g : α → α → Int) (a b : α) : Int := if f a b = 0 then g a b else f a b
theorem Ord3.lex {α : Type} {f g : α → α → Int} (hf : Ord3 f) (hg : Ord3 g) : Ord3 (lex3 f g) := by
  refine ⟨fun a b => ?_, fun a b => ?_, fun a b c => ?_⟩
  · unfold lex3
    split
    · exact hg.rng a b
    · exact hf.rng a b
  · unfold lex3
    have h1 := hf.anti a b
    have h2 := hg.anti a b
    by_cases h : f a b = 0
    · rw [if_pos h, if_pos (by omega)]; exact h2
    · rw [if_neg h, if_neg (by omega)]; exact h1
  · unfold lex3
    intro h1 h2
    have e1 := hf.rng a b
    have e2 := hf.rng b c
    have e3 := hg.rng a b
    have e4 := hg.rng b c
    by_cases h : f a b = 0
    · rw [if_pos h] at h1 ⊢
      by_cases k : f b c = 0
      · rw [if_pos k] at h2 ⊢
        have := hf.tr a b c (by omega) (by omega)
        rw [if_pos (by omega)]
        exact hg.tr a b c h1 h2
      · rw [if_neg k] at h2 ⊢
        have := hf.tr a b c (by omega) (by omega)
        rw [if_neg (by omega)]
        omega
    · rw [if_neg h] at h1 ⊢
      by_cases k : f b c = 0
      · rw [if_pos k] at h2 ⊢
        have := hf.tr a b c (by omega) (by omega)
        rw [if_neg (by omega)]
        omega
      · rw [if_neg k] at h2 ⊢
        have := hf.tr a b c (by omega) (by omega)
        rw [if_neg (by omega)]
        omega
theorem Ord3.on {α β : Type} {f : α → α → Int} (hf : Ord3 f) (g : β → α) : Ord3 (fun a b => f (g a) (g b)) :=
  ⟨fun a b => hf.rng _ _, fun a b => hf.anti _ _, fun a b c => hf.tr _ _ _⟩
/-- Lists, element by element; a list comes behind its beginnings. -/
def cmpL {α : Type} (f : α → α → Int) : List α → List α → Int
  | [], [] => 0
  | [], _ :: _ => -1
  | _ :: _, [] => 1
  | a :: l, b :: r => if f a b = 0 then cmpL f l r else f a b
theorem cmpL_rng {α : Type} {f : α → α → Int} (hf : Ord3 f) : ∀ l r : List α, cmpL f l r = -1 ∨ cmpL f l r = 0 ∨ cmpL f l r = 1
  | [], [] => .inr (.inl rfl)
  | [], _ :: _ => .inl rfl
  | _ :: _, [] => .inr (.inr rfl)
  | a :: l, b :: r => by
    rw [cmpL]
    split
    · exact cmpL_rng hf l r
    · exact hf.rng a b
theorem cmpL_anti {α : Type} {f : α → α → Int} (hf : Ord3 f) : ∀ l r : List α, cmpL f r l = - cmpL f l r
  | [], [] => rfl
  | [], _ :: _ => rfl
  | _ :: _, [] => rfl
  | a :: l, b :: r => by
    rw [cmpL, cmpL]
    have h1 := hf.anti a b
    have h2 := cmpL_anti hf l r
    by_cases h : f a b = 0
    · rw [if_pos h, if_pos (by omega)]; exact h2
    · rw [if_neg h, if_neg (by omega)]; exact h1
theorem cmpL_tr {α : Type} {f : α → α → Int} (hf : Ord3 f) : ∀ l r s : List α, cmpL f l r ≤ 0 → cmpL f r s ≤ 0 → cmpL f l s = min (cmpL f l r) (cmpL f r s)
  | [], [], [], _, _ => rfl
  | [], [], _ :: _, _, _ => rfl
  | [], _ :: _, [], _, h => by have : (1 : Int) ≤ 0 := h; omega
  | [], b :: r, c :: s, _, h => by
    have := cmpL_rng hf (b :: r) (c :: s)
    rw [show cmpL f [] (c :: s) = -1 from rfl, show cmpL f [] (b :: r) = -1 from rfl]
    omega
  | _ :: _, [], _, h, _ => by have : (1 : Int) ≤ 0 := h; omega
  | _ :: _, _ :: _, [], _, h => by have : (1 : Int) ≤ 0 := h; omega
  | a :: l, b :: r, c :: s, h1, h2 => by
    rw [cmpL] at h1 h2 ⊢
    rw [cmpL, cmpL]
    have e1 := hf.rng a b
    have e2 := hf.rng b c
    have e3 := cmpL_rng hf l r
    have e4 := cmpL_rng hf r s
    by_cases h : f a b = 0
    · rw [if_pos h] at h1 ⊢
      by_cases k : f b c = 0
      · rw [if_pos k] at h2 ⊢
        have := hf.tr a b c (by omega) (by omega)
        rw [if_pos (by omega)]
        exact cmpL_tr hf l r s h1 h2
      · rw [if_neg k] at h2 ⊢
        have := hf.tr a b c (by omega) (by omega)
        rw [if_neg (by omega)]
        omega
    · rw [if_neg h] at h1 ⊢
      by_cases k : f b c = 0
      · rw [if_pos k] at h2 ⊢
        have := hf.tr a b c (by omega) (by omega)
        rw [if_neg (by omega)]
        omega
      · rw [if_neg k] at h2 ⊢
        have := hf.tr a b c (by omega) (by omega)
        rw [if_neg (by omega)]
        omega
theorem Ord3.list {α : Type} {f : α → α → Int} (hf : Ord3 f) : Ord3 (cmpL f) := ⟨cmpL_rng hf, cmpL_anti hf, cmpL_tr hf⟩
theorem cmpL_eq {α : Type} {f : α → α → Int} (hf : Ord3 f) (he : ∀ a b, f a b = 0 → a = b) : ∀ l r : List α, cmpL f l r = 0 → l = r
  | [], [], _ => rfl
  | [], _ :: _, h => by cases h
  | _ :: _, [], h => by cases h
  | a :: l, b :: r, h => by
    rw [cmpL] at h
    split at h
    · rename_i k
      rw [he a b k, cmpL_eq hf he l r h]
    · rename_i k
      exact absurd h k
/-- Numbers. -/
def cmpI (a b : Int) : Int := if a < b then -1 else if b < a then 1 else 0
theorem ordI : Ord3 cmpI := by
  refine ⟨fun a b => ?_, fun a b => ?_, fun a b c => ?_⟩
  · unfold cmpI; split <;> (try split) <;> simp
  · unfold cmpI; split <;> (try split) <;> (try split) <;> omega
  · unfold cmpI; intro h1 h2; split at h1 <;> (try split at h1) <;> split at h2 <;> (try split at h2) <;> (try omega) <;> (repeat' split) <;> omega
theorem cmpI_eq {a b : Int} (h : cmpI a b = 0) : a = b := by unfold cmpI at h; split at h <;> (try split at h) <;> omega
/-- Bytes. -/
def cmp8 (a b : UInt8) : Int := cmpI a.toNat b.toNat
theorem ord8 : Ord3 cmp8 := ordI.on (fun a : UInt8 => (a.toNat : Int))
theorem cmp8_eq {a b : UInt8} (h : cmp8 a b = 0) : a = b := by
  have := cmpI_eq h
  exact UInt8.toNat_inj.1 (by omega)
/-- Strings. -/
def cmpB (a b : Bytes) : Int := cmpL cmp8 a b
theorem ordB : Ord3 cmpB := ord8.list
theorem cmpB_eq {a b : Bytes} (h : cmpB a b = 0) : a = b := cmpL_eq ord8 (fun _ _ => cmp8_eq) a b h
theorem cmpB_same (a : Bytes) : cmpB a a = 0 := ordB.same a
theorem cmpB_zero {a b : Bytes} : cmpB a b = 0 ↔ a = b := ⟨cmpB_eq, fun h => by rw [h]; exact cmpB_same b⟩
/-- Paths. -/
def cmpP (a b : List Bytes) : Int := cmpL cmpB a b
theorem ordP : Ord3 cmpP := ordB.list
theorem cmpP_zero {a b : List Bytes} : cmpP a b = 0 ↔ a = b := ⟨fun h => cmpL_eq ordB (fun _ _ => cmpB_eq) a b h, fun h => by rw [h]; exact ordP.same b⟩
/-- The model's order of strings. -/
theorem cmpB_lt : ∀ a b : Bytes, (cmpB a b = -1) ↔ a < b
  | [], [] => by simp [cmpB, cmpL]
  | [], _ :: _ => by simp [cmpB, cmpL]
  | _ :: _, [] => by simp [cmpB, cmpL]
  | a :: l, b :: r => by
    rw [List.cons_lt_cons_iff, ← cmpB_lt l r]
    show (if cmp8 a b = 0 then cmpL cmp8 l r else cmp8 a b) = -1 ↔ _
    have h8 : cmp8 a b = -1 ↔ a < b := by
      unfold cmp8 cmpI
      rw [UInt8.lt_iff_toNat_lt]
      split
      · simp; omega
      · split <;> simp <;> omega
    split
    · rename_i h
      have e := cmp8_eq h
      subst e
      have : ¬ a < a := by rw [UInt8.lt_iff_toNat_lt]; omega
      simp [this, cmpB]
    · rename_i h
      rw [h8]
      constructor
      · exact .inl
      · rintro (h2 | ⟨h2, _⟩)
        · exact h2
        · subst h2; exact absurd (ord8.same a) h

/-! The later one of two. -/
def lat3 {α : Type} (f : α → α → Int) (a b : α) : α := if f a b = -1 then b else a
theorem lat3_same {α : Type} (f : α → α → Int) (a : α) : lat3 f a a = a := by unfold lat3; split <;> rfl
theorem lat3_assoc {α : Type} {f : α → α → Int} (hf : Ord3 f) (a b c : α) : lat3 f (lat3 f a b) c = lat3 f a (lat3 f b c) := by
  have e1 := hf.rng a b
  have e2 := hf.rng b c
  have e3 := hf.rng a c
  have a1 := hf.anti a b
  have a2 := hf.anti b c
  have a3 := hf.anti a c
  have t1 := hf.tr a b c
  have t2 := hf.tr c b a
  unfold lat3
  by_cases h1 : f a b = -1
  · rw [if_pos h1]
    by_cases h2 : f b c = -1
    · rw [if_pos h2, if_pos (by have := t1 (by omega) (by omega); omega)]
    · rw [if_neg h2, if_pos h1]
  · rw [if_neg h1]
    by_cases h2 : f b c = -1
    · rw [if_pos h2]
    · rw [if_neg h2, if_neg h1]
      have := t2 (by omega) (by omega)
      rw [if_neg (by omega)]
theorem lat3_comm {α : Type} {f : α → α → Int} (hf : Ord3 f) (a b : α) (h : f a b = 0 → a = b) : lat3 f b a = lat3 f a b := by
  have e1 := hf.rng a b
  have a1 := hf.anti a b
  unfold lat3
  by_cases h1 : f a b = -1
  · rw [if_pos h1, if_neg (by omega)]
  · rw [if_neg h1]
    by_cases h2 : f a b = 0
    · rw [if_neg (by omega), h h2]
    · rw [if_pos (by omega)]
end Go.Proofs.YtadkgjbidhfefaaGreatDoor
