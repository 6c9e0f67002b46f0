/-
  Plain laws of chapter 5: unescaping undoes escaping; what an escaped text does not hold. No program.
-/
import Derived.Test.YtjpphdmpfhdnkaaRefUn
import Derived.Test.YtjpphdmpfhdnkaaRefP
set_option linter.unusedVariables false
namespace Go.Proofs.Ytjpphdmpfhdnkaa

theorem unescS_ref {x t : Bytes} {r n : Nat} (hx : ∀ b ∈ x, b ≠ 59) (hr : nameRef x = some r) : unescS 0 (38 :: (x ++ 59 :: t)) n = (unescS 0 t (n + x.length + 2)).map (enc r ++ ·) := by
  have ht : tailRef (x ++ 59 :: t) = some (r, x.length) := by
    unfold tailRef
    rw [upto_of hx, Option.bind_some, hr]; rfl
  rw [unescS, if_pos rfl, ht]
  simp only
  rw [unescS_skip (x.length + 1) _ _ (by simp)]
  have e : (x ++ 59 :: t).drop (x.length + 1) = t := by simp
  rw [e, show n + 1 + (x.length + 1) = n + x.length + 2 by omega]
theorem escOne_form (a : Bool) (c : UInt8) : (escOne a c = [c] ∧ c ≠ 38) ∨ ∃ x, escOne a c = 38 :: (x ++ [59]) ∧ (∀ b ∈ x, b ≠ 59) ∧ nameRef x = some c.toNat ∧ c.toNat < 128 := by
  by_cases h : rep a c = []
  · refine .inl ⟨escOne_no h, ?_⟩
    rintro rfl
    exact absurd h (by cases a <;> decide)
  · refine .inr ?_
    have h2 : escOne a c = rep a c := by unfold escOne; rw [if_neg h]
    rw [h2]
    unfold rep at h ⊢
    split
    · rename_i e; exact ⟨[97, 109, 112], rfl, by decide, by rw [e]; decide, by omega⟩
    · split
      · rename_i e; exact ⟨[108, 116], rfl, by decide, by rw [e]; decide, by omega⟩
      · split
        · rename_i e; exact ⟨[103, 116], rfl, by decide, by rw [e]; decide, by omega⟩
        · split
          · rename_i e; exact ⟨[35, 49, 51], rfl, by decide, by rw [e]; decide, by omega⟩
          · split
            · rename_i e; exact ⟨[113, 117, 111, 116], rfl, by decide, by rw [e.2]; decide, by omega⟩
            · split
              · rename_i e; exact ⟨[35, 57], rfl, by decide, by rw [e.2]; decide, by omega⟩
              · split
                · rename_i e; exact ⟨[35, 49, 48], rfl, by decide, by rw [e.2]; decide, by omega⟩
                · simp_all
theorem unescS_esc (a : Bool) : ∀ (l : Bytes) (n : Nat), unescS 0 (esc a l) n = .ok l
  | [], n => by simp [esc, unescS]
  | c :: l, n => by
    have e : esc a (c :: l) = escOne a c ++ esc a l := by simp [esc]
    rw [e]
    rcases escOne_form a c with ⟨h1, h2⟩ | ⟨x, h1, h2, h3, h4⟩
    · rw [h1, List.singleton_append, unescS, if_neg h2, unescS_esc a l]
      rfl
    · rw [h1]
      have e2 : (38 :: (x ++ [59])) ++ esc a l = 38 :: (x ++ 59 :: esc a l) := by simp
      rw [e2, unescS_ref h2 h3, unescS_esc a l]
      have e3 : enc c.toNat = [c] := by
        unfold enc okRune
        rw [if_neg (by omega), if_pos h4, UInt8.ofNat_toNat]
      rw [e3]; rfl
theorem unT_esc (a : Bool) (l : Bytes) : unT (esc a l) = (l, ((esc a l).length : Int), 0) := unT_ok (unescS_esc a l 0)

theorem escOne_hasnt (a : Bool) (c d : UInt8) (hd : d = 60 ∨ d = 62 ∨ d = 13 ∨ (a = true ∧ (d = 34 ∨ d = 10))) : ∀ b ∈ escOne a c, b ≠ d := by
  intro b hb e
  subst e
  by_cases h : rep a c = []
  · rw [escOne_no h, List.mem_singleton] at hb
    subst hb
    rcases hd with rfl | rfl | rfl | ⟨rfl, rfl | rfl⟩
    all_goals first | exact absurd h (by decide) | (cases a <;> exact absurd h (by decide))
  · have h2 : escOne a c = rep a c := by unfold escOne; rw [if_neg h]
    rw [h2] at hb
    unfold rep at hb
    have key : ∀ x : Bytes, b ∈ x → x ∈ [[38, 97, 109, 112, 59], [38, 108, 116, 59], [38, 103, 116, 59], [38, 35, 49, 51, 59], [38, 113, 117, 111, 116, 59], [38, 35, 57, 59], [38, 35, 49, 48, 59], ([] : Bytes)] → False := by
      intro x hx hm
      have hb' : b = 60 ∨ b = 62 ∨ b = 13 ∨ b = 34 ∨ b = 10 := by
        rcases hd with h | h | h | ⟨_, h | h⟩ <;> simp [h]
      simp only [List.mem_cons, List.not_mem_nil, or_false] at hm
      rcases hm with rfl | rfl | rfl | rfl | rfl | rfl | rfl | rfl <;>
        (rcases hb' with rfl | rfl | rfl | rfl | rfl <;> exact absurd hx (by decide))
    refine key _ hb ?_
    repeat' split
    all_goals simp
theorem indexByte_esc (a : Bool) (l : Bytes) (d : UInt8) (hd : d = 60 ∨ d = 62 ∨ d = 13 ∨ (a = true ∧ (d = 34 ∨ d = 10))) : Lib.indexByte (esc a l) d = -1 := by
  rw [indexByte_upto, upto_none]
  intro b hb
  unfold esc at hb
  obtain ⟨c, _, hc⟩ := List.mem_flatMap.1 hb
  exact escOne_hasnt a c d hd b hc
end Go.Proofs.Ytjpphdmpfhdnkaa
