/-
  Chapter 04, plain: a canonical date is ASCII; ToLower and ToUpper of it. No program.
-/
import Derived.Test.YtooabnmmgmmklaaDoorRnd4
import Derived.Lib.Case
set_option linter.unusedVariables false
namespace Go.Proofs.YtooabnmmgmmklaaDoor

theorem low_A (c : UInt8) : Lib.lowerB c = low c := by
  have key : ∀ n < 256, Lib.lowerB (UInt8.ofNat n) = low (UInt8.ofNat n) := by decide +kernel
  have := key c.toNat c.toNat_lt
  rwa [UInt8.ofNat_toNat] at this
theorem up_A (c : UInt8) : Lib.upperB c = upc c := by
  have key : ∀ n < 256, Lib.upperB (UInt8.ofNat n) = upc (UInt8.ofNat n) := by decide +kernel
  have := key c.toNat c.toNat_lt
  rwa [UInt8.ofNat_toNat] at this
theorem lowA (s : Bytes) : Lib.toLowerA s = lowS s := by
  unfold Lib.toLowerA lowS
  exact List.map_congr_left fun c _ => low_A c
theorem upA (s : Bytes) : Lib.toUpperA s = upS s := by
  unfold Lib.toUpperA upS
  exact List.map_congr_left fun c _ => up_A c
theorem dg_ascii (n : Nat) : (dg n).toNat < 128 := by rw [dg_nat]; omega
theorem tab_ascii : (∀ x ∈ dayTab, ∀ c ∈ titleS x, c.toNat < 128) ∧ (∀ x ∈ monTab, ∀ c ∈ titleS x, c.toNat < 128) := by decide
theorem f82_ascii {w y m d s : Nat} (hw : w < 7) (h1 : 1 ≤ m) (h2 : m ≤ 12) : ∀ c ∈ f82 w y m d s, c.toNat < 128 := by
  have hd : ∀ c ∈ titleS (dayTab.getD w []), c.toNat < 128 := tab_ascii.1 _ (dayN_mem hw)
  have hm : ∀ c ∈ titleS (monTab.getD (m - 1) []), c.toNat < 128 := tab_ascii.2 _ (by
    have : m - 1 < monTab.length := by show m - 1 < 12; omega
    rw [List.getD_eq_getElem?_getD, List.getElem?_eq_getElem this]
    exact List.getElem_mem _)
  have h2d : ∀ n, ∀ c ∈ d2 n, c.toNat < 128 := by
    intro n c hc
    unfold d2 at hc
    simp only [List.mem_cons, List.not_mem_nil, or_false] at hc
    rcases hc with rfl | rfl <;> exact dg_ascii _
  have h4d : ∀ n, ∀ c ∈ d4 n, c.toNat < 128 := by
    intro n c hc
    unfold d4 at hc
    simp only [List.mem_cons, List.not_mem_nil, or_false] at hc
    rcases hc with rfl | rfl | rfl | rfl <;> exact dg_ascii _
  intro c hc
  unfold f82 clk at hc
  simp only [List.mem_append, List.mem_cons, List.not_mem_nil, or_false] at hc
  rcases hc with ((((((((hc | hc) | hc) | hc) | hc) | hc) | hc) | hc) | hc) | hc
  all_goals first
    | exact hd _ hc
    | exact hm _ hc
    | exact h2d _ _ hc
    | exact h4d _ _ hc
    | (subst hc; decide)
    | (rcases hc with rfl | rfl <;> decide)
    | (rcases hc with rfl | rfl | rfl | rfl <;> decide)
    | (rcases hc with (((hc | hc) | hc) | hc) | hc <;> first | exact h2d _ _ hc | (subst hc; decide))
theorem f82_len {w y m d s : Nat} (hw : w < 7) (h1 : 1 ≤ m) (h2 : m ≤ 12) : (f82 w y m d s).length = 29 := by
  have hd := (dayN_word hw).2.2.2.2
  have hm : (monN m).length = 3 := by
    have key : ∀ i : Fin 12, (titleS (monTab.getD i.1 [])).length = 3 := by decide
    exact key ⟨m - 1, by omega⟩
  unfold dayN at hd
  unfold monN at hm
  unfold f82 clk d2 d4
  simp only [List.length_append, List.length_cons, List.length_nil, hd, hm]
end Go.Proofs.YtooabnmmgmmklaaDoor
