/-
  From the reading of an argument to a slice of bytes in memory.
-/
import Derived.Test.YthlppbpccldikaaDoorZOpenG
import Derived.Test.YthlppbpccldikaaDoorZLaw11e
import Derived.ChangeSlices
import Derived.ChangeMaps5
import Derived.OpenShut
set_option linter.unusedVariables false
namespace Go.Proofs.YthlppbpccldikaaDoor
open Go.ChangeShapes Go.WideShapes Go.RowKit
set_option maxRecDepth 100000 in
theorem open_u8sV {H : Type} {enc : TypeId × Value → H} {w : World} {v : Value} {d : DataW H} {ps : List MemPlace} {r : Reach} {base : Nat} (hv : Value.okWide Tryd.prog w r base 34 v) (h : DataW.Trod enc Tryd.prog w 0 (fun _ => true) true 34 v d ps) :
    ∃ l : List Nat, ByIn w v l := by
  obtain ⟨A1, len1, cap1, rfl⟩ := okWide_slice Tryd.underlying34 hv
  obtain ⟨fuel, hf⟩ := h
  rcases open_ints Tryd.underlying34 Tryd.underlying5 (by kernel_rfl) hf with ⟨e, _⟩ | ⟨a, len, cap, zs, e, _, hlc, hcm, hlen, _, hcell, hwf⟩
  · have ev : (Value.slice A1 len1 cap1) = .slice none 0 0 := by simpa [Value.cells] using e
    rw [ev]
    exact ⟨[], none, 0, rfl, .inl rfl, by simp, by simp⟩
  · have ev : (Value.slice A1 len1 cap1) = .slice (some a) len cap := by simpa [Value.cells] using e
    rw [ev]
    have hzl : zs.length = cap := by rw [hlen]; simp
    have hbd : ∀ n ∈ zs, 0 ≤ n ∧ n ≤ 255 := fun n hn => bounds_u8 (hwf n hn)
    have hl2 : ((zs.take len).map Int.toNat).length = len := by simp; omega
    refine ⟨(zs.take len).map Int.toNat, some a, cap, by rw [hl2], ?_, ?_, ?_⟩
    · by_cases h0 : len = 0
      · left; subst h0; simp
      · right
        obtain ⟨b, off, rfl, hb⟩ := addr_plain (hcell 0 (by omega)) rfl
        refine ⟨b, off, rfl, hb, fun i hi => ?_⟩
        have hi2 : i < zs.length := by rw [hl2] at hi; omega
        have hc := hcell i hi2
        rw [add_none] at hc
        rw [hc]
        have h2 := hbd zs[i] (List.getElem_mem hi2)
        have h3 : ((zs.take len).map Int.toNat)[i] = zs[i].toNat := by simp
        rw [h3, List.getD_eq_getElem?_getD, List.getElem?_eq_getElem hi2, Option.getD_some, Int.toNat_of_nonneg h2.1]
    · intro x hx
      obtain ⟨n, hn, rfl⟩ := List.mem_map.1 hx
      have := hbd n (List.mem_of_mem_take hn)
      omega
    · rw [hl2]; unfold maxLen at hcm; omega
end Go.Proofs.YthlppbpccldikaaDoor
