/-
  From the reading of an argument to a slice of JSON values in memory.
-/
import Derived.Test.YtadkgjbidhfefaaDoorOpenJ
import Derived.SizedLaws
import Derived.OpenShut
import Derived.ChangeAt
set_option linter.unusedVariables false
namespace Go.Proofs.YtadkgjbidhfefaaDoor
open Go.ChangeShapes Go.WideShapes Go.ChangeAt Go.RowKit

set_option maxRecDepth 100000 in
theorem open_valsV {H : Type} {enc : TypeId × Value → H} {w : World} {v : Value} {d : DataW H} {ps : List MemPlace} {r : Reach} {base : Nat} (hv : Value.okWide Tryd.prog w r base 22 v) (h : DataW.Trod enc Tryd.prog w 0 (fun _ => true) true 22 v d ps)
    (hs : ∀ q ∈ d.weights Tryd.prog 22, q ≤ reachBytes) : ∃ l : List JV, ElsP valE w (· < w.heap.size) v l ∧ JFitL l ∧ l.length ≤ 1500000000000 := by
  obtain ⟨A1, len1, cap1, rfl⟩ := okWide_slice Tryd.underlying22 hv
  obtain ⟨fuel, hf⟩ := h
  obtain ⟨v', l, e, h1, h2, h3⟩ := open_els valE_ok cellsVal bytesVal JFit hf hs (fun n' hn' {_ _} h hs => open_val n' h hs)
  have ev : (Value.slice A1 len1 cap1) = v' := by simpa [Value.cells] using e
  subst ev
  have h2' : l.length * 96 ≤ 140737488351232 := h2
  exact ⟨l, h1, JFitL.of h3, by omega⟩
end Go.Proofs.YtadkgjbidhfefaaDoor
