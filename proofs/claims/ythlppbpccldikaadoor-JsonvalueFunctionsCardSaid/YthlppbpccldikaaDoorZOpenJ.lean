/-
  From the reading of an argument to a JSON value in memory.
-/
import Derived.Test.YthlppbpccldikaaDoorZOpenG
import Derived.Test.YthlppbpccldikaaDoorH4
import Derived.ChangeMaps5
import Derived.OpenShut
set_option linter.unusedVariables false
namespace Go.Proofs.YthlppbpccldikaaDoor
open Go.RowKit Go.ChangeShapes Go.WideShapes Go.ChangeMaps

theorem cellsVal : Tryd.prog.cellsOf 25 = 7 := by kernel_rfl
theorem cellsMem : Tryd.prog.cellsOf 45 = 9 := by kernel_rfl
theorem cellsStrJ : Tryd.prog.cellsOf 9 = 1 := by kernel_rfl
theorem cellsIntJ : Tryd.prog.cellsOf 3 = 1 := by kernel_rfl
theorem cellsI64J : Tryd.prog.cellsOf 2 = 1 := by kernel_rfl
theorem cellsBoolJ : Tryd.prog.cellsOf 4 = 1 := by kernel_rfl
theorem cellsVals : Tryd.prog.cellsOf 22 = 1 := by kernel_rfl
theorem cellsMems : Tryd.prog.cellsOf 23 = 1 := by kernel_rfl
theorem bytesVal : Tryd.prog.bytesOf 25 = 96 := by kernel_rfl
theorem bytesMem : Tryd.prog.bytesOf 45 = 120 := by kernel_rfl

section
variable {H : Type} {enc : TypeId × Value → H} {w : World}
set_option maxRecDepth 100000 in
theorem open_mem {fuel : Nat} {cs : List Value} {x : DataW H × List MemPlace} (ih : ∀ n', n' < fuel → ∀ {cs : List Value} {x : DataW H × List MemPlace}, DataW.trod enc Tryd.prog w 0 (fun _ => true) true n' 25 cs = some x → (∀ q ∈ x.1.weights Tryd.prog 25, q ≤ reachBytes) → ∃ v : JV, ValP w (· < w.heap.size) v cs ∧ JFit v)
    (h : DataW.trod enc Tryd.prog w 0 (fun _ => true) true fuel 45 cs = some x) (hs : ∀ q ∈ x.1.weights Tryd.prog 45, q ≤ reachBytes) : ∃ m : JM, MemP w (· < w.heap.size) m cs ∧ JFit m.val := by
  obtain ⟨xs, n, hn, hx, hl, hlen, hg⟩ := DataW.trod_struct Tryd.underlying45 h
  rw [cellsMem] at hl
  match cs, hl, xs, hlen with
  | [c0, c1, c2, c3, c4, c5, c6, c7, c8], _, [y0, y1, y2], _ =>
    have g0 : DataW.trod enc Tryd.prog w 0 (fun _ => true) true n 9 ((([c0, c1, c2, c3, c4, c5, c6, c7, c8] : List Value).drop 0).take (Tryd.prog.cellsOf 9)) = some y0 := hg 0 _ rfl
    rw [cellsStrJ] at g0
    have g1 : DataW.trod enc Tryd.prog w 0 (fun _ => true) true n 25 ((([c0, c1, c2, c3, c4, c5, c6, c7, c8] : List Value).drop 1).take (Tryd.prog.cellsOf 25)) = some y1 := hg 1 _ rfl
    rw [cellsVal] at g1
    have g2 : DataW.trod enc Tryd.prog w 0 (fun _ => true) true n 3 ((([c0, c1, c2, c3, c4, c5, c6, c7, c8] : List Value).drop 8).take (Tryd.prog.cellsOf 3)) = some y2 := hg 2 _ rfl
    rw [cellsIntJ] at g2
    subst hx
    have hw : ∀ q ∈ y1.1.weights Tryd.prog 25, q ≤ reachBytes := by
      intro q hq
      refine hs q ?_
      simp only [List.map_cons, List.map_nil, DataW.weights, Tryd.underlying45]
      exact DataW.weights_mem_each (ts := [9, 25, 3]) (j := 1) rfl rfl q hq
    obtain ⟨s0, e0, _⟩ := DataW.trod_string Tryd.underlying9 g0
    obtain ⟨k2, e2, _⟩ := DataW.trod_int Tryd.underlying3 g2
    obtain ⟨v, hv, hf⟩ := ih n (by omega) g1 hw
    simp only [List.drop_zero, List.drop_succ_cons, List.take_succ_cons, List.take_zero, List.cons.injEq, and_true] at e0 e2 hv
    subst e0 e2
    exact ⟨.mk s0.data.toList v k2, ⟨_, hv, by simp [JM.key, JM.pos, S]⟩, hf⟩
set_option maxRecDepth 100000 in
theorem open_val (fuel : Nat) : ∀ {cs : List Value} {x : DataW H × List MemPlace}, DataW.trod enc Tryd.prog w 0 (fun _ => true) true fuel 25 cs = some x → (∀ q ∈ x.1.weights Tryd.prog 25, q ≤ reachBytes) →
    ∃ v : JV, ValP w (· < w.heap.size) v cs ∧ JFit v := by
  induction fuel using Nat.strongRecOn with
  | ind fuel ih =>
    intro cs x h hs
    obtain ⟨xs, n, hn, hx, hl, hlen, hg⟩ := DataW.trod_struct Tryd.underlying25 h
    rw [cellsVal] at hl
    match cs, hl, xs, hlen with
    | [c0, c1, c2, c3, c4, c5, c6], _, [y0, y1, y2, y3, y4, y5, y6], _ =>
      have g0 : DataW.trod enc Tryd.prog w 0 (fun _ => true) true n 3 ((([c0, c1, c2, c3, c4, c5, c6] : List Value).drop 0).take (Tryd.prog.cellsOf 3)) = some y0 := hg 0 _ rfl
      rw [cellsIntJ] at g0
      have g1 : DataW.trod enc Tryd.prog w 0 (fun _ => true) true n 4 ((([c0, c1, c2, c3, c4, c5, c6] : List Value).drop 1).take (Tryd.prog.cellsOf 4)) = some y1 := hg 1 _ rfl
      rw [cellsBoolJ] at g1
      have g2 : DataW.trod enc Tryd.prog w 0 (fun _ => true) true n 2 ((([c0, c1, c2, c3, c4, c5, c6] : List Value).drop 2).take (Tryd.prog.cellsOf 2)) = some y2 := hg 2 _ rfl
      rw [cellsI64J] at g2
      have g3 : DataW.trod enc Tryd.prog w 0 (fun _ => true) true n 9 ((([c0, c1, c2, c3, c4, c5, c6] : List Value).drop 3).take (Tryd.prog.cellsOf 9)) = some y3 := hg 3 _ rfl
      rw [cellsStrJ] at g3
      have g4 : DataW.trod enc Tryd.prog w 0 (fun _ => true) true n 22 ((([c0, c1, c2, c3, c4, c5, c6] : List Value).drop 4).take (Tryd.prog.cellsOf 22)) = some y4 := hg 4 _ rfl
      rw [cellsVals] at g4
      have g5 : DataW.trod enc Tryd.prog w 0 (fun _ => true) true n 23 ((([c0, c1, c2, c3, c4, c5, c6] : List Value).drop 5).take (Tryd.prog.cellsOf 23)) = some y5 := hg 5 _ rfl
      rw [cellsMems] at g5
      have g6 : DataW.trod enc Tryd.prog w 0 (fun _ => true) true n 3 ((([c0, c1, c2, c3, c4, c5, c6] : List Value).drop 6).take (Tryd.prog.cellsOf 3)) = some y6 := hg 6 _ rfl
      rw [cellsIntJ] at g6
      subst hx
      have hw : ∀ (j : Nat) (t : TypeId) (d : DataW H), ([3, 4, 2, 9, 22, 23, 3] : List TypeId)[j]? = some t → ([y0.1, y1.1, y2.1, y3.1, y4.1, y5.1, y6.1])[j]? = some d → ∀ q ∈ d.weights Tryd.prog t, q ≤ reachBytes := by
        intro j t d ht hd q hq
        refine hs q ?_
        simp only [List.map_cons, List.map_nil, DataW.weights, Tryd.underlying25]
        exact DataW.weights_mem_each ht hd q hq
      obtain ⟨k0, e0, _⟩ := DataW.trod_int Tryd.underlying3 g0
      obtain ⟨b1, e1, _⟩ := DataW.trod_bool Tryd.underlying4 g1
      obtain ⟨n2, e2, _, wf2⟩ := DataW.trod_int Tryd.underlying2 g2
      obtain ⟨s3, e3, _⟩ := DataW.trod_string Tryd.underlying9 g3
      obtain ⟨vi, is, e4, hi, hil, hif⟩ := open_els valE_ok cellsVal bytesVal JFit g4 (hw 4 _ _ rfl rfl) (fun n' hn' {_ _} h hs => ih n' (by omega) h hs)
      obtain ⟨vm, ms, e5, hm, hml, hmf⟩ := open_els memE_ok cellsMem bytesMem (fun m => JFit m.val) g5 (hw 5 _ _ rfl rfl) (fun n' hn' {_ _} h hs => open_mem (fun n'' hn'' {_ _} h hs => ih n'' (by omega) h hs) h hs)
      obtain ⟨k6, e6, _⟩ := DataW.trod_int Tryd.underlying3 g6
      obtain ⟨IA, ic, rfl, _⟩ := hi.slice
      obtain ⟨MA, mc, rfl, _⟩ := hm.slice
      simp only [List.drop_zero, List.drop_succ_cons, List.take_succ_cons, List.take_zero, List.cons.injEq, and_true] at e0 e1 e2 e3 e4 e5 e6
      subst e0 e1 e2 e3 e4 e5 e6
      have hb := bounds_i64 wf2
      have hil' : is.length * 96 ≤ 140737488351232 := hil
      have hml' : ms.length * 120 ≤ 140737488351232 := hml
      refine ⟨.mk k0 b1 n2 s3.data.toList is ms k6, ?_, JFit.of_form ⟨by simp only [JV.items]; omega, by simp only [JV.mems]; omega, hb.1, hb.2⟩ hif hmf⟩
      have := ValP.of_open (n := .mk k0 b1 n2 s3.data.toList is ms k6) hi hm
      simpa [JV.kind, JV.b, JV.n, JV.s, JV.pos, JV.items, JV.mems, S] using this
end
set_option maxRecDepth 100000 in
/-- A struct argument opened. -/
theorem open_valV {H : Type} {enc : TypeId × Value → H} {w : World} {v : Value} {d : DataW H} {ps : List MemPlace} {r : Reach} {base : Nat} (hv : Value.okWide Tryd.prog w r base 25 v) (h : DataW.Trod enc Tryd.prog w 0 (fun _ => true) true 25 v d ps)
    (hs : ∀ q ∈ d.weights Tryd.prog 25, q ≤ reachBytes) : ∃ n : JV, ValV w (· < w.heap.size) n v ∧ JFit n := by
  obtain ⟨cs, rfl, hsz⟩ := okWide_struct Tryd.underlying25 hv
  obtain ⟨fuel, hf⟩ := h
  obtain ⟨n, h1, h2⟩ := open_val fuel hf hs
  exact ⟨n, ⟨_, by simp [Value.cells], h1⟩, h2⟩
end Go.Proofs.YthlppbpccldikaaDoor
