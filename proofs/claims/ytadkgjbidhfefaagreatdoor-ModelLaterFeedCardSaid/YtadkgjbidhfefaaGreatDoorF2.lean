/-
  Several texts in one file, in build order:
  - From the reading of an argument to a slice of elements in memory, of any kind.
  - From the reading of an argument to a JSON value in memory.
  - From the reading of an argument to an entry.
  - Walks of chapter 13's statements: is an archive too large to be tested?
  - From the reading of an argument to a feed, and to an archive.
-/
import Derived.Test.YtadkgjbidhfefaaGreatDoorElt
import Derived.Deep.Slices
import Derived.SizedLaws
import Derived.Carry
import Derived.ChangeSame
import Derived.Test.YtadkgjbidhfefaaGreatDoorSpec12
import Derived.ChangeMaps5
import Derived.OpenShut
import Derived.Test.YtadkgjbidhfefaaGreatDoorKey13b
import Derived.Test.YtadkgjbidhfefaaGreatDoorF4
import Derived.WalkSpells
import Derived.WalkLawsBesides
set_option linter.unusedVariables false
namespace Go.Proofs.YtadkgjbidhfefaaGreatDoor
open Go.RowKit Go.ChangeShapes Go.WideShapes

theorem weightsAll_of {H : Type} {P : Program} {e : TypeId} : ∀ {l : List (DataW H)} {d : DataW H}, d ∈ l → ∀ n ∈ d.weights P e, n ∈ DataW.weightsAll P e l
  | x :: l, d, hd, n, hn => by
    rw [DataW.weightsAll, List.mem_append]
    rcases List.mem_cons.1 hd with rfl | hd
    · exact .inl hn
    · exact .inr (weightsAll_of hd n hn)
theorem addr_plain {w : World} {a : Addr} {i : Nat} {v : Value} (h : w.cell? (a.add i) = some v) (h0 : i = 0) : ∃ b off, a = ⟨b, off, none⟩ ∧ b < w.heap.size := by
  obtain ⟨b, off, spot⟩ := a
  subst h0
  have h' : w.cell? ⟨b, off, spot⟩ = some v := by simpa [Addr.add] using h
  have hspot : spot = none := World.cell?_spot h'
  subst hspot
  refine ⟨b, off, rfl, ?_⟩
  rcases Nat.lt_or_ge b w.heap.size with hb | hb
  · exact hb
  · simp [World.cell?, Array.getElem?_eq_none hb] at h'
theorem add_none (b off i : Nat) : (⟨b, off, none⟩ : Addr).add i = ⟨b, off + i, none⟩ := by unfold Addr.add; split <;> simp_all

set_option maxRecDepth 100000 in
theorem open_els {α : Type} {E : Elt α} (hE : E.Ok) {H : Type} {enc : TypeId × Value → H} {w : World} (hce : Tryz.prog.cellsOf E.T = E.c) (hby : Tryz.prog.bytesOf E.T = E.bytes) (Q : α → Prop) {fuel : Nat} {cs : List Value} {x : DataW H × List MemPlace}
    (h : DataW.trod enc Tryz.prog w 0 (fun _ => true) true fuel E.TS cs = some x) (hs : ∀ q ∈ x.1.weights Tryz.prog E.TS, q ≤ reachBytes)
    (hel : ∀ n', n' < fuel → ∀ {cs : List Value} {x : DataW H × List MemPlace}, DataW.trod enc Tryz.prog w 0 (fun _ => true) true n' E.T cs = some x → (∀ q ∈ x.1.weights Tryz.prog E.T, q ≤ reachBytes) → ∃ a, E.El w (· < w.heap.size) a cs ∧ Q a) :
    ∃ v l, cs = [v] ∧ ElsP E w (· < w.heap.size) v l ∧ l.length * E.bytes ≤ 140737488351232 ∧ ∀ a ∈ l, Q a := by
  rcases DataW.trod_slice hE.list h with ⟨rfl, _⟩ | ⟨a, len, cap, elems, rest, n', hn', rfl, rfl, _, hlc, _, hel2, hat, _⟩
  · exact ⟨_, [], rfl, ⟨none, 0, rfl, Nat.le_refl _, .inl rfl⟩, by simp, by simp⟩
  · have hw0 := hs ((elems.length + rest.length) * E.bytes) (by simp [DataW.weights, hE.list, hby])
    have hreach : reachBytes = 140737488351232 := rfl
    rw [hce] at hat
    have hi : ∀ i, i < len → ∃ kc : α × List Value, E.El w (· < w.heap.size) kc.1 kc.2 ∧ Q kc.1 ∧ ∀ j v, kc.2[j]? = some v → w.cell? (a.add (i * E.c + j)) = some v := by
      intro i hi
      have h1 := hat i hi
      rw [List.getElem?_eq_getElem (by omega)] at h1
      obtain ⟨cs', h2, h3⟩ := Option.bind_eq_some_iff.1 h1
      obtain ⟨_, hl', hc⟩ := World.cells?_some h2
      obtain ⟨k, hk1, hk2⟩ := hel n' (by omega) h3 (fun q hq => hs q (by
        simp only [DataW.weights, hE.list, List.mem_cons, List.mem_append]
        exact .inr (.inl (weightsAll_of (List.mem_map_of_mem (List.getElem_mem (show i < elems.length by omega))) q hq))))
      refine ⟨(k, cs'), hk1, hk2, fun j v hj => ?_⟩
      have hj7 : j < E.c := by rw [← hl']; exact (List.getElem?_eq_some_iff.1 hj).1
      have := hc j hj7
      rw [Go.Deep.add_add] at this
      rw [this, hj]
    have hlen : len * E.bytes ≤ 140737488351232 := by
      have h1 : len * E.bytes ≤ (elems.length + rest.length) * E.bytes := Nat.mul_le_mul_right _ (by omega)
      omega
    by_cases h0 : len = 0
    · subst h0
      exact ⟨_, [], rfl, ⟨_, cap, rfl, Nat.zero_le _, .inl rfl⟩, by simp, by simp⟩
    · obtain ⟨kc0, h01, _, h00⟩ := hi 0 (by omega)
      have hl0 := hE.len h01
      have hp0 := hE.pos
      obtain ⟨b, off, rfl, hb⟩ := addr_plain (h00 0 _ (List.getElem?_eq_getElem (by omega))) (by simp)
      have : Inhabited (α × List Value) := ⟨kc0⟩
      obtain ⟨f, hf⟩ := Go.Deep.choose_lt hi
      refine ⟨_, (List.range len).map fun i => (f i).1, rfl, ⟨_, cap, by simp, by simpa using hlc, .inr ⟨b, off, rfl, hb, fun i k hk => ?_⟩⟩, by simpa using hlen, fun k hk => ?_⟩
      · have hil : i < len := by have := (List.getElem?_eq_some_iff.1 hk).1; simpa using this
        simp [hil] at hk
        subst hk
        refine ⟨(f i).2, (hf i hil).1, fun j v hj => ?_⟩
        have := (hf i hil).2.2 j v hj
        rw [add_none] at this
        rw [show off + i * E.c + j = off + (i * E.c + j) by omega]
        exact this
      · simp only [List.mem_map, List.mem_range] at hk
        obtain ⟨i, hil, rfl⟩ := hk
        exact (hf i hil).2.1
end Go.Proofs.YtadkgjbidhfefaaGreatDoor
set_option linter.unusedVariables false
namespace Go.Proofs.YtadkgjbidhfefaaGreatDoor
open Go.RowKit Go.ChangeShapes Go.WideShapes Go.ChangeMaps

theorem cellsVal : Tryz.prog.cellsOf 60 = 7 := by kernel_rfl
theorem cellsMem : Tryz.prog.cellsOf 108 = 9 := by kernel_rfl
theorem cellsStrJ : Tryz.prog.cellsOf 9 = 1 := by kernel_rfl
theorem cellsIntJ : Tryz.prog.cellsOf 3 = 1 := by kernel_rfl
theorem cellsI64J : Tryz.prog.cellsOf 2 = 1 := by kernel_rfl
theorem cellsBoolJ : Tryz.prog.cellsOf 4 = 1 := by kernel_rfl
theorem cellsVals : Tryz.prog.cellsOf 57 = 1 := by kernel_rfl
theorem cellsMems : Tryz.prog.cellsOf 58 = 1 := by kernel_rfl
theorem bytesVal : Tryz.prog.bytesOf 60 = 96 := by kernel_rfl
theorem bytesMem : Tryz.prog.bytesOf 108 = 120 := by kernel_rfl

section
variable {H : Type} {enc : TypeId × Value → H} {w : World}
set_option maxRecDepth 100000 in
theorem open_mem {fuel : Nat} {cs : List Value} {x : DataW H × List MemPlace} (ih : ∀ n', n' < fuel → ∀ {cs : List Value} {x : DataW H × List MemPlace}, DataW.trod enc Tryz.prog w 0 (fun _ => true) true n' 60 cs = some x → (∀ q ∈ x.1.weights Tryz.prog 60, q ≤ reachBytes) → ∃ v : JV, ValP w (· < w.heap.size) v cs ∧ JFit v)
    (h : DataW.trod enc Tryz.prog w 0 (fun _ => true) true fuel 108 cs = some x) (hs : ∀ q ∈ x.1.weights Tryz.prog 108, q ≤ reachBytes) : ∃ m : JM, MemP w (· < w.heap.size) m cs ∧ JFit m.val := by
  obtain ⟨xs, n, hn, hx, hl, hlen, hg⟩ := DataW.trod_struct Tryz.underlying108 h
  rw [cellsMem] at hl
  match cs, hl, xs, hlen with
  | [c0, c1, c2, c3, c4, c5, c6, c7, c8], _, [y0, y1, y2], _ =>
    have g0 : DataW.trod enc Tryz.prog w 0 (fun _ => true) true n 9 ((([c0, c1, c2, c3, c4, c5, c6, c7, c8] : List Value).drop 0).take (Tryz.prog.cellsOf 9)) = some y0 := hg 0 _ rfl
    rw [cellsStrJ] at g0
    have g1 : DataW.trod enc Tryz.prog w 0 (fun _ => true) true n 60 ((([c0, c1, c2, c3, c4, c5, c6, c7, c8] : List Value).drop 1).take (Tryz.prog.cellsOf 60)) = some y1 := hg 1 _ rfl
    rw [cellsVal] at g1
    have g2 : DataW.trod enc Tryz.prog w 0 (fun _ => true) true n 3 ((([c0, c1, c2, c3, c4, c5, c6, c7, c8] : List Value).drop 8).take (Tryz.prog.cellsOf 3)) = some y2 := hg 2 _ rfl
    rw [cellsIntJ] at g2
    subst hx
    have hw : ∀ q ∈ y1.1.weights Tryz.prog 60, q ≤ reachBytes := by
      intro q hq
      refine hs q ?_
      simp only [List.map_cons, List.map_nil, DataW.weights, Tryz.underlying108]
      exact DataW.weights_mem_each (ts := [9, 60, 3]) (j := 1) rfl rfl q hq
    obtain ⟨s0, e0, _⟩ := DataW.trod_string Tryz.underlying9 g0
    obtain ⟨k2, e2, _⟩ := DataW.trod_int Tryz.underlying3 g2
    obtain ⟨v, hv, hf⟩ := ih n (by omega) g1 hw
    simp only [List.drop_zero, List.drop_succ_cons, List.take_succ_cons, List.take_zero, List.cons.injEq, and_true] at e0 e2 hv
    subst e0 e2
    exact ⟨.mk s0.data.toList v k2, ⟨_, hv, by simp [JM.key, JM.pos, S]⟩, hf⟩
set_option maxRecDepth 100000 in
theorem open_val (fuel : Nat) : ∀ {cs : List Value} {x : DataW H × List MemPlace}, DataW.trod enc Tryz.prog w 0 (fun _ => true) true fuel 60 cs = some x → (∀ q ∈ x.1.weights Tryz.prog 60, q ≤ reachBytes) →
    ∃ v : JV, ValP w (· < w.heap.size) v cs ∧ JFit v := by
  induction fuel using Nat.strongRecOn with
  | ind fuel ih =>
    intro cs x h hs
    obtain ⟨xs, n, hn, hx, hl, hlen, hg⟩ := DataW.trod_struct Tryz.underlying60 h
    rw [cellsVal] at hl
    match cs, hl, xs, hlen with
    | [c0, c1, c2, c3, c4, c5, c6], _, [y0, y1, y2, y3, y4, y5, y6], _ =>
      have g0 : DataW.trod enc Tryz.prog w 0 (fun _ => true) true n 3 ((([c0, c1, c2, c3, c4, c5, c6] : List Value).drop 0).take (Tryz.prog.cellsOf 3)) = some y0 := hg 0 _ rfl
      rw [cellsIntJ] at g0
      have g1 : DataW.trod enc Tryz.prog w 0 (fun _ => true) true n 4 ((([c0, c1, c2, c3, c4, c5, c6] : List Value).drop 1).take (Tryz.prog.cellsOf 4)) = some y1 := hg 1 _ rfl
      rw [cellsBoolJ] at g1
      have g2 : DataW.trod enc Tryz.prog w 0 (fun _ => true) true n 2 ((([c0, c1, c2, c3, c4, c5, c6] : List Value).drop 2).take (Tryz.prog.cellsOf 2)) = some y2 := hg 2 _ rfl
      rw [cellsI64J] at g2
      have g3 : DataW.trod enc Tryz.prog w 0 (fun _ => true) true n 9 ((([c0, c1, c2, c3, c4, c5, c6] : List Value).drop 3).take (Tryz.prog.cellsOf 9)) = some y3 := hg 3 _ rfl
      rw [cellsStrJ] at g3
      have g4 : DataW.trod enc Tryz.prog w 0 (fun _ => true) true n 57 ((([c0, c1, c2, c3, c4, c5, c6] : List Value).drop 4).take (Tryz.prog.cellsOf 57)) = some y4 := hg 4 _ rfl
      rw [cellsVals] at g4
      have g5 : DataW.trod enc Tryz.prog w 0 (fun _ => true) true n 58 ((([c0, c1, c2, c3, c4, c5, c6] : List Value).drop 5).take (Tryz.prog.cellsOf 58)) = some y5 := hg 5 _ rfl
      rw [cellsMems] at g5
      have g6 : DataW.trod enc Tryz.prog w 0 (fun _ => true) true n 3 ((([c0, c1, c2, c3, c4, c5, c6] : List Value).drop 6).take (Tryz.prog.cellsOf 3)) = some y6 := hg 6 _ rfl
      rw [cellsIntJ] at g6
      subst hx
      have hw : ∀ (j : Nat) (t : TypeId) (d : DataW H), ([3, 4, 2, 9, 57, 58, 3] : List TypeId)[j]? = some t → ([y0.1, y1.1, y2.1, y3.1, y4.1, y5.1, y6.1])[j]? = some d → ∀ q ∈ d.weights Tryz.prog t, q ≤ reachBytes := by
        intro j t d ht hd q hq
        refine hs q ?_
        simp only [List.map_cons, List.map_nil, DataW.weights, Tryz.underlying60]
        exact DataW.weights_mem_each ht hd q hq
      obtain ⟨k0, e0, _⟩ := DataW.trod_int Tryz.underlying3 g0
      obtain ⟨b1, e1, _⟩ := DataW.trod_bool Tryz.underlying4 g1
      obtain ⟨n2, e2, _, wf2⟩ := DataW.trod_int Tryz.underlying2 g2
      obtain ⟨s3, e3, _⟩ := DataW.trod_string Tryz.underlying9 g3
      obtain ⟨vi, is, e4, hi, hil, hif⟩ := open_els valE_ok cellsVal bytesVal JFit g4 (hw 4 _ _ rfl rfl) (fun n' hn' {_ _} h hs => ih n' (by omega) h hs)
      obtain ⟨vm, ms, e5, hm, hml, hmf⟩ := open_els memE_ok cellsMem bytesMem (fun m => JFit m.val) g5 (hw 5 _ _ rfl rfl) (fun n' hn' {_ _} h hs => open_mem (fun n'' hn'' {_ _} h hs => ih n'' (by omega) h hs) h hs)
      obtain ⟨k6, e6, _⟩ := DataW.trod_int Tryz.underlying3 g6
      obtain ⟨IA, ic, rfl, _⟩ := hi.slice
      obtain ⟨MA, mc, rfl, _⟩ := hm.slice
      simp only [List.drop_zero, List.drop_succ_cons, List.take_succ_cons, List.take_zero, List.cons.injEq, and_true] at e0 e1 e2 e3 e4 e5 e6
      subst e0 e1 e2 e3 e4 e5 e6
      have hb := bounds_i64 wf2
      have hil' : is.length * 96 ≤ 140737488351232 := hil
      have hml' : ms.length * 120 ≤ 140737488351232 := hml
      refine ⟨.mk k0 b1 n2 s3.data.toList is ms k6, ?_, JFit.of_form ⟨by simp only [JV.items]; omega, by simp only [JV.mems]; omega, hb.1, hb.2⟩ hif hmf⟩
      have := ValP.of_open (n := .mk k0 b1 n2 s3.data.toList is ms k6) hi hm
      simpa [JV.kind, JV.b, JV.n, JV.s, JV.pos, JV.items, JV.mems, S] using this
end
set_option maxRecDepth 100000 in
/-- A struct argument opened. -/
theorem open_valV {H : Type} {enc : TypeId × Value → H} {w : World} {v : Value} {d : DataW H} {ps : List MemPlace} {r : Reach} {base : Nat} (hv : Value.okWide Tryz.prog w r base 60 v) (h : DataW.Trod enc Tryz.prog w 0 (fun _ => true) true 60 v d ps)
    (hs : ∀ q ∈ d.weights Tryz.prog 60, q ≤ reachBytes) : ∃ n : JV, ValV w (· < w.heap.size) n v ∧ JFit n := by
  obtain ⟨cs, rfl, hsz⟩ := okWide_struct Tryz.underlying60 hv
  obtain ⟨fuel, hf⟩ := h
  obtain ⟨n, h1, h2⟩ := open_val fuel hf hs
  exact ⟨n, ⟨_, by simp [Value.cells], h1⟩, h2⟩
end Go.Proofs.YtadkgjbidhfefaaGreatDoor
set_option linter.unusedVariables false
namespace Go.Proofs.YtadkgjbidhfefaaGreatDoor
open Go.RowKit Go.ChangeShapes Go.WideShapes Go.ChangeMaps

theorem cellsEnt : Tryz.prog.cellsOf 39 = 5 := by kernel_rfl
theorem bytesEnt : Tryz.prog.bytesOf 39 = 72 := by kernel_rfl
/-- No string of the entry is longer than memory allows. -/
def ELen (e : En) : Prop := e.id.length ≤ 140737488351232 ∧ e.title.length ≤ 140737488351232 ∧ e.link.length ≤ 140737488351232 ∧ e.content.length ≤ 140737488351232
section
variable {H : Type} {enc : TypeId × Value → H} {w : World}
set_option maxRecDepth 100000 in
theorem open_ent {fuel : Nat} {cs : List Value} {x : DataW H × List MemPlace} (h : DataW.trod enc Tryz.prog w 0 (fun _ => true) true fuel 39 cs = some x) (hs : ∀ q ∈ x.1.weights Tryz.prog 39, q ≤ reachBytes) :
    ∃ e : En, cs = entCells e ∧ EFit e ∧ ELen e := by
  obtain ⟨xs, n, hn, hx, hl, hlen, hg⟩ := DataW.trod_struct Tryz.underlying39 h
  rw [cellsEnt] at hl
  match cs, hl, xs, hlen with
  | [c0, c1, c2, c3, c4], _, [y0, y1, y2, y3, y4], _ =>
    have g0 : DataW.trod enc Tryz.prog w 0 (fun _ => true) true n 9 ((([c0, c1, c2, c3, c4] : List Value).drop 0).take (Tryz.prog.cellsOf 9)) = some y0 := hg 0 _ rfl
    rw [cellsStrJ] at g0
    have g1 : DataW.trod enc Tryz.prog w 0 (fun _ => true) true n 9 ((([c0, c1, c2, c3, c4] : List Value).drop 1).take (Tryz.prog.cellsOf 9)) = some y1 := hg 1 _ rfl
    rw [cellsStrJ] at g1
    have g2 : DataW.trod enc Tryz.prog w 0 (fun _ => true) true n 9 ((([c0, c1, c2, c3, c4] : List Value).drop 2).take (Tryz.prog.cellsOf 9)) = some y2 := hg 2 _ rfl
    rw [cellsStrJ] at g2
    have g3 : DataW.trod enc Tryz.prog w 0 (fun _ => true) true n 9 ((([c0, c1, c2, c3, c4] : List Value).drop 3).take (Tryz.prog.cellsOf 9)) = some y3 := hg 3 _ rfl
    rw [cellsStrJ] at g3
    have g4 : DataW.trod enc Tryz.prog w 0 (fun _ => true) true n 2 ((([c0, c1, c2, c3, c4] : List Value).drop 4).take (Tryz.prog.cellsOf 2)) = some y4 := hg 4 _ rfl
    rw [cellsI64J] at g4
    subst hx
    have hw : ∀ (j : Nat) (t : TypeId) (d : DataW H), ([9, 9, 9, 9, 2] : List TypeId)[j]? = some t → ([y0.1, y1.1, y2.1, y3.1, y4.1])[j]? = some d → ∀ q ∈ d.weights Tryz.prog t, q ≤ reachBytes := by
      intro j t d ht hd q hq
      refine hs q ?_
      simp only [List.map_cons, List.map_nil, DataW.weights, Tryz.underlying39]
      exact DataW.weights_mem_each ht hd q hq
    obtain ⟨s0, e0, d0, _⟩ := DataW.trod_string Tryz.underlying9 g0
    obtain ⟨s1, e1, d1, _⟩ := DataW.trod_string Tryz.underlying9 g1
    obtain ⟨s2, e2, d2, _⟩ := DataW.trod_string Tryz.underlying9 g2
    obtain ⟨s3, e3, d3, _⟩ := DataW.trod_string Tryz.underlying9 g3
    obtain ⟨n4, e4, _, wf4⟩ := DataW.trod_int Tryz.underlying2 g4
    simp only [List.drop_zero, List.drop_succ_cons, List.take_succ_cons, List.take_zero, List.cons.injEq, and_true] at e0 e1 e2 e3 e4
    subst e0 e1 e2 e3 e4
    have hb := bounds_i64 wf4
    have b0 := hw 0 _ _ rfl rfl s0.data.toList.length (by rw [d0]; simp [DataW.weights])
    have b1 := hw 1 _ _ rfl rfl s1.data.toList.length (by rw [d1]; simp [DataW.weights])
    have b2 := hw 2 _ _ rfl rfl s2.data.toList.length (by rw [d2]; simp [DataW.weights])
    have b3 := hw 3 _ _ rfl rfl s3.data.toList.length (by rw [d3]; simp [DataW.weights])
    exact ⟨⟨s0.data.toList, s1.data.toList, s2.data.toList, s3.data.toList, n4⟩, by simp [entCells, S], ⟨hb.1, hb.2⟩, b0, b1, b2, b3⟩
end
set_option maxRecDepth 100000 in
/-- A struct argument opened. -/
theorem open_entV {H : Type} {enc : TypeId × Value → H} {w : World} {v : Value} {d : DataW H} {ps : List MemPlace} {r : Reach} {base : Nat} (hv : Value.okWide Tryz.prog w r base 39 v) (h : DataW.Trod enc Tryz.prog w 0 (fun _ => true) true 39 v d ps)
    (hs : ∀ q ∈ d.weights Tryz.prog 39, q ≤ reachBytes) : ∃ e : En, v = entV e ∧ EFit e ∧ ELen e := by
  obtain ⟨cs, rfl, hsz⟩ := okWide_struct Tryz.underlying39 hv
  obtain ⟨fuel, hf⟩ := h
  obtain ⟨n, h1, h2, h3⟩ := open_ent hf hs
  refine ⟨n, ?_, h2, h3⟩
  have : cs.toList = entCells n := by simpa [Value.cells] using h1
  rw [show cs = (entCells n).toArray by rw [← this]]
end Go.Proofs.YtadkgjbidhfefaaGreatDoor
set_option linter.unusedVariables false
namespace Go.Proofs.YtadkgjbidhfefaaGreatDoor
open Go.RowKit

@[go_sem] theorem min_one13 (n : Nat) : min (n : Int) 9000 = (c9 n : Nat) := by unfold c9; omega
@[go_sem] theorem min_three13 (a b c : Nat) : min ((a : Int) + b + c) 9000 = (c9 (a + b + c) : Nat) := by unfold c9; omega
@[go_sem] theorem min_four13 (a b c d : Nat) : min ((a : Int) + b + c + d) 9000 = (c9 (a + b + c + d) : Nat) := by unfold c9; omega
/-- Paths. -/
def wtP : Nat → List Bytes → Nat
  | n, [] => n
  | n, s :: l => wtP (n + (1 + c9 s.length)) l
/-- Entries: none where it has grown too large. -/
def wtE : Nat → List En → Option Nat
  | n, [] => some n
  | n, e :: l => if 5000 < n + (1 + c9 (esz e)) then none else wtE (n + (1 + c9 (esz e))) l
/-- Feeds: is the archive too large? -/
def wtF : Nat → List Fe → Bool
  | _, [] => false
  | n, f :: l => match wtE (wtP (n + (1 + c9 (f.id.length + f.title.length + f.link.length))) f.path) f.ents with
    | none => true
    | some m => if 5000 < m then true else wtF m l
theorem wtP_le : ∀ (n : Nat) (l : List Bytes), n + l.length ≤ wtP n l ∧ (wtP n l ≤ 5000 → n + (l.map List.length).sum + l.length ≤ wtP n l)
  | n, [] => by simp [wtP]
  | n, s :: l => by
    rw [wtP]
    have := wtP_le (n + (1 + c9 s.length)) l
    refine ⟨by simp only [List.length_cons]; omega, fun h => ?_⟩
    have h2 := this.2 h
    have h3 := c9_small (n := s.length) (by omega)
    simp only [List.map_cons, List.sum_cons, List.length_cons]
    omega
theorem wtP_max : ∀ (n : Nat) (l : List Bytes), wtP n l ≤ n + 9001 * l.length
  | n, [] => by simp [wtP]
  | n, s :: l => by
    rw [wtP]
    have := wtP_max (n + (1 + c9 s.length)) l
    have h2 := c9_le s.length
    simp only [List.length_cons]
    omega
theorem wtE_some : ∀ {n : Nat} {l : List En} {m : Nat}, wtE n l = some m → n + l.length ≤ m ∧ (l ≠ [] → m ≤ 5000) ∧ ∀ e ∈ l, esz e ≤ 5000
  | n, [], m, h => by
    rw [wtE] at h
    cases h
    exact ⟨by simp, fun h => absurd rfl h, fun e he => by cases he⟩
  | n, e :: l, m, h => by
    rw [wtE] at h
    split at h
    · cases h
    · rename_i hn
      obtain ⟨h1, h2, h3⟩ := wtE_some h
      have h4 := c9_small (n := esz e) (by omega)
      refine ⟨by simp only [List.length_cons]; omega, fun _ => ?_, fun x hx => ?_⟩
      · cases l with
        | nil => rw [wtE] at h; cases h; omega
        | cons y l => exact h2 (by simp)
      · rcases List.mem_cons.1 hx with rfl | hx
        · omega
        · exact h3 x hx
theorem wtF_no : ∀ {n : Nat} {l : List Fe}, wtF n l = false → n ≤ 5000 → n + l.length ≤ 5000 ∧ ∀ f ∈ l, FSz f
  | n, [], h, hn => ⟨by simpa using hn, fun f hf => by cases hf⟩
  | n, f :: l, h, hn => by
    rw [wtF] at h
    split at h
    · cases h
    · rename_i m hm
      split at h
      · cases h
      · rename_i h5
        obtain ⟨h1, h2⟩ := wtF_no h (by omega)
        obtain ⟨e1, e2, e3⟩ := wtE_some hm
        have p1 := wtP_le (n + (1 + c9 (f.id.length + f.title.length + f.link.length))) f.path
        have p2 := p1.2 (by omega)
        have p3 := c9_small (n := f.id.length + f.title.length + f.link.length) (by omega)
        refine ⟨by simp only [List.length_cons]; omega, fun x hx => ?_⟩
        rcases List.mem_cons.1 hx with rfl | hx
        · exact ⟨by omega, by omega, by omega, fun e he => by have := e3 e he; omega, by omega⟩
        · exact h2 x hx
/-- What memory allows. -/
def FLen (f : Fe) : Prop := (f.path.length ≤ 8796093022207 ∧ f.id.length ≤ 140737488351232 ∧ f.title.length ≤ 140737488351232 ∧ f.link.length ≤ 140737488351232) ∧ (∀ s ∈ f.path, s.length ≤ 140737488351232) ∧ f.ents.length ≤ 2600000000000 ∧ ∀ e ∈ f.ents, e.id.length ≤ 140737488351232 ∧ e.title.length ≤ 140737488351232 ∧ e.link.length ≤ 140737488351232 ∧ e.content.length ≤ 140737488351232

set_option maxHeartbeats 16000000 in
set_option maxRecDepth 100000 in
theorem tooLarge13_any (l : List Fe) (u : Value) (w : World) (h : ElsP feeE w (· < w.heap.size) u l) (hl : l.length ≤ 2600000000000) (hs : ∀ f ∈ l, FLen f) :
    Calls Tryz.prog 10 #[.agg #[u]] w fun x w' => x = .returned (.int .i64 (if wtF 0 l = true then 1 else 0)) ∧ Below w.heap.size w w' := by
  obtain ⟨FA, fc, rfl, _⟩ := h.slice
  obtain ⟨Q, hQ⟩ : ∃ Q, wtF 0 l = Q := ⟨_, rfl⟩
  rw [hQ]
  have HL := Lib.hid h
  have HS := Lib.hid hs
  have HQ := Lib.hid (show wtF 0 (l.drop 0) = Q from hQ)
  have W0 := Lib.hid (show Below w.heap.size w (w.alloc (.cells #[.slice FA l.length fc] 35)) from (Below.refl _ _).alloc (Nat.le_refl _) _)
  clear h hs hQ
  go_enter Tryz.func10, Tryz.ntmps10
  go_wp2_with fail
  go_loopw [3, 13] (fun s3 i13 wr => ∃ i n : Nat, i ≤ l.length ∧ i13 = .int .i64 i ∧ s3 = .int .i64 n ∧ n ≤ 5000 ∧ wtF n (l.drop i) = Q ∧ Below w.heap.size w wr) (fun _ i13 _ => l.length - (intOf i13).toNat)
  case atStart => exact ⟨0, 0, Nat.zero_le _, rfl, rfl, by omega, HQ.out, W0.out⟩
  case round =>
    obtain ⟨i, n, hi, rfl, rfl, hn, hres, hb⟩ := hrel
    have HB := Lib.hid hb
    have hsz := hb.size
    clear hb HQ W0
    by_cases hlt : i < l.length
    · have hlt' : (i : Int) < l.length := by omega
      obtain ⟨b, off, cs, rfl, hpb, hr, hcs⟩ := (HL.out.keep feeE_ok HB.out.block (fun _ h => h)).at_ hlt
      rw [List.drop_eq_getElem_cons hlt, wtF] at hres
      have hxs := HS.out _ (List.getElem_mem hlt)
      generalize l[i] = X at *
      have hcs' : FeeP wr (· < w.heap.size) X cs := hcs
      obtain ⟨PA, pc, EA, ec, rfl, hpp, hee, _, _⟩ := hcs'
      have HP := Lib.hid hpp
      have HE := Lib.hid hee
      have HR1 := Lib.hid hr
      obtain ⟨⟨x0, x1, x2, x3⟩, x4, x5, x6⟩ := hxs
      have HX4 := Lib.hid x4
      have HX6 := Lib.hid x6
      have c1 := c9_le (X.id.length + X.title.length + X.link.length)
      obtain ⟨T, hT⟩ : ∃ T, wtP (n + (1 + c9 (X.id.length + X.title.length + X.link.length))) X.path = T := ⟨_, rfl⟩
      rw [hT] at hres
      have hTm := wtP_max (n + (1 + c9 (X.id.length + X.title.length + X.link.length))) X.path
      rw [hT] at hTm
      have HT := Lib.hid (show wtP (n + (1 + c9 (X.id.length + X.title.length + X.link.length))) (X.path.drop 0) = T from hT)
      have HRES := Lib.hid hres
      have hTb : T ≤ 100000000000000000 := by omega
      have hW1 : Below w.heap.size w (wr.alloc (feeBox X PA pc EA ec)) := HB.out.alloc hsz _
      have HW1 := Lib.hid hW1
      have HX1 := Lib.hid (heap_alloc_new wr (feeBox X PA pc EA ec))
      clear hr hcs hpp hee x4 x6 hT hTm hres hW1
      obtain ⟨k0, k1, k2, k3, k4, k5⟩ := cells6 HX1.out
      go_wp2_with (with_reducible refine gate ?_; refine wp_load_fee rfl _ rfl b (off + i * 6) rfl _ rfl HR1.out ?_)
      clear k0 k1 k2 k3 k4 k5
      obtain ⟨wo, rfl⟩ : ∃ x : World, x = wr := ⟨_, rfl⟩
      go_loop [3, 35] (fun s3 i35 => ∃ j m : Nat, j ≤ X.path.length ∧ i35 = .int .i64 j ∧ s3 = .int .i64 m ∧ wtP m (X.path.drop j) = T) (fun _ i35 => X.path.length - (intOf i35).toNat)
      case atStart => exact ⟨0, _, Nat.zero_le _, rfl, val_int (by omega), HT.out⟩
      case round =>
        obtain ⟨j, m, hj, rfl, rfl, hpt⟩ := hrel
        have hm := (wtP_le m (X.path.drop j)).1
        rw [hpt] at hm
        have hm2 : m ≤ 100000000000000000 := by omega
        clear hm HT
        by_cases hlj : j < X.path.length
        · have hlj' : (j : Int) < X.path.length := by omega
          obtain ⟨pb, po, rfl, _, hc1⟩ := strs_cell (HP.out.keep strE_ok (w' := wo.alloc (feeBox X PA pc EA ec)) (fun k hk => Below.heap_alloc _ _ _ (Nat.lt_of_lt_of_le hk hsz)) (fun _ h => h)) hlj
          rw [List.drop_eq_getElem_cons hlj, wtP] at hpt
          have hsl := HX4.out _ (List.getElem_mem hlj)
          generalize X.path[j] = sx at *
          have c2 := c9_le sx.length
          have HPT := Lib.hid hpt
          clear hpt
          go_wp2_with fail
          go_round
          case rel => exact ⟨j + 1, m + (1 + c9 sx.length), by omega, by go_num, val_int (by omega), HPT.out⟩
          case measure => simp [intOf]; omega
        · obtain rfl : j = X.path.length := by omega
          rw [List.drop_length, wtP] at hpt
          obtain rfl : m = T := hpt
          have hlj' : ¬ ((X.path.length : Int) < X.path.length) := by omega
          obtain ⟨O, hO⟩ : ∃ O, wtE m X.ents = O := ⟨_, rfl⟩
          have hres2 := HRES.out
          rw [hO] at hres2
          have HO := Lib.hid (show wtE m (X.ents.drop 0) = O from hO)
          have HRES2 := Lib.hid hres2
          clear hO hres2 HRES hlj hTb
          obtain ⟨k0, k1, k2, k3, k4, k5⟩ := cells6 HX1.out
          go_wp2_with fail
          clear k0 k1 k2 k3 k4 k5
          go_loopw [3, 49] (fun s3 i49 wr => ∃ j n : Nat, j ≤ X.ents.length ∧ i49 = .int .i64 j ∧ s3 = .int .i64 n ∧ n ≤ 100000000000000000 ∧ wtE n (X.ents.drop j) = O ∧ Below w.heap.size w wr ∧ Below wo.heap.size wo wr) (fun _ i49 _ => X.ents.length - (intOf i49).toNat)
          case atStart => exact ⟨0, m, Nat.zero_le _, rfl, rfl, hm2, HO.out, HW1.out, (Below.refl _ _).alloc (Nat.le_refl _) _⟩
          case round =>
            obtain ⟨j, n2, hj2, rfl, rfl, hn2, hen, hb2, hbo⟩ := hrel
            have HB2 := Lib.hid hb2
            have HBO := Lib.hid hbo
            have hsz2 := hb2.size
            have hsz3 := hbo.size
            clear hb2 hbo HO
            by_cases hlj : j < X.ents.length
            · have hlj' : (j : Int) < X.ents.length := by omega
              obtain ⟨eb, eo, rfl, _, her⟩ := ents_at (HE.out.keep entE_ok (fun k hk => HBO.out.block k (Nat.lt_of_lt_of_le hk hsz)) (fun _ h => h)) hlj
              rw [List.drop_eq_getElem_cons hlj, wtE] at hen
              have hel := HX6.out _ (List.getElem_mem hlj)
              generalize X.ents[j] = e at *
              unfold esz at hen
              obtain ⟨y0, y1, y2, y3⟩ := hel
              have c2 := c9_le (e.id.length + e.title.length + e.link.length + e.content.length)
              have HER := Lib.hid her
              clear her
              by_cases hbig : 5000 < n2 + (1 + c9 (e.id.length + e.title.length + e.link.length + e.content.length))
              · rw [if_pos hbig] at hen
                have hq : Q = true := by rw [← HRES2.out, ← hen]
                have HQ1 := Lib.hid hq
                have q : (5000 : Int) < (n2 : Int) + (1 + (c9 (e.id.length + e.title.length + e.link.length + e.content.length) : Nat)) := by omega
                clear hq hen hbig
                go_wp2_with (with_reducible refine gate ?_; refine wp_load_ent rfl _ rfl eb (eo + j * 5) rfl _ rfl HER.out ?_)
                go_ret
                exact ⟨ret_int (by first | rfl | (rw [HQ1.out]; rfl)), HB2.out.alloc hsz2 _⟩
              · rw [if_neg hbig] at hen
                have HEN := Lib.hid hen
                have q : ¬ ((5000 : Int) < (n2 : Int) + (1 + (c9 (e.id.length + e.title.length + e.link.length + e.content.length) : Nat))) := by omega
                have hn3 : n2 + (1 + c9 (e.id.length + e.title.length + e.link.length + e.content.length)) ≤ 100000000000000000 := by omega
                clear hen
                go_wp2_with (with_reducible refine gate ?_; refine wp_load_ent rfl _ rfl eb (eo + j * 5) rfl _ rfl HER.out ?_)
                go_roundw
                case rel => exact ⟨j + 1, n2 + (1 + c9 (e.id.length + e.title.length + e.link.length + e.content.length)), by omega, by go_num, val_int (by omega), hn3, HEN.out, HB2.out.alloc hsz2 _, HBO.out.alloc hsz3 _⟩
                case measure => simp [intOf]; omega
            · obtain rfl : j = X.ents.length := by omega
              rw [List.drop_length, wtE] at hen
              have hr3 := HRES2.out
              rw [← hen] at hr3
              have hlj' : ¬ ((X.ents.length : Int) < X.ents.length) := by omega
              by_cases hbig : 5000 < n2
              · simp only [if_pos hbig] at hr3
                have HQ1 := Lib.hid hr3.symm
                have q : (5000 : Int) < n2 := by omega
                clear hr3 hen hbig
                go_wp2_with fail
                go_ret
                exact ⟨ret_int (by first | rfl | (rw [HQ1.out]; rfl)), HB2.out⟩
              · simp only [if_neg hbig] at hr3
                have HQ1 := Lib.hid hr3
                have q : ¬ (5000 : Int) < n2 := by omega
                have hn4 : n2 ≤ 5000 := by omega
                clear hr3 hen hbig
                go_wp2_with fail
                go_roundw
                case rel => exact ⟨i + 1, n2, by omega, by go_num, rfl, hn4, HQ1.out, HB2.out⟩
                case measure => simp [intOf]; omega
    · obtain rfl : i = l.length := by omega
      rw [List.drop_length, wtF] at hres
      subst hres
      have hlt' : ¬ ((l.length : Int) < l.length) := by omega
      go_wp2_with fail
      go_ret
      exact ⟨rfl, HB.out⟩
end Go.Proofs.YtadkgjbidhfefaaGreatDoor
set_option linter.unusedVariables false
namespace Go.Proofs.YtadkgjbidhfefaaGreatDoor
open Go.RowKit Go.ChangeShapes Go.WideShapes Go.ChangeMaps

theorem cellsFee : Tryz.prog.cellsOf 25 = 6 := by kernel_rfl
theorem bytesFee : Tryz.prog.bytesOf 25 = 104 := by kernel_rfl
theorem bytesStr13 : Tryz.prog.bytesOf 9 = 16 := by kernel_rfl
theorem cellsStrs13 : Tryz.prog.cellsOf 22 = 1 := by kernel_rfl
theorem cellsEnts13 : Tryz.prog.cellsOf 23 = 1 := by kernel_rfl
theorem cellsFees13 : Tryz.prog.cellsOf 33 = 1 := by kernel_rfl
theorem cellsArc13 : Tryz.prog.cellsOf 35 = 1 := by kernel_rfl
/-- Times in range. -/
def FFit (f : Fe) : Prop := (-9223372036854775808 ≤ f.upd ∧ f.upd ≤ 9223372036854775807) ∧ ∀ e ∈ f.ents, EFit e
section
variable {H : Type} {enc : TypeId × Value → H} {w : World}
theorem open_str13 {fuel : Nat} {cs : List Value} {x : DataW H × List MemPlace} (h : DataW.trod enc Tryz.prog w 0 (fun _ => true) true fuel 9 cs = some x) (hs : ∀ q ∈ x.1.weights Tryz.prog 9, q ≤ reachBytes) :
    ∃ s : Bytes, strE.El w (· < w.heap.size) s cs ∧ s.length ≤ 140737488351232 := by
  obtain ⟨s0, e0, d0, _⟩ := DataW.trod_string Tryz.underlying9 h
  have b0 := hs s0.data.toList.length (by rw [d0]; simp [DataW.weights])
  exact ⟨s0.data.toList, by rw [e0]; simp [S], b0⟩
set_option maxRecDepth 100000 in
theorem open_fee {fuel : Nat} {cs : List Value} {x : DataW H × List MemPlace} (h : DataW.trod enc Tryz.prog w 0 (fun _ => true) true fuel 25 cs = some x) (hs : ∀ q ∈ x.1.weights Tryz.prog 25, q ≤ reachBytes) :
    ∃ f : Fe, FeeP w (· < w.heap.size) f cs ∧ FLen f ∧ FFit f := by
  obtain ⟨xs, n, hn, hx, hl, hlen, hg⟩ := DataW.trod_struct Tryz.underlying25 h
  rw [cellsFee] at hl
  match cs, hl, xs, hlen with
  | [c0, c1, c2, c3, c4, c5], _, [y0, y1, y2, y3, y4, y5], _ =>
    have g0 : DataW.trod enc Tryz.prog w 0 (fun _ => true) true n 22 ((([c0, c1, c2, c3, c4, c5] : List Value).drop 0).take (Tryz.prog.cellsOf 22)) = some y0 := hg 0 _ rfl
    rw [cellsStrs13] at g0
    have g1 : DataW.trod enc Tryz.prog w 0 (fun _ => true) true n 9 ((([c0, c1, c2, c3, c4, c5] : List Value).drop 1).take (Tryz.prog.cellsOf 9)) = some y1 := hg 1 _ rfl
    rw [cellsStrJ] at g1
    have g2 : DataW.trod enc Tryz.prog w 0 (fun _ => true) true n 9 ((([c0, c1, c2, c3, c4, c5] : List Value).drop 2).take (Tryz.prog.cellsOf 9)) = some y2 := hg 2 _ rfl
    rw [cellsStrJ] at g2
    have g3 : DataW.trod enc Tryz.prog w 0 (fun _ => true) true n 9 ((([c0, c1, c2, c3, c4, c5] : List Value).drop 3).take (Tryz.prog.cellsOf 9)) = some y3 := hg 3 _ rfl
    rw [cellsStrJ] at g3
    have g4 : DataW.trod enc Tryz.prog w 0 (fun _ => true) true n 2 ((([c0, c1, c2, c3, c4, c5] : List Value).drop 4).take (Tryz.prog.cellsOf 2)) = some y4 := hg 4 _ rfl
    rw [cellsI64J] at g4
    have g5 : DataW.trod enc Tryz.prog w 0 (fun _ => true) true n 23 ((([c0, c1, c2, c3, c4, c5] : List Value).drop 5).take (Tryz.prog.cellsOf 23)) = some y5 := hg 5 _ rfl
    rw [cellsEnts13] at g5
    subst hx
    have hw : ∀ (j : Nat) (t : TypeId) (d : DataW H), ([22, 9, 9, 9, 2, 23] : List TypeId)[j]? = some t → ([y0.1, y1.1, y2.1, y3.1, y4.1, y5.1])[j]? = some d → ∀ q ∈ d.weights Tryz.prog t, q ≤ reachBytes := by
      intro j t d ht hd q hq
      refine hs q ?_
      simp only [List.map_cons, List.map_nil, DataW.weights, Tryz.underlying25]
      exact DataW.weights_mem_each ht hd q hq
    obtain ⟨vp, ps, e0, hp, hpl, hpf⟩ := open_els strE_ok cellsStrJ bytesStr13 (fun s : Bytes => s.length ≤ 140737488351232) g0 (hw 0 _ _ rfl rfl) (fun n' hn' {_ _} h hs => open_str13 h hs)
    obtain ⟨s1, e1, d1, _⟩ := DataW.trod_string Tryz.underlying9 g1
    obtain ⟨s2, e2, d2, _⟩ := DataW.trod_string Tryz.underlying9 g2
    obtain ⟨s3, e3, d3, _⟩ := DataW.trod_string Tryz.underlying9 g3
    obtain ⟨n4, e4, _, wf4⟩ := DataW.trod_int Tryz.underlying2 g4
    obtain ⟨ve, es, e5, he, hel, hef⟩ := open_els entE_ok cellsEnt bytesEnt (fun e : En => EFit e ∧ ELen e) g5 (hw 5 _ _ rfl rfl) (fun n' hn' {_ _} h hs => by
      obtain ⟨e, h1, h2, h3⟩ := open_ent h hs
      exact ⟨e, h1, h2, h3⟩)
    obtain ⟨PA, pc, rfl, hpc⟩ := hp.slice
    obtain ⟨EA, ec, rfl, hec⟩ := he.slice
    simp only [List.drop_zero, List.drop_succ_cons, List.take_succ_cons, List.take_zero, List.cons.injEq, and_true] at e0 e1 e2 e3 e4 e5
    subst e0 e1 e2 e3 e4 e5
    have hb := bounds_i64 wf4
    have b1 := hw 1 _ _ rfl rfl s1.data.toList.length (by rw [d1]; simp [DataW.weights])
    have b2 := hw 2 _ _ rfl rfl s2.data.toList.length (by rw [d2]; simp [DataW.weights])
    have b3 := hw 3 _ _ rfl rfl s3.data.toList.length (by rw [d3]; simp [DataW.weights])
    have hpl' : ps.length * 16 ≤ 140737488351232 := hpl
    have hel' : es.length * 72 ≤ 140737488351232 := hel
    refine ⟨⟨ps, s1.data.toList, s2.data.toList, s3.data.toList, n4, es⟩, ⟨PA, pc, EA, ec, by simp [S], hp, he, hpc, hec⟩, ⟨⟨by show ps.length ≤ _; omega, b1, b2, b3⟩, hpf, by show es.length ≤ _; omega, fun e h => (hef e h).2⟩, ⟨hb.1, hb.2⟩, fun e h => (hef e h).1⟩
end
set_option maxRecDepth 100000 in
/-- A feed as an argument. -/
theorem open_feeV {H : Type} {enc : TypeId × Value → H} {w : World} {v : Value} {d : DataW H} {ps : List MemPlace} {r : Reach} {base : Nat} (hv : Value.okWide Tryz.prog w r base 25 v) (h : DataW.Trod enc Tryz.prog w 0 (fun _ => true) true 25 v d ps)
    (hs : ∀ q ∈ d.weights Tryz.prog 25, q ≤ reachBytes) : ∃ f : Fe, FeeV w (· < w.heap.size) f v ∧ FLen f ∧ FFit f := by
  obtain ⟨cs, rfl, hsz⟩ := okWide_struct Tryz.underlying25 hv
  obtain ⟨fuel, hf⟩ := h
  obtain ⟨n, h1, h2, h3⟩ := open_fee hf hs
  exact ⟨n, ⟨_, by simp [Value.cells], h1⟩, h2, h3⟩
set_option maxRecDepth 100000 in
/-- An archive as an argument. -/
theorem open_arcV {H : Type} {enc : TypeId × Value → H} {w : World} {v : Value} {d : DataW H} {ps : List MemPlace} {r : Reach} {base : Nat} (hv : Value.okWide Tryz.prog w r base 35 v) (h : DataW.Trod enc Tryz.prog w 0 (fun _ => true) true 35 v d ps)
    (hs : ∀ q ∈ d.weights Tryz.prog 35, q ≤ reachBytes) : ∃ (u : Value) (l : List Fe), v = .agg #[u] ∧ ElsP feeE w (· < w.heap.size) u l ∧ l.length ≤ 2600000000000 ∧ (∀ f ∈ l, FLen f) ∧ ∀ f ∈ l, FFit f := by
  obtain ⟨cs, rfl, hsz⟩ := okWide_struct Tryz.underlying35 hv
  obtain ⟨fuel, hf⟩ := h
  obtain ⟨xs, n, hn, hx, hl, hlen, hg⟩ := DataW.trod_struct Tryz.underlying35 hf
  rw [cellsArc13] at hl
  obtain ⟨c0, hc0⟩ : ∃ c0, (Value.agg cs).cells.toList = [c0] := List.length_eq_one_iff.1 (by simpa using hl)
  match xs, hlen with
  | [y0], _ =>
    have g0 : DataW.trod enc Tryz.prog w 0 (fun _ => true) true n 33 (((Value.agg cs).cells.toList.drop 0).take (Tryz.prog.cellsOf 33)) = some y0 := hg 0 _ rfl
    rw [cellsFees13, hc0] at g0
    have hw : ∀ q ∈ y0.1.weights Tryz.prog 33, q ≤ reachBytes := by
      intro q hq
      refine hs q ?_
      have hd : d = .agg [y0.1] := by have := congrArg Prod.fst hx; simpa using this
      rw [hd]
      simp only [DataW.weights, Tryz.underlying35]
      exact DataW.weights_mem_each (ts := [33]) (j := 0) rfl rfl q hq
    obtain ⟨vf, fs, e0, hfs, hfl, hff⟩ := open_els feeE_ok cellsFee bytesFee (fun f : Fe => FLen f ∧ FFit f) g0 hw (fun n' hn' {_ _} h hs => by
      obtain ⟨f, h1, h2, h3⟩ := open_fee h hs
      exact ⟨f, h1, h2, h3⟩)
    simp only [List.drop_zero, List.take_succ_cons, List.take_zero, List.cons.injEq, and_true] at e0
    subst e0
    have hfl' : fs.length * 104 ≤ 140737488351232 := hfl
    refine ⟨c0, fs, ?_, hfs, by omega, fun f h => (hff f h).1, fun f h => (hff f h).2⟩
    have : cs.toList = [c0] := by simpa [Value.cells] using hc0
    rw [show cs = #[c0] by rw [← Array.toArray_toList (xs := cs), this]]
end Go.Proofs.YtadkgjbidhfefaaGreatDoor
