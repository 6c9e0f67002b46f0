/-
  Several texts in one file, in build order:
  - From the reading of an argument to a tree in memory.
-/
import Derived.Test.YtclhdppppgjgfaaGreatDoorH4
import Derived.Deep.Slices
import Derived.SizedLaws
import Derived.Carry
import Derived.ChangeSame
set_option linter.unusedVariables false
namespace Go.Proofs.YtclhdppppgjgfaaGreatDoor
open Go.RowKit Go.ChangeShapes Go.WideShapes

theorem cellsNode : Tryz.prog.cellsOf 26 = 7 := by kernel_rfl
theorem cellsAtt : Tryz.prog.cellsOf 39 = 4 := by kernel_rfl
theorem cellsStr : Tryz.prog.cellsOf 9 = 1 := by kernel_rfl
theorem cellsInt : Tryz.prog.cellsOf 3 = 1 := by kernel_rfl
theorem cellsAtts : Tryz.prog.cellsOf 23 = 1 := by kernel_rfl
theorem cellsNodes : Tryz.prog.cellsOf 24 = 1 := by kernel_rfl
theorem bytesNode : Tryz.prog.bytesOf 26 = 112 := by kernel_rfl
theorem bytesAtt : Tryz.prog.bytesOf 39 = 56 := by kernel_rfl

theorem weightsAll_of {H : Type} {P : Program} {e : TypeId} : ∀ {l : List (DataW H)} {d : DataW H}, d ∈ l → ∀ n ∈ d.weights P e, n ∈ DataW.weightsAll P e l
  | x :: l, d, hd, n, hn => by
    rw [DataW.weightsAll, List.mem_append]
    rcases List.mem_cons.1 hd with rfl | hd
    · exact .inl hn
    · exact .inr (weightsAll_of hd n hn)
theorem drop_oneV {cs : List Value} {i : Nat} (h : i < cs.length) : (cs.drop i).take 1 = [cs[i]] := by rw [List.drop_eq_getElem_cons h]; rfl
theorem addr_plain {w : World} {a : Addr} {i : Nat} {v : Value} (h : w.cell? (a.add i) = some v) (h0 : i = 0) : ∃ b off, a = ⟨b, off, none⟩ ∧ b < w.heap.size := by
  obtain ⟨b, off, spot⟩ := a
  subst h0
  have h' : w.cell? ⟨b, off, spot⟩ = some v := by simpa [Addr.add] using h
  have hspot : spot = none := World.cell?_spot h'
  subst hspot
  refine ⟨b, off, rfl, ?_⟩
  rcases Nat.lt_or_ge b w.heap.size with hb | hb
  · exact hb
  · simp [World.cell?, Array.getElem?_eq_none hb] at h'
theorem add_none (b off i : Nat) : (⟨b, off, none⟩ : Addr).add i = ⟨b, off + i, none⟩ := by unfold Addr.add; split <;> simp_all

section
variable {H : Type} {enc : TypeId × Value → H} {w : World}
set_option maxRecDepth 100000 in
theorem open_att {fuel : Nat} {cs : List Value} {x : DataW H × List MemPlace} (h : DataW.trod enc Tryz.prog w 0 (fun _ => true) true fuel 39 cs = some x) : ∃ a : Att, cs = attCells a := by
  obtain ⟨xs, n, _, hx, hl, hlen, hg⟩ := DataW.trod_struct Tryz.underlying39 h
  rw [cellsAtt] at hl
  match cs, hl, xs, hlen with
  | [c0, c1, c2, c3], _, [y0, y1, y2, y3], _ =>
    have g0 : DataW.trod enc Tryz.prog w 0 (fun _ => true) true n 9 ((([c0, c1, c2, c3] : List Value).drop 0).take (Tryz.prog.cellsOf 9)) = some y0 := hg 0 _ rfl
    rw [cellsStr] at g0
    have g1 : DataW.trod enc Tryz.prog w 0 (fun _ => true) true n 9 ((([c0, c1, c2, c3] : List Value).drop 1).take (Tryz.prog.cellsOf 9)) = some y1 := hg 1 _ rfl
    rw [cellsStr] at g1
    have g2 : DataW.trod enc Tryz.prog w 0 (fun _ => true) true n 9 ((([c0, c1, c2, c3] : List Value).drop 2).take (Tryz.prog.cellsOf 9)) = some y2 := hg 2 _ rfl
    rw [cellsStr] at g2
    have g3 : DataW.trod enc Tryz.prog w 0 (fun _ => true) true n 3 ((([c0, c1, c2, c3] : List Value).drop 3).take (Tryz.prog.cellsOf 3)) = some y3 := hg 3 _ rfl
    rw [cellsInt] at g3
    obtain ⟨s0, e0, _⟩ := DataW.trod_string Tryz.underlying9 g0
    obtain ⟨s1, e1, _⟩ := DataW.trod_string Tryz.underlying9 g1
    obtain ⟨s2, e2, _⟩ := DataW.trod_string Tryz.underlying9 g2
    obtain ⟨s3, e3, _⟩ := DataW.trod_int Tryz.underlying3 g3
    simp only [List.drop_zero, List.drop_succ_cons, List.take_succ_cons, List.take_zero, List.cons.injEq, and_true] at e0 e1 e2 e3
    subst e0 e1 e2 e3
    exact ⟨⟨s0.data.toList, s1.data.toList, s2.data.toList, s3⟩, by simp [attCells, S]⟩
set_option maxRecDepth 100000 in
theorem open_atts {fuel : Nat} {cs : List Value} {x : DataW H × List MemPlace} (h : DataW.trod enc Tryz.prog w 0 (fun _ => true) true fuel 23 cs = some x) (hs : ∀ q ∈ x.1.weights Tryz.prog 23, q ≤ reachBytes) :
    ∃ v ats, cs = [v] ∧ AttsIn w w.heap.size v ats ∧ ats.length ≤ 2600000000000 := by
  rcases DataW.trod_slice Tryz.underlying23 h with ⟨rfl, _⟩ | ⟨a, len, cap, elems, rest, n, _, rfl, rfl, _, hlc, _, hel, hat, _⟩
  · exact ⟨_, [], rfl, ⟨none, 0, rfl, Nat.le_refl _, .inl rfl⟩, by simp⟩
  · have hw := hs ((elems.length + rest.length) * 56) (by simp [DataW.weights, Tryz.underlying23, bytesAtt])
    have hreach : reachBytes = 140737488351232 := rfl
    rw [cellsAtt] at hat
    have hi : ∀ i, i < len → ∃ at_ : Att, ∀ j v, (attCells at_)[j]? = some v → w.cell? (a.add (i * 4 + j)) = some v := by
      intro i hi
      have h1 := hat i hi
      rw [List.getElem?_eq_getElem (by omega)] at h1
      obtain ⟨cs', h2, h3⟩ := Option.bind_eq_some_iff.1 h1
      obtain ⟨_, hl, hc⟩ := World.cells?_some h2
      obtain ⟨at_, rfl⟩ := open_att h3
      refine ⟨at_, fun j v hj => ?_⟩
      have hj4 : j < 4 := by rw [← hl]; exact (List.getElem?_eq_some_iff.1 hj).1
      have := hc j hj4
      rw [Go.Deep.add_add] at this
      rw [this, hj]
    by_cases h0 : len = 0
    · subst h0
      exact ⟨_, [], rfl, ⟨_, cap, rfl, Nat.zero_le _, .inl rfl⟩, by simp⟩
    · obtain ⟨at0, h00⟩ := hi 0 (by omega)
      obtain ⟨b, off, rfl, hb⟩ := addr_plain (h00 0 _ rfl) (by simp)
      have : Inhabited Att := ⟨at0⟩
      obtain ⟨f, hf⟩ := Go.Deep.choose_lt hi
      refine ⟨_, (List.range len).map f, rfl, ⟨_, cap, by simp, by simpa using hlc, .inr ⟨b, off, rfl, hb, fun i at_ hat_ j v hj => ?_⟩⟩, by simp; omega⟩
      have hil : i < len := by have := (List.getElem?_eq_some_iff.1 hat_).1; simpa using this
      simp [hil] at hat_
      subst hat_
      have := hf i hil j v hj
      rw [add_none] at this
      rw [show off + i * 4 + j = off + (i * 4 + j) by omega]
      exact this
set_option maxRecDepth 100000 in
theorem open_node (fuel : Nat) : ∀ {cs : List Value} {x : DataW H × List MemPlace}, DataW.trod enc Tryz.prog w 0 (fun _ => true) true fuel 26 cs = some x → (∀ q ∈ x.1.weights Tryz.prog 26, q ≤ reachBytes) →
    ∃ n : Node, NodeIn w w.heap.size n cs ∧ Fit n := by
  induction fuel using Nat.strongRecOn with
  | ind fuel ih =>
    intro cs x h hs
    obtain ⟨xs, n, hn, hx, hl, hlen, hg⟩ := DataW.trod_struct Tryz.underlying26 h
    rw [cellsNode] at hl
    match cs, hl, xs, hlen with
    | [c0, c1, c2, c3, c4, c5, c6], _, [y0, y1, y2, y3, y4, y5, y6], _ =>
      have g0 : DataW.trod enc Tryz.prog w 0 (fun _ => true) true n 3 ((([c0, c1, c2, c3, c4, c5, c6] : List Value).drop 0).take (Tryz.prog.cellsOf 3)) = some y0 := hg 0 _ rfl
      rw [cellsInt] at g0
      have g1 : DataW.trod enc Tryz.prog w 0 (fun _ => true) true n 9 ((([c0, c1, c2, c3, c4, c5, c6] : List Value).drop 1).take (Tryz.prog.cellsOf 9)) = some y1 := hg 1 _ rfl
      rw [cellsStr] at g1
      have g2 : DataW.trod enc Tryz.prog w 0 (fun _ => true) true n 9 ((([c0, c1, c2, c3, c4, c5, c6] : List Value).drop 2).take (Tryz.prog.cellsOf 9)) = some y2 := hg 2 _ rfl
      rw [cellsStr] at g2
      have g3 : DataW.trod enc Tryz.prog w 0 (fun _ => true) true n 23 ((([c0, c1, c2, c3, c4, c5, c6] : List Value).drop 3).take (Tryz.prog.cellsOf 23)) = some y3 := hg 3 _ rfl
      rw [cellsAtts] at g3
      have g4 : DataW.trod enc Tryz.prog w 0 (fun _ => true) true n 24 ((([c0, c1, c2, c3, c4, c5, c6] : List Value).drop 4).take (Tryz.prog.cellsOf 24)) = some y4 := hg 4 _ rfl
      rw [cellsNodes] at g4
      have g5 : DataW.trod enc Tryz.prog w 0 (fun _ => true) true n 9 ((([c0, c1, c2, c3, c4, c5, c6] : List Value).drop 5).take (Tryz.prog.cellsOf 9)) = some y5 := hg 5 _ rfl
      rw [cellsStr] at g5
      have g6 : DataW.trod enc Tryz.prog w 0 (fun _ => true) true n 3 ((([c0, c1, c2, c3, c4, c5, c6] : List Value).drop 6).take (Tryz.prog.cellsOf 3)) = some y6 := hg 6 _ rfl
      rw [cellsInt] at g6
      subst hx
      have hw : ∀ (j : Nat) (t : TypeId) (d : DataW H), ([3, 9, 9, 23, 24, 9, 3] : List TypeId)[j]? = some t → ([y0.1, y1.1, y2.1, y3.1, y4.1, y5.1, y6.1])[j]? = some d → ∀ q ∈ d.weights Tryz.prog t, q ≤ reachBytes := by
        intro j t d ht hd q hq
        refine hs q ?_
        simp only [List.map_cons, List.map_nil, DataW.weights, Tryz.underlying26]
        exact DataW.weights_mem_each ht hd q hq
      obtain ⟨k0, e0, _⟩ := DataW.trod_int Tryz.underlying3 g0
      obtain ⟨s1, e1, _⟩ := DataW.trod_string Tryz.underlying9 g1
      obtain ⟨s2, e2, _⟩ := DataW.trod_string Tryz.underlying9 g2
      obtain ⟨va, ats, e3, ha, hal⟩ := open_atts g3 (hw 3 _ _ rfl rfl)
      obtain ⟨s5, e5, _⟩ := DataW.trod_string Tryz.underlying9 g5
      obtain ⟨k6, e6, _⟩ := DataW.trod_int Tryz.underlying3 g6
      have hkids : ∃ ks : List Node, NodesIn w w.heap.size c4 ks ∧ ks.length ≤ 2600000000000 ∧ ∀ k ∈ ks, Fit k := by
        have hw4 := hw 4 _ _ rfl rfl
        rcases DataW.trod_slice Tryz.underlying24 g4 with ⟨e4, _⟩ | ⟨a, len, cap, elems, rest, n', hn', e4, rfl, _, hlc, _, hel, hat, _⟩
        · simp only [List.drop_zero, List.drop_succ_cons, List.take_succ_cons, List.take_zero, List.cons.injEq, and_true] at e4
          subst e4
          exact ⟨[], ⟨none, 0, rfl, Nat.le_refl _, .inl rfl⟩, by simp, by simp⟩
        · simp only [List.drop_zero, List.drop_succ_cons, List.take_succ_cons, List.take_zero, List.cons.injEq, and_true] at e4
          subst e4
          have hw0 := hw4 ((elems.length + rest.length) * 112) (by simp [DataW.weights, Tryz.underlying24, bytesNode])
          have hreach : reachBytes = 140737488351232 := rfl
          rw [cellsNode] at hat
          have hi : ∀ i, i < len → ∃ kc : Node × List Value, NodeIn w w.heap.size kc.1 kc.2 ∧ Fit kc.1 ∧ ∀ j v, kc.2[j]? = some v → w.cell? (a.add (i * 7 + j)) = some v := by
            intro i hi
            have h1 := hat i hi
            rw [List.getElem?_eq_getElem (by omega)] at h1
            obtain ⟨cs', h2, h3⟩ := Option.bind_eq_some_iff.1 h1
            obtain ⟨_, hl', hc⟩ := World.cells?_some h2
            obtain ⟨k, hk1, hk2⟩ := ih n' (by omega) h3 (fun q hq => hw4 q (by
              simp only [DataW.weights, Tryz.underlying24, List.mem_cons, List.mem_append]
              exact .inr (.inl (weightsAll_of (List.mem_map_of_mem (List.getElem_mem (show i < elems.length by omega))) q hq))))
            refine ⟨(k, cs'), hk1, hk2, fun j v hj => ?_⟩
            have hj7 : j < 7 := by rw [← hl']; exact (List.getElem?_eq_some_iff.1 hj).1
            have := hc j hj7
            rw [Go.Deep.add_add] at this
            rw [this, hj]
          by_cases h0 : len = 0
          · subst h0
            exact ⟨[], ⟨_, cap, rfl, Nat.zero_le _, .inl rfl⟩, by simp, by simp⟩
          · obtain ⟨kc0, h01, _, h00⟩ := hi 0 (by omega)
            obtain ⟨va0, vk0, hcs0, _⟩ := h01.form
            obtain ⟨b, off, rfl, hb⟩ := addr_plain (h00 0 _ (by rw [hcs0]; rfl)) (by simp)
            have : Inhabited (Node × List Value) := ⟨kc0⟩
            obtain ⟨f, hf⟩ := Go.Deep.choose_lt hi
            refine ⟨(List.range len).map fun i => (f i).1, ⟨_, cap, by simp, by simpa using hlc, .inr ⟨b, off, rfl, hb, KidsIn.of_at fun i k hk => ?_⟩⟩, by simp; omega, fun k hk => ?_⟩
            · have hil : i < len := by have := (List.getElem?_eq_some_iff.1 hk).1; simpa using this
              simp [hil] at hk
              subst hk
              refine ⟨(f i).2, (hf i hil).1, fun j v hj => ?_⟩
              have := (hf i hil).2.2 j v hj
              rw [add_none] at this
              rw [show off + i * 7 + j = off + (i * 7 + j) by omega]
              exact this
            · simp only [List.mem_map, List.mem_range] at hk
              obtain ⟨i, hil, rfl⟩ := hk
              exact (hf i hil).2.1
      obtain ⟨ks, hk, hkl, hkf⟩ := hkids
      simp only [List.drop_zero, List.drop_succ_cons, List.take_succ_cons, List.take_zero, List.cons.injEq, and_true] at e0 e1 e2 e3 e5 e6
      subst e0 e1 e2 e3 e5 e6
      refine ⟨.mk k0 s1.data.toList s2.data.toList ats ks s5.data.toList k6, ?_, Fit.of_form hal hkl hkf⟩
      have := NodeIn.of_form (n := .mk k0 s1.data.toList s2.data.toList ats ks s5.data.toList k6) ha hk
      simpa [Node.kind, Node.space, Node.name, Node.text, Node.pos, S] using this
end
set_option maxRecDepth 100000 in
/-- A struct argument opened. -/
theorem open_nodeV {H : Type} {enc : TypeId × Value → H} {w : World} {v : Value} {d : DataW H} {ps : List MemPlace} {r : Reach} {base : Nat} (hv : Value.okWide Tryz.prog w r base 26 v) (h : DataW.Trod enc Tryz.prog w 0 (fun _ => true) true 26 v d ps)
    (hs : ∀ q ∈ d.weights Tryz.prog 26, q ≤ reachBytes) : ∃ n : Node, NodeV w w.heap.size n v ∧ Fit n := by
  obtain ⟨cs, rfl, hsz⟩ := okWide_struct Tryz.underlying26 hv
  obtain ⟨fuel, hf⟩ := h
  obtain ⟨n, h1, h2⟩ := open_node fuel hf hs
  exact ⟨n, ⟨_, by simp [Value.cells], h1⟩, h2⟩
end Go.Proofs.YtclhdppppgjgfaaGreatDoor
