/-
  A statement 'x.f = append(append([]Node{}, x.f...), k)' in whatever order its operations come: over a frame and a post that are letters.
-/
import Derived.Test.YtaghipnheomggaaDoorPar4
import Derived.Test.YtaghipnheomggaaDoorReg
set_option linter.unusedVariables false
set_option linter.unusedSimpArgs false
namespace Go.Proofs.YtaghipnheomggaaDoor
open Go.RowKit

theorem eval_put_same {a : Act} {s : Nat} {v : Value} (h : s < a.tmps.size) : (a.put (some s) v).eval (.tmp s) = v := by simp [Act.put, Act.eval, h]
theorem eval_put_ne {a : Act} {s t : Nat} {v : Value} (h : s ≠ t) : (a.put (some s) v).eval (.tmp t) = a.eval (.tmp t) :=
  Act.eval_put fun d hd => by cases hd; intro e; cases e; exact h rfl
theorem eval_tmp {a : Act} {s : Nat} {v : Value} (h : a.eval (.tmp s) = v) : a.tmps[s]?.getD undef = v := by simpa [Act.eval] using h
theorem size_put {a : Act} {d : Option Nat} {v : Value} : (a.put d v).tmps.size = a.tmps.size := by cases d <;> simp [Act.put]

set_option maxHeartbeats 1000000 in
theorem region_app2 {ops : Array Oper} {Q : Exit → Act → World → Prop} {n : Nat} {B : Nat} {V : World} {L0 : Array Bool} {a : Act} {w : World}
    (iE iA1 iK iA2 iF : Nat) {sE sL sA1 sN sK sA2 sF : Nat} {t1 t2 t3 t4 t5 t6 : TypeId} {p1 p2 p3 p4 p5 p6 : String} {x1 x2 x3 x4 x5 x6 : Array Edge}
    (oE : ops[iE]? = some ⟨some sE, .buildSlice 27 0 #[], t1, p1, x1, none⟩)
    (oA1 : ops[iA1]? = some ⟨some sA1, .call { callee := .builtin .append, args := #[.tmp sE, .tmp sL], argTypes := #[27, 27] }, t2, p2, x2, none⟩)
    (oK : ops[iK]? = some ⟨some sK, .buildSlice 27 1 #[(0, .tmp sN)], t3, p3, x3, none⟩)
    (oA2 : ops[iA2]? = some ⟨some sA2, .call { callee := .builtin .append, args := #[.tmp sA1, .tmp sK], argTypes := #[27, 27] }, t4, p4, x4, none⟩)
    (oF : ops[iF]? = some ⟨some sF, .fieldAddr 29 (.tmp 8) 4, t5, p5, x5, none⟩)
    (oS : ops[n]? = some ⟨none, .store 27 (.tmp sF) (.tmp sA2), t6, p6, x6, none⟩)
    (hlt : ([iE, iA1, iK, iA2, iF].all (fun i => decide (i < n)) && decide ([sE, sL, sA1, sN, sK, sA2, sF, 8].Nodup) && decide (sE < a.tmps.size) && decide (sA1 < a.tmps.size) && decide (sK < a.tmps.size) && decide (sA2 < a.tmps.size) && decide (sF < a.tmps.size)) = true)
    (hne : iE ≠ iK ∧ iE ≠ iA1 ∧ iK ≠ iA1)
    (r0 : Region.ready .any ops L0 = [iE, iK])
    (r1 : Region.ready .any ops (L0.setIfInBounds iE true) = [iA1, iK])
    (r2 : Region.ready .any ops ((L0.setIfInBounds iE true).setIfInBounds iA1 true) = [iK])
    (r3 : Region.ready .any ops ((L0.setIfInBounds iE true).setIfInBounds iK true) = [iA1])
    (r4 : Region.ready .any ops (L0.setIfInBounds iK true) = [iE])
    (r5 : Region.ready .any ops (((L0.setIfInBounds iE true).setIfInBounds iK true).setIfInBounds iA1 true) = [iA2])
    (r6 : Region.ready .any ops ((((L0.setIfInBounds iE true).setIfInBounds iK true).setIfInBounds iA1 true).setIfInBounds iA2 true) = [iF])
    (r7 : Region.ready .any ops (((((L0.setIfInBounds iE true).setIfInBounds iK true).setIfInBounds iA1 true).setIfInBounds iA2 true).setIfInBounds iF true) = [n])
    (r8 : Region.ready .any ops ((((((L0.setIfInBounds iE true).setIfInBounds iK true).setIfInBounds iA1 true).setIfInBounds iA2 true).setIfInBounds iF true).setIfInBounds n true) = [])
    (base : Nat) (p : Nat → Prop) (KA : Option Addr) (kc : Nat) (ks : List Node) (k : Node) (c0 c1 c2 c3 c4 c5 c6 : Value) (nb : Nat)
    (hL : a.eval (.tmp sL) = .slice KA ks.length kc) (hN : a.eval (.tmp sN) = .agg #[c0, c1, c2, c3, c4, c5, c6]) (h8 : a.eval (.tmp 8) = .pointer (some ⟨nb, 0, none⟩))
    (hS : Below B V w) (hBV : B = V.heap.size) (hbase : base ≤ B) (hks : ks.length < 1000000000)
    (hp : ∀ b, p b → b < B)
    (HCL : ∀ W, Below B V W → NodeRow W base p (.slice KA ks.length kc) ks ∧ NodeP W p k [c0, c1, c2, c3, c4, c5, c6] ∧ W.cell? ⟨nb, 4, none⟩ = some (.slice KA ks.length kc) ∧ W.frozen? ⟨nb, 4, none⟩ = false)
    (hQ : ∀ (eb kb2 : Nat) (v1 : Value) (g' c' : Nat) (w2 : World), B ≤ g' → NodeRow w2 base p (.slice (some ⟨g', 0, none⟩) (ks.length + 1) c') (ks ++ [k]) → Below B V w2 →
      Q .normal (((((a.put (some sE) (.slice (some ⟨eb, 0, none⟩) 0 0)).put (some sK) (.slice (some ⟨kb2, 0, none⟩) 1 1)).put (some sA1) v1).put (some sA2) (.slice (some ⟨g', 0, none⟩) (ks.length + 1) c')).put (some sF) (.pointer (some ⟨nb, 4, none⟩))) (w2.setCell ⟨nb, 4, none⟩ (.slice (some ⟨g', 0, none⟩) (ks.length + 1) c'))) :
    RegT Tryd.prog ops Q (fun x => Below B V x) n 6 L0 a w := by
  simp only [Bool.and_eq_true, decide_eq_true_eq, List.all_cons, List.all_nil, List.nodup_cons, List.mem_cons, List.not_mem_nil, or_false, not_or, Bool.and_true] at hlt
  obtain ⟨⟨⟨⟨⟨⟨⟨lE, lA1, lK, lA2, lF⟩, ⟨dEL, dEA1, dEN, dEK, dEA2, dEF, dE8⟩, ⟨dLA1, dLN, dLK, dLA2, dLF, dL8⟩, ⟨dA1N, dA1K, dA1A2, dA1F, dA18⟩, ⟨dNK, dNA2, dNF, dN8⟩, ⟨dKA2, dKF, dK8⟩, ⟨dA2F, dA28⟩, dF8, _⟩, zE⟩, zA1⟩, zK⟩, zA2⟩, zF⟩ := hlt
  have M2 : ∀ (eb kb2 : Nat) (v1 : Value) (W : World), Below B V W → NodeRow W base p v1 ks → (∀ b, v1.ownBlock = some b → B ≤ b) → W.rangeAt kb2 0 [c0, c1, c2, c3, c4, c5, c6] →
      RegT Tryd.prog ops Q (fun x => Below B V x) n 3 (((L0.setIfInBounds iE true).setIfInBounds iK true).setIfInBounds iA1 true) (((a.put (some sE) (.slice (some ⟨eb, 0, none⟩) 0 0)).put (some sK) (.slice (some ⟨kb2, 0, none⟩) 1 1)).put (some sA1) v1) W := by
    intro eb kb2 v1 W hB r1 u4 hK2
    have hz := hB.size
    refine regT_all r5 (by simp) (by simp [lA2]) ?_
    intro i hi
    obtain rfl : i = iA2 := by simpa using hi
    refine regT_op oA2 (fun K' hK => ?_)
    refine nodes_one_step (by rfl) (.tmp sA1) (.tmp sK) (by rfl) W base p v1 ks (by rw [eval_put_same (by simpa [size_put] using zA1)]) r1 k [c0, c1, c2, c3, c4, c5, c6] kb2 (by rw [eval_put_ne (Ne.symm (Ne.symm dA1K)), eval_put_same (by simpa [size_put] using zK)]) hK2 (HCL _ hB).2.1 (fun b hb e => by have := hp b hb; have := u4 b e; omega) (fun b hb => by have := hp b hb; omega) (by omega) (by omega) ?_
    intro g' c' w2 z1 z2 z3 z4
    have s2 : Below B V w2 := grew_below hB z2 u4 (by omega)
    have hg8 : B ≤ g' := by
      rcases z4 with e | e
      · exact u4 _ e
      · omega
    refine hK.out _ _ ⟨s2, ?_⟩
    clear hK
    refine regT_all r6 (by simp) (by simp [lF]) ?_
    intro i hi
    obtain rfl : i = iF := by simpa using hi
    refine regT_op oF (fun K' hK => ?_)
    have e8 : (((((a.put (some sE) (.slice (some ⟨eb, 0, none⟩) 0 0)).put (some sK) (.slice (some ⟨kb2, 0, none⟩) 1 1)).put (some sA1) v1).put (some sA2) (.slice (some ⟨g', 0, none⟩) (ks.length + 1) c'))).eval (.tmp 8) = .pointer (some ⟨nb, 0, none⟩) := by
      rw [eval_put_ne dA28, eval_put_ne dA18, eval_put_ne dK8, eval_put_ne dE8, h8]
    have eA2 : (((((a.put (some sE) (.slice (some ⟨eb, 0, none⟩) 0 0)).put (some sK) (.slice (some ⟨kb2, 0, none⟩) 1 1)).put (some sA1) v1).put (some sA2) (.slice (some ⟨g', 0, none⟩) (ks.length + 1) c')).put (some sF) (.pointer (some ⟨nb, 4, none⟩))).eval (.tmp sA2) = .slice (some ⟨g', 0, none⟩) (ks.length + 1) c' := by
      rw [eval_put_ne (Ne.symm dA2F), eval_put_same (by simpa [size_put] using zA2)]
    have eF : (((((a.put (some sE) (.slice (some ⟨eb, 0, none⟩) 0 0)).put (some sK) (.slice (some ⟨kb2, 0, none⟩) 1 1)).put (some sA1) v1).put (some sA2) (.slice (some ⟨g', 0, none⟩) (ks.length + 1) c')).put (some sF) (.pointer (some ⟨nb, 4, none⟩))).eval (.tmp sF) = .pointer (some ⟨nb, 4, none⟩) := eval_put_same (by simpa [size_put] using zF)
    have hq := hQ eb kb2 v1 g' c' w2 hg8 z1 s2
    have e4 := (HCL _ s2).2.2.1
    have e5 := (HCL _ s2).2.2.2
    generalize ((((a.put (some sE) (.slice (some ⟨eb, 0, none⟩) 0 0)).put (some sK) (.slice (some ⟨kb2, 0, none⟩) 1 1)).put (some sA1) v1).put (some sA2) (.slice (some ⟨g', 0, none⟩) (ks.length + 1) c')) = a4 at *
    have e8' := eval_tmp e8
    have HQ := Lib.hid hq
    have ES := Lib.hid s2
    clear hq hQ HCL z1 z2 z3 z4 hB r1 s2 hS hp
    go_simp
    refine hK.out _ _ ⟨ES.out, ?_⟩
    clear hK
    change RegT _ _ _ _ _ _ _ (a4.put (some sF) (.pointer (some ⟨nb, 4, none⟩))) _
    refine regT_last r7 r8 ?_
    refine regT_op oS (fun K' hK => ?_)
    generalize a4.put (some sF) (.pointer (some ⟨nb, 4, none⟩)) = a5 at *
    have e2' := eval_tmp eA2
    have eF' := eval_tmp eF
    go_simp
    exact hK.out _ _ HQ.out
  have ERow : ∀ (W : World) (eb : Nat), B ≤ eb → W.heap[eb]? = some (.cells #[] 29 (0, 0)) → NodeRow W base p (.slice (some ⟨eb, 0, none⟩) 0 0) [] := fun W eb h1 h2 => rowE h2 (by omega)
  have M1 : ∀ (eb kb2 : Nat) (W : World), Below B V W → W.heap[eb]? = some (.cells #[] 29 (0, 0)) → B ≤ eb → W.rangeAt kb2 0 [c0, c1, c2, c3, c4, c5, c6] → kb2 ≠ eb → kb2 < W.heap.size →
      RegT Tryd.prog ops Q (fun x => Below B V x) n 4 ((L0.setIfInBounds iE true).setIfInBounds iK true) ((a.put (some sE) (.slice (some ⟨eb, 0, none⟩) 0 0)).put (some sK) (.slice (some ⟨kb2, 0, none⟩) 1 1)) W := by
    intro eb kb2 W hB hE hEb hK2 hne2 hlt2
    have hz := hB.size
    refine regT_all r3 (by simp) (by simp [lA1]) ?_
    intro i hi
    obtain rfl : i = iA1 := by simpa using hi
    refine regT_op oA1 (fun K' hK => ?_)
    refine nodes_all_step (by rfl) (.tmp sE) (.tmp sL) (by rfl) _ base p _ [] (by rw [eval_put_ne (Ne.symm dEK), eval_put_same (by simpa [size_put] using zE)]) (ERow W eb hEb hE) KA kc ks base (by rw [eval_put_ne (Ne.symm dLK), eval_put_ne dEL, hL]) (HCL _ hB).1 (fun b hb => by have := hp b hb; simp [Value.ownBlock]; omega) (fun b hb => by have := hp b hb; omega) (by omega) (by simp; omega) ?_
    intro v1 w1 q1 q2 q3 q4
    have s1 : Below B V w1 := grew_below hB q2 (fun b hb => by simp [Value.ownBlock] at hb; omega) (by omega)
    have hz1 := s1.size
    rw [List.nil_append] at q1
    refine hK.out _ _ ⟨s1, ?_⟩
    refine M2 eb kb2 v1 w1 s1 q1 (fun b hb => ?_) (rangeAt_keep hK2 (q2.grown.block kb2 hlt2 (by simp [Value.ownBlock]; omega)))
    rcases q4 with e | e <;> (rw [e] at hb; simp [Value.ownBlock] at hb; omega)
  have hBw : B ≤ w.heap.size := by rw [hBV]; exact hS.size
  refine regT_all r0 (by simp) (by simp [lE, lK]) ?_
  intro i hi
  have hi' : i = iE ∨ i = iK := by simpa using hi
  clear hi
  have HQ := Lib.hid hQ
  have HC := Lib.hid HCL
  have HM1 := Lib.hid M1
  have HM2 := Lib.hid M2
  clear hQ HCL M1 M2
  rcases hi' with rfl | rfl
  · refine regT_op oE (fun K' hK => ?_)
    go_simp
    refine hK.out _ _ ⟨hS.alloc hBw _, ?_⟩
    clear hK
    change RegT _ _ _ _ _ _ _ (a.put (some sE) (.slice (some ⟨w.heap.size, 0, none⟩) 0 0)) _
    have hB := hS.alloc hBw (.cells #[] 29)
    have hE : (w.alloc (.cells #[] 29)).heap[w.heap.size]? = some (.cells #[] 29 (0, 0)) := heap_alloc_new w _
    have hZ : w.heap.size < (w.alloc (.cells #[] 29)).heap.size := by simp
    generalize w.alloc (.cells #[] 29) = W at *
    generalize w.heap.size = eb at *
    have hz := hB.size
    refine regT_all r1 (by simp) (by simp [lA1, lK]) ?_
    intro i hi
    have hi' : i = iA1 ∨ i = iK := by simpa using hi
    clear hi
    rcases hi' with rfl | rfl
    · refine regT_op oA1 (fun K' hK => ?_)
      refine nodes_all_step (by rfl) (.tmp sE) (.tmp sL) (by rfl) _ base p _ [] (by rw [eval_put_same zE]) (ERow W eb hBw hE) KA kc ks base (by rw [eval_put_ne dEL, hL]) (HC.out _ hB).1 (fun b hb => by have := hp b hb; simp [Value.ownBlock]; omega) (fun b hb => by have := hp b hb; omega) (by omega) (by simp; omega) ?_
      intro v1 w1 q1 q2 q3 q4
      have s1 : Below B V w1 := grew_below hB q2 (fun b hb => by simp [Value.ownBlock] at hb; omega) (by omega)
      have hz1 := s1.size
      rw [List.nil_append] at q1
      have u4 : ∀ b, v1.ownBlock = some b → B ≤ b := by
        intro b hb
        rcases q4 with e | e <;> (rw [e] at hb; simp [Value.ownBlock] at hb; omega)
      refine hK.out _ _ ⟨s1, ?_⟩
      clear hK
      refine regT_all r2 (by simp) (by simp [lK]) ?_
      intro i hi
      obtain rfl : i = iK := by simpa using hi
      refine regT_op oK (fun K' hK => ?_)
      have hN' := eval_tmp (a := (a.put (some sE) (.slice (some ⟨eb, 0, none⟩) 0 0)).put (some sA1) v1) (by rw [eval_put_ne dA1N, eval_put_ne dEN, hN])
      have hZZ := HM2.out eb w1.heap.size v1 (w1.alloc (.cells #[c0, c1, c2, c3, c4, c5, c6] 29)) (s1.alloc (by omega) _) (q1.below ((Below.refl _ _).alloc (Nat.le_refl _) _) (fun b hb => by have := hp b hb; omega)) u4 (range_at (heap_alloc_new _ _))
      rw [Act.put_comm _ _ _ (fun d hd e => by cases hd; cases e; exact dA1K rfl), Array.setIfInBounds_comm _ _ hne.2.2] at hZZ
      have HZ := Lib.hid hZZ
      generalize (a.put (some sE) (.slice (some ⟨eb, 0, none⟩) 0 0)).put (some sA1) v1 = a4 at *
      go_simp
      refine hK.out _ _ ⟨s1.alloc (by omega) _, HZ.out⟩
    · refine regT_op oK (fun K' hK => ?_)
      have hN' := eval_tmp (a := a.put (some sE) (.slice (some ⟨eb, 0, none⟩) 0 0)) (by rw [eval_put_ne dEN, hN])
      have hZZ := HM1.out eb W.heap.size (W.alloc (.cells #[c0, c1, c2, c3, c4, c5, c6] 29)) (hB.alloc (by omega) _) (alloc_old hE) hBw (range_at (heap_alloc_new _ _)) (by omega) (by simp)
      have HZ := Lib.hid hZZ
      generalize a.put (some sE) (.slice (some ⟨eb, 0, none⟩) 0 0) = a4 at *
      go_simp
      refine hK.out _ _ ⟨hB.alloc (by omega) _, HZ.out⟩
  · refine regT_op oK (fun K' hK => ?_)
    have hN' := eval_tmp hN
    go_simp
    refine hK.out _ _ ⟨hS.alloc hBw _, ?_⟩
    clear hK
    change RegT _ _ _ _ _ _ _ (a.put (some sK) (.slice (some ⟨w.heap.size, 0, none⟩) 1 1)) _
    have hB := hS.alloc hBw (.cells #[c0, c1, c2, c3, c4, c5, c6] 29)
    have hK1 : (w.alloc (.cells #[c0, c1, c2, c3, c4, c5, c6] 29)).rangeAt w.heap.size 0 [c0, c1, c2, c3, c4, c5, c6] := range_at (heap_alloc_new w _)
    have hZ : w.heap.size < (w.alloc (.cells #[c0, c1, c2, c3, c4, c5, c6] 29)).heap.size := by simp
    generalize w.alloc (.cells #[c0, c1, c2, c3, c4, c5, c6] 29) = W at *
    generalize w.heap.size = kb at *
    have hz := hB.size
    refine regT_all r4 (by simp) (by simp [lE]) ?_
    intro i hi
    obtain rfl : i = iE := by simpa using hi
    refine regT_op oE (fun K' hK => ?_)
    have hZZ := HM1.out W.heap.size kb (W.alloc (.cells #[] 29)) (hB.alloc (by omega) _) (alloc_at rfl) (by omega) (rangeAt_keep hK1 (Below.heap_alloc _ _ _ (by omega))) (by omega) (by simp; omega)
    rw [Act.put_comm _ _ _ (fun d hd e => by cases hd; cases e; exact dEK rfl), Array.setIfInBounds_comm _ _ hne.1] at hZZ
    have HZ := Lib.hid hZZ
    generalize a.put (some sK) (.slice (some ⟨kb, 0, none⟩) 1 1) = a4 at *
    go_simp
    refine hK.out _ _ ⟨hB.alloc (by omega) _, HZ.out⟩
end Go.Proofs.YtaghipnheomggaaDoor
