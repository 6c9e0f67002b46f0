/-
  Several texts in one file, in build order:
  - A statement 'x.f = append(append([]T{}, x.f...), k)' in whatever order its operations come, for JSON values and members. Made by gen_appj.py out of XApp2.
  - Walks of chapter 11, the reference: list, of an array.
-/
import Derived.Test.YthlppbpccldikaaGreatDoorH4
import Derived.Test.YthlppbpccldikaaGreatDoorH2
import Derived.Test.YthlppbpccldikaaGreatDoorH7
import Derived.Test.YthlppbpccldikaaGreatDoorH17
import Derived.Deep.LoopGhost
set_option linter.unusedVariables false
set_option linter.unusedSimpArgs false
namespace Go.Proofs.YthlppbpccldikaaGreatDoor
open Go.RowKit

theorem eval_put_same {a : Act} {s : Nat} {v : Value} (h : s < a.tmps.size) : (a.put (some s) v).eval (.tmp s) = v := by simp [Act.put, Act.eval, h]
theorem eval_put_ne {a : Act} {s t : Nat} {v : Value} (h : s ≠ t) : (a.put (some s) v).eval (.tmp t) = a.eval (.tmp t) :=
  Act.eval_put fun d hd => by cases hd; intro e; cases e; exact h rfl
theorem eval_tmp {a : Act} {s : Nat} {v : Value} (h : a.eval (.tmp s) = v) : a.tmps[s]?.getD undef = v := by simpa [Act.eval] using h
theorem size_put {a : Act} {d : Option Nat} {v : Value} : (a.put d v).tmps.size = a.tmps.size := by cases d <;> simp [Act.put]

theorem rowEE {α : Type} (E : Elt α) {W : World} {base h : Nat} {p : Nat → Prop} (e : W.heap[h]? = some (.cells #[] E.T (0, 0))) (hb : base ≤ h) : ElRow E W base p (.slice (some ⟨h, 0, none⟩) 0 0) [] :=
  ⟨[], rfl, by simp, by simp, .inr ⟨h, 0, #[], rfl, hb, e, Nat.le_refl _, by decide, by simp, by simp⟩⟩
theorem grew_below {B : Nat} {V W w' : World} {v v' : Value} (h : Below B V W) (g : Grew W v v' w') (hv : ∀ k, v.ownBlock = some k → B ≤ k) (hB : B ≤ V.heap.size) : Below B V w' :=
  ⟨g.grown.os.trans h.os, g.grown.tape.trans h.tape, g.grown.output.trans h.output, Nat.le_trans h.size g.lt, fun k hk => (g.grown.block k (Nat.lt_of_lt_of_le (Nat.lt_of_lt_of_le hk hB) h.size) (fun e => by have := hv k e.symm; omega)).trans (h.block k hk)⟩
theorem range_atE {W : World} {b : Nat} {cs : List Value} {T : TypeId} (h : W.heap[b]? = some (.cells cs.toArray T (0, 0))) : W.rangeAt b 0 cs := range_of_heap h
theorem els_all_step {α : Type} {E : Elt α} (hE : E.Ok) {ops : Array Oper} {o : Oper} {a : Act} {K : Act → World → Prop} {Q : Exit → Act → World → Prop} {Z : Prop} (hgd : o.guard = none) (s x : Operand)
    (ho : o.op = .call { callee := .builtin .append, args := #[s, x], argTypes := #[E.TS, E.TS] })
    (w : World) (base : Nat) (p : Nat → Prop) (v : Value) (xs : List α) (hs : a.eval s = v) (hx : ElRow E w base p v xs) (A : Option Addr) (c : Nat) (ks : List α) (hxv : a.eval x = .slice A ks.length c) (h : ElsP E w p (.slice A ks.length c) ks) (hpx : ∀ b, p b → v.ownBlock ≠ some b) (hpw : ∀ b, p b → b < w.heap.size) (hbase : base ≤ w.heap.size) (hl : xs.length + ks.length < 10000000000)
    (hK : ∀ v' w', ElRow E w' base p v' (xs ++ ks) → Grew w v v' w' → Below base w w' → (v'.ownBlock = v.ownBlock ∨ v'.ownBlock = some w.heap.size) → K (a.put o.dst v') w') :
    if Region.wanted o (yielded ops a.tmps) = true then Oper.wp Tryz.prog o a w K Q else Z := by
  rw [if_pos (by simp [Region.wanted, hgd])]
  obtain ⟨v', w', hrun, h1, h2, h3, h4⟩ := run_append_els hE w o.type base p v xs hx A _ c ks h hbase hl hpx hpw
  unfold Oper.wp
  simp [execOp, ho, resolve, invoke, builtin, hs, hxv, hrun, Result.andThen]
  exact hK v' w' h1 h2 h3 h4
theorem els_one_step {α : Type} {E : Elt α} (hE : E.Ok) {ops : Array Oper} {o : Oper} {a : Act} {K : Act → World → Prop} {Q : Exit → Act → World → Prop} {Z : Prop} (hgd : o.guard = none) (s x : Operand)
    (ho : o.op = .call { callee := .builtin .append, args := #[s, x], argTypes := #[E.TS, E.TS] })
    (w : World) (base : Nat) (p : Nat → Prop) (v : Value) (ks : List α) (hs : a.eval s = v) (h : ElRow E w base p v ks) (k : α) (cs : List Value) (b : Nat) (hx : a.eval x = .slice (some ⟨b, 0, none⟩) 1 1) (hb : w.rangeAt b 0 cs) (hk : E.El w p k cs) (hpx : ∀ b, p b → v.ownBlock ≠ some b) (hpw : ∀ b, p b → b < w.heap.size) (hbase : base ≤ w.heap.size) (hlen : ks.length < 10000000000)
    (hK : ∀ g cap w', ElRow E w' base p (.slice (some ⟨g, 0, none⟩) (ks.length + 1) cap) (ks ++ [k]) → Grew w v (.slice (some ⟨g, 0, none⟩) (ks.length + 1) cap) w' → Below base w w' → (v.ownBlock = some g ∨ g = w.heap.size) → K (a.put o.dst (.slice (some ⟨g, 0, none⟩) (ks.length + 1) cap)) w') :
    if Region.wanted o (yielded ops a.tmps) = true then Oper.wp Tryz.prog o a w K Q else Z := by
  obtain ⟨i0, hi0, hz0, hz1, hz2⟩ := info_parts hE.info
  obtain ⟨css, hl, hin, hown⟩ := h
  have hsm := hE.small
  have hby : (ks.length + 1) * E.bytes ≤ 140737488355328 := Nat.le_trans (Nat.mul_le_mul_left _ hsm) (by omega)
  refine step_append_lies _ hgd s x E.TS ho base E.T i0 _ E.c E.bytes hE.list hi0 hz0 hz1 hz2 hE.zc hE.pos v ks.length css.flatten hs hown ⟨b, 0, none⟩ 1 1 cs hx (by rw [hE.len hk, Nat.one_mul]) ?_ (hE.one hk) (by omega) (by unfold maxLen; omega) hby hbase _ rfl ?_
  · intro j u hu
    rw [add_zero_block]
    have := hb j u hu
    rw [Nat.zero_add] at this
    exact this
  · intro g cap w1 hown1 hgrow hat hlt
    exact hK g cap w1 (el_append_row hE hl hin hk (fun j hj => hgrow.block j (hpw j hj) (fun e => hpx j hj e.symm)) hown1) ⟨hgrow, hgrow.size⟩ (row_grown hgrow hbase hown.lt) hat

set_option maxHeartbeats 1000000 in
theorem region_appV {ops : Array Oper} {Q : Exit → Act → World → Prop} {n : Nat} {B : Nat} {V : World} {L0 : Array Bool} {a : Act} {w : World}
    (iE iA1 iK iA2 iF : Nat) {sE sL sA1 sN sK sA2 sF : Nat} {t1 t2 t3 t4 t5 t6 : TypeId} {p1 p2 p3 p4 p5 p6 : String} {x1 x2 x3 x4 x5 x6 : Array Edge}
    (oE : ops[iE]? = some ⟨some sE, .buildSlice 23 0 #[], t1, p1, x1, none⟩)
    (oA1 : ops[iA1]? = some ⟨some sA1, .call { callee := .builtin .append, args := #[.tmp sE, .tmp sL], argTypes := #[23, 23] }, t2, p2, x2, none⟩)
    (oK : ops[iK]? = some ⟨some sK, .buildSlice 23 1 #[(0, .tmp sN)], t3, p3, x3, none⟩)
    (oA2 : ops[iA2]? = some ⟨some sA2, .call { callee := .builtin .append, args := #[.tmp sA1, .tmp sK], argTypes := #[23, 23] }, t4, p4, x4, none⟩)
    (oF : ops[iF]? = some ⟨some sF, .fieldAddr 26 (.tmp 7) 4, t5, p5, x5, none⟩)
    (oS : ops[n]? = some ⟨none, .store 23 (.tmp sF) (.tmp sA2), t6, p6, x6, none⟩)
    (hlt : ([iE, iA1, iK, iA2, iF].all (fun i => decide (i < n)) && decide ([sE, sL, sA1, sN, sK, sA2, sF, 7].Nodup) && decide (sE < a.tmps.size) && decide (sA1 < a.tmps.size) && decide (sK < a.tmps.size) && decide (sA2 < a.tmps.size) && decide (sF < a.tmps.size)) = true)
    (hne : iE ≠ iK ∧ iE ≠ iA1 ∧ iK ≠ iA1)
    (r0 : Region.ready .any ops L0 = [iE, iK])
    (r1 : Region.ready .any ops (L0.setIfInBounds iE true) = [iA1, iK])
    (r2 : Region.ready .any ops ((L0.setIfInBounds iE true).setIfInBounds iA1 true) = [iK])
    (r3 : Region.ready .any ops ((L0.setIfInBounds iE true).setIfInBounds iK true) = [iA1])
    (r4 : Region.ready .any ops (L0.setIfInBounds iK true) = [iE])
    (r5 : Region.ready .any ops (((L0.setIfInBounds iE true).setIfInBounds iK true).setIfInBounds iA1 true) = [iA2])
    (r6 : Region.ready .any ops ((((L0.setIfInBounds iE true).setIfInBounds iK true).setIfInBounds iA1 true).setIfInBounds iA2 true) = [iF])
    (r7 : Region.ready .any ops (((((L0.setIfInBounds iE true).setIfInBounds iK true).setIfInBounds iA1 true).setIfInBounds iA2 true).setIfInBounds iF true) = [n])
    (r8 : Region.ready .any ops ((((((L0.setIfInBounds iE true).setIfInBounds iK true).setIfInBounds iA1 true).setIfInBounds iA2 true).setIfInBounds iF true).setIfInBounds n true) = [])
    (base : Nat) (p : Nat → Prop) (KA : Option Addr) (kc : Nat) (ks : List JV) (k : JV) (c0 c1 c2 c3 c4 c5 c6 : Value) (nb : Nat)
    (hL : a.eval (.tmp sL) = .slice KA ks.length kc) (hN : a.eval (.tmp sN) = .agg #[c0, c1, c2, c3, c4, c5, c6]) (h8 : a.eval (.tmp 7) = .pointer (some ⟨nb, 0, none⟩))
    (hS : Below B V w) (hBV : B = V.heap.size) (hbase : base ≤ B) (hks : ks.length < 1000000000)
    (hp : ∀ b, p b → b < B)
    (HCL : ∀ W, Below B V W → ElsP valE W p (.slice KA ks.length kc) ks ∧ valE.El W p k [c0, c1, c2, c3, c4, c5, c6] ∧ W.cell? ⟨nb, 4, none⟩ = some (.slice KA ks.length kc) ∧ W.frozen? ⟨nb, 4, none⟩ = false)
    (hQ : ∀ (eb kb2 : Nat) (v1 : Value) (g' c' : Nat) (w2 : World), B ≤ g' → ElRow valE w2 base p (.slice (some ⟨g', 0, none⟩) (ks.length + 1) c') (ks ++ [k]) → Below B V w2 →
      Q .normal (((((a.put (some sE) (.slice (some ⟨eb, 0, none⟩) 0 0)).put (some sK) (.slice (some ⟨kb2, 0, none⟩) 1 1)).put (some sA1) v1).put (some sA2) (.slice (some ⟨g', 0, none⟩) (ks.length + 1) c')).put (some sF) (.pointer (some ⟨nb, 4, none⟩))) (w2.setCell ⟨nb, 4, none⟩ (.slice (some ⟨g', 0, none⟩) (ks.length + 1) c'))) :
    RegT Tryz.prog ops Q (fun x => Below B V x) n 6 L0 a w := by
  simp only [Bool.and_eq_true, decide_eq_true_eq, List.all_cons, List.all_nil, List.nodup_cons, List.mem_cons, List.not_mem_nil, or_false, not_or, Bool.and_true] at hlt
  obtain ⟨⟨⟨⟨⟨⟨⟨lE, lA1, lK, lA2, lF⟩, ⟨dEL, dEA1, dEN, dEK, dEA2, dEF, dE8⟩, ⟨dLA1, dLN, dLK, dLA2, dLF, dL8⟩, ⟨dA1N, dA1K, dA1A2, dA1F, dA18⟩, ⟨dNK, dNA2, dNF, dN8⟩, ⟨dKA2, dKF, dK8⟩, ⟨dA2F, dA28⟩, dF8, _⟩, zE⟩, zA1⟩, zK⟩, zA2⟩, zF⟩ := hlt
  have M2 : ∀ (eb kb2 : Nat) (v1 : Value) (W : World), Below B V W → ElRow valE W base p v1 ks → (∀ b, v1.ownBlock = some b → B ≤ b) → W.rangeAt kb2 0 [c0, c1, c2, c3, c4, c5, c6] →
      RegT Tryz.prog ops Q (fun x => Below B V x) n 3 (((L0.setIfInBounds iE true).setIfInBounds iK true).setIfInBounds iA1 true) (((a.put (some sE) (.slice (some ⟨eb, 0, none⟩) 0 0)).put (some sK) (.slice (some ⟨kb2, 0, none⟩) 1 1)).put (some sA1) v1) W := by
    intro eb kb2 v1 W hB r1 u4 hK2
    have hz := hB.size
    refine regT_all r5 (by simp) (by simp [lA2]) ?_
    intro i hi
    obtain rfl : i = iA2 := by simpa using hi
    refine regT_op oA2 (fun K' hK => ?_)
    refine els_one_step (E := valE) valE_ok (by rfl) (.tmp sA1) (.tmp sK) (by rfl) W base p v1 ks (by rw [eval_put_same (by simpa [size_put] using zA1)]) r1 k [c0, c1, c2, c3, c4, c5, c6] kb2 (by rw [eval_put_ne (Ne.symm (Ne.symm dA1K)), eval_put_same (by simpa [size_put] using zK)]) hK2 (HCL _ hB).2.1 (fun b hb e => by have := hp b hb; have := u4 b e; omega) (fun b hb => by have := hp b hb; omega) (by omega) (by omega) ?_
    intro g' c' w2 z1 z2 z3 z4
    have s2 : Below B V w2 := grew_below hB z2 u4 (by omega)
    have hg8 : B ≤ g' := by
      rcases z4 with e | e
      · exact u4 _ e
      · omega
    refine hK.out _ _ ⟨s2, ?_⟩
    clear hK
    refine regT_all r6 (by simp) (by simp [lF]) ?_
    intro i hi
    obtain rfl : i = iF := by simpa using hi
    refine regT_op oF (fun K' hK => ?_)
    have e8 : (((((a.put (some sE) (.slice (some ⟨eb, 0, none⟩) 0 0)).put (some sK) (.slice (some ⟨kb2, 0, none⟩) 1 1)).put (some sA1) v1).put (some sA2) (.slice (some ⟨g', 0, none⟩) (ks.length + 1) c'))).eval (.tmp 7) = .pointer (some ⟨nb, 0, none⟩) := by
      rw [eval_put_ne dA28, eval_put_ne dA18, eval_put_ne dK8, eval_put_ne dE8, h8]
    have eA2 : (((((a.put (some sE) (.slice (some ⟨eb, 0, none⟩) 0 0)).put (some sK) (.slice (some ⟨kb2, 0, none⟩) 1 1)).put (some sA1) v1).put (some sA2) (.slice (some ⟨g', 0, none⟩) (ks.length + 1) c')).put (some sF) (.pointer (some ⟨nb, 4, none⟩))).eval (.tmp sA2) = .slice (some ⟨g', 0, none⟩) (ks.length + 1) c' := by
      rw [eval_put_ne (Ne.symm dA2F), eval_put_same (by simpa [size_put] using zA2)]
    have eF : (((((a.put (some sE) (.slice (some ⟨eb, 0, none⟩) 0 0)).put (some sK) (.slice (some ⟨kb2, 0, none⟩) 1 1)).put (some sA1) v1).put (some sA2) (.slice (some ⟨g', 0, none⟩) (ks.length + 1) c')).put (some sF) (.pointer (some ⟨nb, 4, none⟩))).eval (.tmp sF) = .pointer (some ⟨nb, 4, none⟩) := eval_put_same (by simpa [size_put] using zF)
    have hq := hQ eb kb2 v1 g' c' w2 hg8 z1 s2
    have e4 := (HCL _ s2).2.2.1
    have e5 := (HCL _ s2).2.2.2
    generalize ((((a.put (some sE) (.slice (some ⟨eb, 0, none⟩) 0 0)).put (some sK) (.slice (some ⟨kb2, 0, none⟩) 1 1)).put (some sA1) v1).put (some sA2) (.slice (some ⟨g', 0, none⟩) (ks.length + 1) c')) = a4 at *
    have e8' := eval_tmp e8
    have HQ := Lib.hid hq
    have ES := Lib.hid s2
    clear hq hQ HCL z1 z2 z3 z4 hB r1 s2 hS hp
    go_simp
    refine hK.out _ _ ⟨ES.out, ?_⟩
    clear hK
    change RegT _ _ _ _ _ _ _ (a4.put (some sF) (.pointer (some ⟨nb, 4, none⟩))) _
    refine regT_last r7 r8 ?_
    refine regT_op oS (fun K' hK => ?_)
    generalize a4.put (some sF) (.pointer (some ⟨nb, 4, none⟩)) = a5 at *
    have e2' := eval_tmp eA2
    have eF' := eval_tmp eF
    go_simp
    exact hK.out _ _ HQ.out
  have ERow : ∀ (W : World) (eb : Nat), B ≤ eb → W.heap[eb]? = some (.cells #[] 26 (0, 0)) → ElRow valE W base p (.slice (some ⟨eb, 0, none⟩) 0 0) [] := fun W eb h1 h2 => rowEE valE h2 (by omega)
  have M1 : ∀ (eb kb2 : Nat) (W : World), Below B V W → W.heap[eb]? = some (.cells #[] 26 (0, 0)) → B ≤ eb → W.rangeAt kb2 0 [c0, c1, c2, c3, c4, c5, c6] → kb2 ≠ eb → kb2 < W.heap.size →
      RegT Tryz.prog ops Q (fun x => Below B V x) n 4 ((L0.setIfInBounds iE true).setIfInBounds iK true) ((a.put (some sE) (.slice (some ⟨eb, 0, none⟩) 0 0)).put (some sK) (.slice (some ⟨kb2, 0, none⟩) 1 1)) W := by
    intro eb kb2 W hB hE hEb hK2 hne2 hlt2
    have hz := hB.size
    refine regT_all r3 (by simp) (by simp [lA1]) ?_
    intro i hi
    obtain rfl : i = iA1 := by simpa using hi
    refine regT_op oA1 (fun K' hK => ?_)
    refine els_all_step (E := valE) valE_ok (by rfl) (.tmp sE) (.tmp sL) (by rfl) _ base p _ [] (by rw [eval_put_ne (Ne.symm dEK), eval_put_same (by simpa [size_put] using zE)]) (ERow W eb hEb hE) KA kc ks (by rw [eval_put_ne (Ne.symm dLK), eval_put_ne dEL, hL]) (HCL _ hB).1 (fun b hb => by have := hp b hb; simp [Value.ownBlock]; omega) (fun b hb => by have := hp b hb; omega) (by omega) (by simp; omega) ?_
    intro v1 w1 q1 q2 q3 q4
    have s1 : Below B V w1 := grew_below hB q2 (fun b hb => by simp [Value.ownBlock] at hb; omega) (by omega)
    have hz1 := s1.size
    rw [List.nil_append] at q1
    refine hK.out _ _ ⟨s1, ?_⟩
    refine M2 eb kb2 v1 w1 s1 q1 (fun b hb => ?_) (rangeAt_keep hK2 (q2.grown.block kb2 hlt2 (by simp [Value.ownBlock]; omega)))
    rcases q4 with e | e <;> (rw [e] at hb; simp [Value.ownBlock] at hb; omega)
  have hBw : B ≤ w.heap.size := by rw [hBV]; exact hS.size
  refine regT_all r0 (by simp) (by simp [lE, lK]) ?_
  intro i hi
  have hi' : i = iE ∨ i = iK := by simpa using hi
  clear hi
  have HQ := Lib.hid hQ
  have HC := Lib.hid HCL
  have HM1 := Lib.hid M1
  have HM2 := Lib.hid M2
  clear hQ HCL M1 M2
  rcases hi' with rfl | rfl
  · refine regT_op oE (fun K' hK => ?_)
    go_simp
    refine hK.out _ _ ⟨hS.alloc hBw _, ?_⟩
    clear hK
    change RegT _ _ _ _ _ _ _ (a.put (some sE) (.slice (some ⟨w.heap.size, 0, none⟩) 0 0)) _
    have hB := hS.alloc hBw (.cells #[] 26)
    have hE : (w.alloc (.cells #[] 26)).heap[w.heap.size]? = some (.cells #[] 26 (0, 0)) := heap_alloc_new w _
    have hZ : w.heap.size < (w.alloc (.cells #[] 26)).heap.size := by simp
    generalize w.alloc (.cells #[] 26) = W at *
    generalize w.heap.size = eb at *
    have hz := hB.size
    refine regT_all r1 (by simp) (by simp [lA1, lK]) ?_
    intro i hi
    have hi' : i = iA1 ∨ i = iK := by simpa using hi
    clear hi
    rcases hi' with rfl | rfl
    · refine regT_op oA1 (fun K' hK => ?_)
      refine els_all_step (E := valE) valE_ok (by rfl) (.tmp sE) (.tmp sL) (by rfl) _ base p _ [] (by rw [eval_put_same zE]) (ERow W eb hBw hE) KA kc ks (by rw [eval_put_ne dEL, hL]) (HC.out _ hB).1 (fun b hb => by have := hp b hb; simp [Value.ownBlock]; omega) (fun b hb => by have := hp b hb; omega) (by omega) (by simp; omega) ?_
      intro v1 w1 q1 q2 q3 q4
      have s1 : Below B V w1 := grew_below hB q2 (fun b hb => by simp [Value.ownBlock] at hb; omega) (by omega)
      have hz1 := s1.size
      rw [List.nil_append] at q1
      have u4 : ∀ b, v1.ownBlock = some b → B ≤ b := by
        intro b hb
        rcases q4 with e | e <;> (rw [e] at hb; simp [Value.ownBlock] at hb; omega)
      refine hK.out _ _ ⟨s1, ?_⟩
      clear hK
      refine regT_all r2 (by simp) (by simp [lK]) ?_
      intro i hi
      obtain rfl : i = iK := by simpa using hi
      refine regT_op oK (fun K' hK => ?_)
      have hN' := eval_tmp (a := (a.put (some sE) (.slice (some ⟨eb, 0, none⟩) 0 0)).put (some sA1) v1) (by rw [eval_put_ne dA1N, eval_put_ne dEN, hN])
      have hZZ := HM2.out eb w1.heap.size v1 (w1.alloc (.cells #[c0, c1, c2, c3, c4, c5, c6] 26)) (s1.alloc (by omega) _) (q1.below valE_ok ((Below.refl _ _).alloc (Nat.le_refl _) _) (fun b hb => by have := hp b hb; omega)) u4 (range_atE (heap_alloc_new _ _))
      rw [Act.put_comm _ _ _ (fun d hd e => by cases hd; cases e; exact dA1K rfl), Array.setIfInBounds_comm _ _ hne.2.2] at hZZ
      have HZ := Lib.hid hZZ
      generalize (a.put (some sE) (.slice (some ⟨eb, 0, none⟩) 0 0)).put (some sA1) v1 = a4 at *
      go_simp
      refine hK.out _ _ ⟨s1.alloc (by omega) _, HZ.out⟩
    · refine regT_op oK (fun K' hK => ?_)
      have hN' := eval_tmp (a := a.put (some sE) (.slice (some ⟨eb, 0, none⟩) 0 0)) (by rw [eval_put_ne dEN, hN])
      have hZZ := HM1.out eb W.heap.size (W.alloc (.cells #[c0, c1, c2, c3, c4, c5, c6] 26)) (hB.alloc (by omega) _) (alloc_old hE) hBw (range_atE (heap_alloc_new _ _)) (by omega) (by simp)
      have HZ := Lib.hid hZZ
      generalize a.put (some sE) (.slice (some ⟨eb, 0, none⟩) 0 0) = a4 at *
      go_simp
      refine hK.out _ _ ⟨hB.alloc (by omega) _, HZ.out⟩
  · refine regT_op oK (fun K' hK => ?_)
    have hN' := eval_tmp hN
    go_simp
    refine hK.out _ _ ⟨hS.alloc hBw _, ?_⟩
    clear hK
    change RegT _ _ _ _ _ _ _ (a.put (some sK) (.slice (some ⟨w.heap.size, 0, none⟩) 1 1)) _
    have hB := hS.alloc hBw (.cells #[c0, c1, c2, c3, c4, c5, c6] 26)
    have hK1 : (w.alloc (.cells #[c0, c1, c2, c3, c4, c5, c6] 26)).rangeAt w.heap.size 0 [c0, c1, c2, c3, c4, c5, c6] := range_atE (heap_alloc_new w _)
    have hZ : w.heap.size < (w.alloc (.cells #[c0, c1, c2, c3, c4, c5, c6] 26)).heap.size := by simp
    generalize w.alloc (.cells #[c0, c1, c2, c3, c4, c5, c6] 26) = W at *
    generalize w.heap.size = kb at *
    have hz := hB.size
    refine regT_all r4 (by simp) (by simp [lE]) ?_
    intro i hi
    obtain rfl : i = iE := by simpa using hi
    refine regT_op oE (fun K' hK => ?_)
    have hZZ := HM1.out W.heap.size kb (W.alloc (.cells #[] 26)) (hB.alloc (by omega) _) (alloc_at rfl) (by omega) (rangeAt_keep hK1 (Below.heap_alloc _ _ _ (by omega))) (by omega) (by simp; omega)
    rw [Act.put_comm _ _ _ (fun d hd e => by cases hd; cases e; exact dEK rfl), Array.setIfInBounds_comm _ _ hne.1] at hZZ
    have HZ := Lib.hid hZZ
    generalize a.put (some sK) (.slice (some ⟨kb, 0, none⟩) 1 1) = a4 at *
    go_simp
    refine hK.out _ _ ⟨hB.alloc (by omega) _, HZ.out⟩
set_option maxHeartbeats 1000000 in
theorem region_appM {ops : Array Oper} {Q : Exit → Act → World → Prop} {n : Nat} {B : Nat} {V : World} {L0 : Array Bool} {a : Act} {w : World}
    (iE iA1 iK iA2 iF : Nat) {sE sL sA1 sN sK sA2 sF : Nat} {t1 t2 t3 t4 t5 t6 : TypeId} {p1 p2 p3 p4 p5 p6 : String} {x1 x2 x3 x4 x5 x6 : Array Edge}
    (oE : ops[iE]? = some ⟨some sE, .buildSlice 24 0 #[], t1, p1, x1, none⟩)
    (oA1 : ops[iA1]? = some ⟨some sA1, .call { callee := .builtin .append, args := #[.tmp sE, .tmp sL], argTypes := #[24, 24] }, t2, p2, x2, none⟩)
    (oK : ops[iK]? = some ⟨some sK, .buildSlice 24 1 #[(0, .tmp sN)], t3, p3, x3, none⟩)
    (oA2 : ops[iA2]? = some ⟨some sA2, .call { callee := .builtin .append, args := #[.tmp sA1, .tmp sK], argTypes := #[24, 24] }, t4, p4, x4, none⟩)
    (oF : ops[iF]? = some ⟨some sF, .fieldAddr 26 (.tmp 7) 5, t5, p5, x5, none⟩)
    (oS : ops[n]? = some ⟨none, .store 24 (.tmp sF) (.tmp sA2), t6, p6, x6, none⟩)
    (hlt : ([iE, iA1, iK, iA2, iF].all (fun i => decide (i < n)) && decide ([sE, sL, sA1, sN, sK, sA2, sF, 7].Nodup) && decide (sE < a.tmps.size) && decide (sA1 < a.tmps.size) && decide (sK < a.tmps.size) && decide (sA2 < a.tmps.size) && decide (sF < a.tmps.size)) = true)
    (hne : iE ≠ iK ∧ iE ≠ iA1 ∧ iK ≠ iA1)
    (r0 : Region.ready .any ops L0 = [iE, iK])
    (r1 : Region.ready .any ops (L0.setIfInBounds iE true) = [iA1, iK])
    (r2 : Region.ready .any ops ((L0.setIfInBounds iE true).setIfInBounds iA1 true) = [iK])
    (r3 : Region.ready .any ops ((L0.setIfInBounds iE true).setIfInBounds iK true) = [iA1])
    (r4 : Region.ready .any ops (L0.setIfInBounds iK true) = [iE])
    (r5 : Region.ready .any ops (((L0.setIfInBounds iE true).setIfInBounds iK true).setIfInBounds iA1 true) = [iA2])
    (r6 : Region.ready .any ops ((((L0.setIfInBounds iE true).setIfInBounds iK true).setIfInBounds iA1 true).setIfInBounds iA2 true) = [iF])
    (r7 : Region.ready .any ops (((((L0.setIfInBounds iE true).setIfInBounds iK true).setIfInBounds iA1 true).setIfInBounds iA2 true).setIfInBounds iF true) = [n])
    (r8 : Region.ready .any ops ((((((L0.setIfInBounds iE true).setIfInBounds iK true).setIfInBounds iA1 true).setIfInBounds iA2 true).setIfInBounds iF true).setIfInBounds n true) = [])
    (base : Nat) (p : Nat → Prop) (KA : Option Addr) (kc : Nat) (ks : List JM) (k : JM) (c0 c1 c2 c3 c4 c5 c6 c7 c8 : Value) (nb : Nat)
    (hL : a.eval (.tmp sL) = .slice KA ks.length kc) (hN : a.eval (.tmp sN) = .agg #[c0, c1, c2, c3, c4, c5, c6, c7, c8]) (h8 : a.eval (.tmp 7) = .pointer (some ⟨nb, 0, none⟩))
    (hS : Below B V w) (hBV : B = V.heap.size) (hbase : base ≤ B) (hks : ks.length < 1000000000)
    (hp : ∀ b, p b → b < B)
    (HCL : ∀ W, Below B V W → ElsP memE W p (.slice KA ks.length kc) ks ∧ memE.El W p k [c0, c1, c2, c3, c4, c5, c6, c7, c8] ∧ W.cell? ⟨nb, 5, none⟩ = some (.slice KA ks.length kc) ∧ W.frozen? ⟨nb, 5, none⟩ = false)
    (hQ : ∀ (eb kb2 : Nat) (v1 : Value) (g' c' : Nat) (w2 : World), B ≤ g' → ElRow memE w2 base p (.slice (some ⟨g', 0, none⟩) (ks.length + 1) c') (ks ++ [k]) → Below B V w2 →
      Q .normal (((((a.put (some sE) (.slice (some ⟨eb, 0, none⟩) 0 0)).put (some sK) (.slice (some ⟨kb2, 0, none⟩) 1 1)).put (some sA1) v1).put (some sA2) (.slice (some ⟨g', 0, none⟩) (ks.length + 1) c')).put (some sF) (.pointer (some ⟨nb, 5, none⟩))) (w2.setCell ⟨nb, 5, none⟩ (.slice (some ⟨g', 0, none⟩) (ks.length + 1) c'))) :
    RegT Tryz.prog ops Q (fun x => Below B V x) n 6 L0 a w := by
  simp only [Bool.and_eq_true, decide_eq_true_eq, List.all_cons, List.all_nil, List.nodup_cons, List.mem_cons, List.not_mem_nil, or_false, not_or, Bool.and_true] at hlt
  obtain ⟨⟨⟨⟨⟨⟨⟨lE, lA1, lK, lA2, lF⟩, ⟨dEL, dEA1, dEN, dEK, dEA2, dEF, dE8⟩, ⟨dLA1, dLN, dLK, dLA2, dLF, dL8⟩, ⟨dA1N, dA1K, dA1A2, dA1F, dA18⟩, ⟨dNK, dNA2, dNF, dN8⟩, ⟨dKA2, dKF, dK8⟩, ⟨dA2F, dA28⟩, dF8, _⟩, zE⟩, zA1⟩, zK⟩, zA2⟩, zF⟩ := hlt
  have M2 : ∀ (eb kb2 : Nat) (v1 : Value) (W : World), Below B V W → ElRow memE W base p v1 ks → (∀ b, v1.ownBlock = some b → B ≤ b) → W.rangeAt kb2 0 [c0, c1, c2, c3, c4, c5, c6, c7, c8] →
      RegT Tryz.prog ops Q (fun x => Below B V x) n 3 (((L0.setIfInBounds iE true).setIfInBounds iK true).setIfInBounds iA1 true) (((a.put (some sE) (.slice (some ⟨eb, 0, none⟩) 0 0)).put (some sK) (.slice (some ⟨kb2, 0, none⟩) 1 1)).put (some sA1) v1) W := by
    intro eb kb2 v1 W hB r1 u4 hK2
    have hz := hB.size
    refine regT_all r5 (by simp) (by simp [lA2]) ?_
    intro i hi
    obtain rfl : i = iA2 := by simpa using hi
    refine regT_op oA2 (fun K' hK => ?_)
    refine els_one_step (E := memE) memE_ok (by rfl) (.tmp sA1) (.tmp sK) (by rfl) W base p v1 ks (by rw [eval_put_same (by simpa [size_put] using zA1)]) r1 k [c0, c1, c2, c3, c4, c5, c6, c7, c8] kb2 (by rw [eval_put_ne (Ne.symm (Ne.symm dA1K)), eval_put_same (by simpa [size_put] using zK)]) hK2 (HCL _ hB).2.1 (fun b hb e => by have := hp b hb; have := u4 b e; omega) (fun b hb => by have := hp b hb; omega) (by omega) (by omega) ?_
    intro g' c' w2 z1 z2 z3 z4
    have s2 : Below B V w2 := grew_below hB z2 u4 (by omega)
    have hg8 : B ≤ g' := by
      rcases z4 with e | e
      · exact u4 _ e
      · omega
    refine hK.out _ _ ⟨s2, ?_⟩
    clear hK
    refine regT_all r6 (by simp) (by simp [lF]) ?_
    intro i hi
    obtain rfl : i = iF := by simpa using hi
    refine regT_op oF (fun K' hK => ?_)
    have e8 : (((((a.put (some sE) (.slice (some ⟨eb, 0, none⟩) 0 0)).put (some sK) (.slice (some ⟨kb2, 0, none⟩) 1 1)).put (some sA1) v1).put (some sA2) (.slice (some ⟨g', 0, none⟩) (ks.length + 1) c'))).eval (.tmp 7) = .pointer (some ⟨nb, 0, none⟩) := by
      rw [eval_put_ne dA28, eval_put_ne dA18, eval_put_ne dK8, eval_put_ne dE8, h8]
    have eA2 : (((((a.put (some sE) (.slice (some ⟨eb, 0, none⟩) 0 0)).put (some sK) (.slice (some ⟨kb2, 0, none⟩) 1 1)).put (some sA1) v1).put (some sA2) (.slice (some ⟨g', 0, none⟩) (ks.length + 1) c')).put (some sF) (.pointer (some ⟨nb, 5, none⟩))).eval (.tmp sA2) = .slice (some ⟨g', 0, none⟩) (ks.length + 1) c' := by
      rw [eval_put_ne (Ne.symm dA2F), eval_put_same (by simpa [size_put] using zA2)]
    have eF : (((((a.put (some sE) (.slice (some ⟨eb, 0, none⟩) 0 0)).put (some sK) (.slice (some ⟨kb2, 0, none⟩) 1 1)).put (some sA1) v1).put (some sA2) (.slice (some ⟨g', 0, none⟩) (ks.length + 1) c')).put (some sF) (.pointer (some ⟨nb, 5, none⟩))).eval (.tmp sF) = .pointer (some ⟨nb, 5, none⟩) := eval_put_same (by simpa [size_put] using zF)
    have hq := hQ eb kb2 v1 g' c' w2 hg8 z1 s2
    have e4 := (HCL _ s2).2.2.1
    have e5 := (HCL _ s2).2.2.2
    generalize ((((a.put (some sE) (.slice (some ⟨eb, 0, none⟩) 0 0)).put (some sK) (.slice (some ⟨kb2, 0, none⟩) 1 1)).put (some sA1) v1).put (some sA2) (.slice (some ⟨g', 0, none⟩) (ks.length + 1) c')) = a4 at *
    have e8' := eval_tmp e8
    have HQ := Lib.hid hq
    have ES := Lib.hid s2
    clear hq hQ HCL z1 z2 z3 z4 hB r1 s2 hS hp
    go_simp
    refine hK.out _ _ ⟨ES.out, ?_⟩
    clear hK
    change RegT _ _ _ _ _ _ _ (a4.put (some sF) (.pointer (some ⟨nb, 5, none⟩))) _
    refine regT_last r7 r8 ?_
    refine regT_op oS (fun K' hK => ?_)
    generalize a4.put (some sF) (.pointer (some ⟨nb, 5, none⟩)) = a5 at *
    have e2' := eval_tmp eA2
    have eF' := eval_tmp eF
    go_simp
    exact hK.out _ _ HQ.out
  have ERow : ∀ (W : World) (eb : Nat), B ≤ eb → W.heap[eb]? = some (.cells #[] 44 (0, 0)) → ElRow memE W base p (.slice (some ⟨eb, 0, none⟩) 0 0) [] := fun W eb h1 h2 => rowEE memE h2 (by omega)
  have M1 : ∀ (eb kb2 : Nat) (W : World), Below B V W → W.heap[eb]? = some (.cells #[] 44 (0, 0)) → B ≤ eb → W.rangeAt kb2 0 [c0, c1, c2, c3, c4, c5, c6, c7, c8] → kb2 ≠ eb → kb2 < W.heap.size →
      RegT Tryz.prog ops Q (fun x => Below B V x) n 4 ((L0.setIfInBounds iE true).setIfInBounds iK true) ((a.put (some sE) (.slice (some ⟨eb, 0, none⟩) 0 0)).put (some sK) (.slice (some ⟨kb2, 0, none⟩) 1 1)) W := by
    intro eb kb2 W hB hE hEb hK2 hne2 hlt2
    have hz := hB.size
    refine regT_all r3 (by simp) (by simp [lA1]) ?_
    intro i hi
    obtain rfl : i = iA1 := by simpa using hi
    refine regT_op oA1 (fun K' hK => ?_)
    refine els_all_step (E := memE) memE_ok (by rfl) (.tmp sE) (.tmp sL) (by rfl) _ base p _ [] (by rw [eval_put_ne (Ne.symm dEK), eval_put_same (by simpa [size_put] using zE)]) (ERow W eb hEb hE) KA kc ks (by rw [eval_put_ne (Ne.symm dLK), eval_put_ne dEL, hL]) (HCL _ hB).1 (fun b hb => by have := hp b hb; simp [Value.ownBlock]; omega) (fun b hb => by have := hp b hb; omega) (by omega) (by simp; omega) ?_
    intro v1 w1 q1 q2 q3 q4
    have s1 : Below B V w1 := grew_below hB q2 (fun b hb => by simp [Value.ownBlock] at hb; omega) (by omega)
    have hz1 := s1.size
    rw [List.nil_append] at q1
    refine hK.out _ _ ⟨s1, ?_⟩
    refine M2 eb kb2 v1 w1 s1 q1 (fun b hb => ?_) (rangeAt_keep hK2 (q2.grown.block kb2 hlt2 (by simp [Value.ownBlock]; omega)))
    rcases q4 with e | e <;> (rw [e] at hb; simp [Value.ownBlock] at hb; omega)
  have hBw : B ≤ w.heap.size := by rw [hBV]; exact hS.size
  refine regT_all r0 (by simp) (by simp [lE, lK]) ?_
  intro i hi
  have hi' : i = iE ∨ i = iK := by simpa using hi
  clear hi
  have HQ := Lib.hid hQ
  have HC := Lib.hid HCL
  have HM1 := Lib.hid M1
  have HM2 := Lib.hid M2
  clear hQ HCL M1 M2
  rcases hi' with rfl | rfl
  · refine regT_op oE (fun K' hK => ?_)
    go_simp
    refine hK.out _ _ ⟨hS.alloc hBw _, ?_⟩
    clear hK
    change RegT _ _ _ _ _ _ _ (a.put (some sE) (.slice (some ⟨w.heap.size, 0, none⟩) 0 0)) _
    have hB := hS.alloc hBw (.cells #[] 44)
    have hE : (w.alloc (.cells #[] 44)).heap[w.heap.size]? = some (.cells #[] 44 (0, 0)) := heap_alloc_new w _
    have hZ : w.heap.size < (w.alloc (.cells #[] 44)).heap.size := by simp
    generalize w.alloc (.cells #[] 44) = W at *
    generalize w.heap.size = eb at *
    have hz := hB.size
    refine regT_all r1 (by simp) (by simp [lA1, lK]) ?_
    intro i hi
    have hi' : i = iA1 ∨ i = iK := by simpa using hi
    clear hi
    rcases hi' with rfl | rfl
    · refine regT_op oA1 (fun K' hK => ?_)
      refine els_all_step (E := memE) memE_ok (by rfl) (.tmp sE) (.tmp sL) (by rfl) _ base p _ [] (by rw [eval_put_same zE]) (ERow W eb hBw hE) KA kc ks (by rw [eval_put_ne dEL, hL]) (HC.out _ hB).1 (fun b hb => by have := hp b hb; simp [Value.ownBlock]; omega) (fun b hb => by have := hp b hb; omega) (by omega) (by simp; omega) ?_
      intro v1 w1 q1 q2 q3 q4
      have s1 : Below B V w1 := grew_below hB q2 (fun b hb => by simp [Value.ownBlock] at hb; omega) (by omega)
      have hz1 := s1.size
      rw [List.nil_append] at q1
      have u4 : ∀ b, v1.ownBlock = some b → B ≤ b := by
        intro b hb
        rcases q4 with e | e <;> (rw [e] at hb; simp [Value.ownBlock] at hb; omega)
      refine hK.out _ _ ⟨s1, ?_⟩
      clear hK
      refine regT_all r2 (by simp) (by simp [lK]) ?_
      intro i hi
      obtain rfl : i = iK := by simpa using hi
      refine regT_op oK (fun K' hK => ?_)
      have hN' := eval_tmp (a := (a.put (some sE) (.slice (some ⟨eb, 0, none⟩) 0 0)).put (some sA1) v1) (by rw [eval_put_ne dA1N, eval_put_ne dEN, hN])
      have hZZ := HM2.out eb w1.heap.size v1 (w1.alloc (.cells #[c0, c1, c2, c3, c4, c5, c6, c7, c8] 44)) (s1.alloc (by omega) _) (q1.below memE_ok ((Below.refl _ _).alloc (Nat.le_refl _) _) (fun b hb => by have := hp b hb; omega)) u4 (range_atE (heap_alloc_new _ _))
      rw [Act.put_comm _ _ _ (fun d hd e => by cases hd; cases e; exact dA1K rfl), Array.setIfInBounds_comm _ _ hne.2.2] at hZZ
      have HZ := Lib.hid hZZ
      generalize (a.put (some sE) (.slice (some ⟨eb, 0, none⟩) 0 0)).put (some sA1) v1 = a4 at *
      go_simp
      refine hK.out _ _ ⟨s1.alloc (by omega) _, HZ.out⟩
    · refine regT_op oK (fun K' hK => ?_)
      have hN' := eval_tmp (a := a.put (some sE) (.slice (some ⟨eb, 0, none⟩) 0 0)) (by rw [eval_put_ne dEN, hN])
      have hZZ := HM1.out eb W.heap.size (W.alloc (.cells #[c0, c1, c2, c3, c4, c5, c6, c7, c8] 44)) (hB.alloc (by omega) _) (alloc_old hE) hBw (range_atE (heap_alloc_new _ _)) (by omega) (by simp)
      have HZ := Lib.hid hZZ
      generalize a.put (some sE) (.slice (some ⟨eb, 0, none⟩) 0 0) = a4 at *
      go_simp
      refine hK.out _ _ ⟨hB.alloc (by omega) _, HZ.out⟩
  · refine regT_op oK (fun K' hK => ?_)
    have hN' := eval_tmp hN
    go_simp
    refine hK.out _ _ ⟨hS.alloc hBw _, ?_⟩
    clear hK
    change RegT _ _ _ _ _ _ _ (a.put (some sK) (.slice (some ⟨w.heap.size, 0, none⟩) 1 1)) _
    have hB := hS.alloc hBw (.cells #[c0, c1, c2, c3, c4, c5, c6, c7, c8] 44)
    have hK1 : (w.alloc (.cells #[c0, c1, c2, c3, c4, c5, c6, c7, c8] 44)).rangeAt w.heap.size 0 [c0, c1, c2, c3, c4, c5, c6, c7, c8] := range_atE (heap_alloc_new w _)
    have hZ : w.heap.size < (w.alloc (.cells #[c0, c1, c2, c3, c4, c5, c6, c7, c8] 44)).heap.size := by simp
    generalize w.alloc (.cells #[c0, c1, c2, c3, c4, c5, c6, c7, c8] 44) = W at *
    generalize w.heap.size = kb at *
    have hz := hB.size
    refine regT_all r4 (by simp) (by simp [lE]) ?_
    intro i hi
    obtain rfl : i = iE := by simpa using hi
    refine regT_op oE (fun K' hK => ?_)
    have hZZ := HM1.out W.heap.size kb (W.alloc (.cells #[] 44)) (hB.alloc (by omega) _) (alloc_at rfl) (by omega) (rangeAt_keep hK1 (Below.heap_alloc _ _ _ (by omega))) (by omega) (by simp; omega)
    rw [Act.put_comm _ _ _ (fun d hd e => by cases hd; cases e; exact dEK rfl), Array.setIfInBounds_comm _ _ hne.1] at hZZ
    have HZ := Lib.hid hZZ
    generalize a.put (some sK) (.slice (some ⟨kb, 0, none⟩) 1 1) = a4 at *
    go_simp
    refine hK.out _ _ ⟨hB.alloc (by omega) _, HZ.out⟩
end Go.Proofs.YthlppbpccldikaaGreatDoor
set_option linter.unusedVariables false
namespace Go.Proofs.YthlppbpccldikaaGreatDoor
open Go.RowKit

theorem run_run (p : UInt8 → Bool) : ∀ x : Bytes, run p (x.drop (run p x)) = 0
  | [] => rfl
  | c :: x => by
    by_cases h : p c = true
    · rw [run, if_pos h, List.drop_succ_cons, run_run p x]
    · rw [run, if_neg h, List.drop_zero, run, if_neg h]
theorem spEnd_idemR (l : Bytes) (n : Nat) : spEnd l (spEnd l n) = spEnd l n := by
  have h := run_run isSp (l.drop n)
  rw [List.drop_drop] at h
  unfold spEnd
  rw [h, Nat.add_zero]
theorem pvV_sp (l : Bytes) (f d n : Nat) : pvV l f d (spEnd l n) = pvV l f d n := by
  cases f with
  | zero => rw [pvV, pvV]
  | succ f => rw [pvV, pvV, spEnd_idemR l n]
theorem wp_load_res {ops : Array Oper} {rest : List Oper} {o : Oper} {a : Act} {w : World} {Q : Exit → Act → World → Prop} (hgd : o.guard = none) (x : Operand) (ho : o.op = .load 56 x)
    (b off : Nat) (hx : a.eval x = .pointer (some ⟨b, off, none⟩)) (cs : List Value) (hl : cs.length = 9) (hr : w.rangeAt b off cs)
    (h : wpList Tryz.prog ops Q rest (a.put o.dst (.agg cs.toArray)) w) : wpList Tryz.prog ops Q (o :: rest) a w :=
  wpList_load_mid hgd 56 x ho b off hx cs _ hr Tryz.underlying56 rfl (by rw [hl]; exact resSize) h
/-- What list makes of its items. -/
def itR (a : Nat) : Except (Nat × Nat) (List JV × Nat) → Except (Nat × Nat) (JV × Nat)
  | .error q => .error q
  | .ok (its, e) => .ok (.mk 4 false 0 [] its [] a, e)
def meR (a : Nat) : Except (Nat × Nat) (List JM × Nat) → Except (Nat × Nat) (JV × Nat)
  | .error q => .error q
  | .ok (ms, e) => .ok (.mk 5 false 0 [] [] ms a, e)
def listI (l : Bytes) (f d a : Nat) : Except (Nat × Nat) (JV × Nat) :=
  if hasAt l (spEnd l (a + 1)) [93] = true then .ok (.mk 4 false 0 [] [] [] a, spEnd l (a + 1) + 1) else itR a (pvI l f d (spEnd l (a + 1)) [])
def listM (l : Bytes) (f d a : Nat) : Except (Nat × Nat) (JV × Nat) :=
  if hasAt l (spEnd l (a + 1)) [125] = true then .ok (.mk 5 false 0 [] [] [] a, spEnd l (a + 1) + 1) else meR a (pvM l f d (spEnd l (a + 1)) [])
/-- The cells of list's value. -/
abbrev lstC (k : Int) (I : Option Addr) (i c : Nat) (M : Option Addr) (m d : Nat) (a : Nat) : Array Value := #[.int .i64 k, .bool false, .int .i64 0, .string ByteArray.empty, .slice I i c, .slice M m d, .int .i64 a]
/-- Where list stands in its loop. -/
structure LoI (l : Bytes) (d a : Nat) (w : World) (K : Except (Nat × Nat) (List JV × Nat)) (gf n : Nat) (its : List JV) (I : Option Addr) (ic : Nat) (wr : World) : Prop where
  kid : pvI l gf d n its = K
  row : ElsP valE wr (fun b => w.heap.size + 2 ≤ b ∧ b < wr.heap.size) (.slice I its.length ic) its
  res : wr.heap[w.heap.size]? = some (.cells zRes 56 (0, 0))
  val : wr.heap[w.heap.size + 1]? = some (.cells (lstC 4 I its.length ic none 0 0 a) 26 (0, 0))
  bel : Below w.heap.size w wr
  len : its.length ≤ n
def ValOk (l : Bytes) (g : Nat) : Prop := ∀ (d n : Nat) (w : World), n ≤ l.length → 2 * (l.length - n) + 1 ≤ g → d ≤ 101 →
  Calls Tryz.prog 24 #[.string (S l), .int .i64 n, .int .i64 d] w fun e w' => ResR w' (fun b => w.heap.size ≤ b ∧ b < w'.heap.size) (pvV l g d n) e ∧ Below w.heap.size w w'
set_option maxHeartbeats 8000000 in
set_option maxRecDepth 100000 in
theorem refListI11_any (l : Bytes) (hl : l.length ≤ 1000000) (f : Nat) (ih : ∀ g < f, ValOk l g) (d a : Nat) (w : World) (ha : a < l.length) (h91 : l[a] = 91) (hd : d ≤ 100) (hf : 2 * (l.length - spEnd l (a + 1)) + 2 ≤ f) :
    Calls Tryz.prog 55 #[.string (S l), .int .i64 a, .int .i64 d] w fun e w' => ResR w' (fun b => w.heap.size ≤ b ∧ b < w'.heap.size) (listI l f d a) e ∧ Below w.heap.size w w' := by
  have HIH := Lib.hid ih
  have t91 : ((l[a].toNat : Int) == 123) = false := by rw [h91]; rfl
  have HW := Lib.hid fun a W => refWrong11_any l a W hl
  have hs0 : ∀ W, Calls Tryz.prog 25 #[.string (S l), .int .i64 ((a : Int) + 1)] W fun e w' => e = .returned (.int .i64 (spEnd l (a + 1))) ∧ W = w' := fun W => by
    have := refSpaces11_any l (a + 1) W (by omega) (by omega)
    rw [Int.natCast_add] at this
    exact this
  have hz1 := spEnd_ge l (a + 1)
  have hz2 := spEnd_le (l := l) (n := a + 1) (by omega)
  unfold listI
  generalize spEnd l (a + 1) = z at *
  have hh : ∀ W, Calls Tryz.prog 23 #[.string (S l), .int .i64 z, .string ⟨#[93]⟩] W fun e w' => e = .returned (.bool (hasAt l z [93])) ∧ W = w' := fun W => refHas_any l z [93] W (by omega) (by omega) (by simp) (by simp)
  have HS0 := Lib.hid hs0
  have B1 := (Below.refl w.heap.size w).alloc (Nat.le_refl _) (.cells zRes 56)
  have B2 := B1.alloc (by simp) (.cells (lstC 4 none 0 0 none 0 0 a) 26)
  have r0 : ((w.alloc (.cells zRes 56)).alloc (.cells (lstC 4 none 0 0 none 0 0 a) 26)).heap[w.heap.size]? = some (.cells zRes 56 (0, 0)) := alloc_old (heap_alloc_new w _)
  have v0 : ((w.alloc (.cells zRes 56)).alloc (.cells (lstC 4 none 0 0 none 0 0 a) 26)).heap[w.heap.size + 1]? = some (.cells (lstC 4 none 0 0 none 0 0 a) 26 (0, 0)) := alloc_at (by simp)
  have HB2 := Lib.hid B2
  have HR0 := Lib.hid r0
  have HV0 := Lib.hid v0
  clear hs0 ih h91 B1 B2 r0 v0
  cases hc : hasAt l z [93] with
  | true =>
    rw [if_pos rfl]
    rw [hc] at hh
    have HH := Lib.hid hh
    clear hc hh
    go_enter Tryz.func55, Tryz.ntmps55
    go_wp2_with (first
      | (go_at_call 25; refine (HS0.out _).mono ?_; rintro e w2 ⟨rfl, rfl⟩)
      | (go_at_call 23; refine (HH.out _).mono ?_; rintro e w2 ⟨rfl, rfl⟩))
    refine bodyPost_ret (v := .agg _) (res_whole Tryz.results55 _ _ w.heap.size rfl 56 _ (alloc_old (heap_alloc_new w _)) Tryz.underlying56 rfl resSize) rfl ⟨⟨none, 0, none, 0, ?_, ElsP.nil _ _ _, ElsP.nil _ _ _⟩, ?_⟩
    · show _ = Ending.returned (.agg #[.int .i64 4, .bool false, .int .i64 0, .string (S []), .slice none 0 0, .slice none 0 0, .int .i64 a, .int .i64 ((z + 1 : Nat) : Int), .int .i64 0])
      rw [Int.natCast_add]
      rfl
    · exact ((Below.refl w.heap.size w).alloc (Nat.le_refl _) _).alloc (by simp) _
  | false =>
    rw [if_neg (by decide)]
    rw [hc] at hh
    have HH := Lib.hid hh
    clear hc hh
    obtain ⟨K, hK⟩ : ∃ K, pvI l f d z [] = K := ⟨_, rfl⟩
    rw [hK]
    have HL := Lib.hid (⟨hK, ElsP.nil _ _ _, HR0.out, HV0.out, HB2.out, Nat.zero_le _⟩ : LoI l d a w K f z [] none 0 _)
    clear hK
    go_enter Tryz.func55, Tryz.ntmps55
    go_wp2_with (first
      | (go_at_call 25; refine (HS0.out _).mono ?_; rintro e w2 ⟨rfl, rfl⟩)
      | (go_at_call 23; refine (HH.out _).mono ?_; rintro e w2 ⟨rfl, rfl⟩))
    go_loopg [9] f (fun gf n9 wr => ∃ (n : Nat) (its : List JV) (I : Option Addr) (ic : Nat), n ≤ l.length ∧ n9 = .int .i64 n ∧ gf ≤ f ∧ 2 * (l.length - n) + 2 ≤ gf ∧ LoI l d a w K gf n its I ic wr)
    case atStart => exact ⟨z, [], none, 0, by omega, rfl, Nat.le_refl _, hf, HL.out⟩
    case round =>
      obtain ⟨n, its, I, ic, hnl, rfl, hgk, hgk2, hlo⟩ := hrel
      have HLO := Lib.hid hlo
      have hkid := hlo.kid
      obtain ⟨g', rfl⟩ : ∃ g, gk = g + 1 := ⟨gk - 1, by omega⟩
      rw [pvI] at hkid
      have hwz : w.heap.size + 1 < wr.heap.size := heap_lt hlo.val
      have hy1 := spEnd_ge l n
      have hy2 := spEnd_le (l := l) (n := n) hnl
      have hsn := fun W => refSpaces11_any l n W (by omega) hnl
      have hpsp := pvV_sp l g' (d + 1) n
      generalize spEnd l n = y at *
      have hcall := HIH.out g' (by omega) (d + 1) y wr hy2 (by omega) (by omega)
      rw [hpsp, Int.natCast_add] at hcall
      obtain ⟨v0, v1, v2, v3, v4, v5, v6⟩ := cells7 hlo.val
      have HSN := Lib.hid hsn
      clear hsn hpsp HL HH HB2 HR0 HV0 HS0
      cases hpv : pvV l g' (d + 1) n with
      | error q =>
        have hq := (pvV_err hnl (by omega) hpv).2
        rw [hpv] at hcall hkid
        simp only at hkid
        have HC := Lib.hid hcall
        have HK := Lib.hid hkid
        have t0 : ((q.2 : Int) != 0) = true := by rw [bne_iff_ne]; omega
        clear hq hcall hkid hpv hlo
        go_wp2_with (first
          | (go_at_call 25; refine (HSN.out _).mono ?_; rintro e w2 ⟨rfl, rfl⟩)
          | (go_at_call 24; refine HC.out.mono ?_; rintro e w2 ⟨rfl, hb2⟩; have hx2 := heap_alloc_new w2 (.cells (errC q) 56); obtain ⟨_, _, _, _, _, _, _, c7, c8⟩ := cells9 hx2; have hb3 := HLO.out.bel.trans (hb2.mono (by omega)); have hv2 := hb2.size; have hres3 := ((hb2.alloc hv2 (.cells (errC q) 56)).block w.heap.size (by omega)).trans HLO.out.res; have hra := range_of_heap (cs := [.int .i64 0, .bool false, .int .i64 0, .string ByteArray.empty, .slice none 0 0, .slice none 0 0, .int .i64 0, .int .i64 q.1, .int .i64 q.2]) hx2)
          | (with_reducible refine gate ?_; refine wp_load_res rfl _ rfl w2.heap.size 0 rfl _ rfl hra ?_)
          | (with_reducible refine gate ?_; refine wp_store_res rfl _ _ rfl w.heap.size _ _ _ _ _ _ _ _ _ _ _ _ _ _ rfl rfl hres3 zRes_size ?_; intro w3 hx3 hu3))
        refine bodyPost_ret (v := .agg _) (res_whole Tryz.results55 _ _ w.heap.size rfl 56 _ hx3 Tryz.underlying56 rfl resSize) rfl ⟨?_, ?_⟩
        · rw [← HK.out]; rfl
        · exact (hb3.alloc (by omega) _).trans (hu3.below (Nat.le_refl _) (by simp; omega))
      | ok p =>
        obtain ⟨v, e⟩ := p
        have hve := pvV_ok hnl hpv
        rw [hpv] at hcall hkid
        simp only at hkid
        have hse := fun W => refSpaces11_any l e W (by omega) hve.2
        have hz3 := spEnd_ge l e
        have hz4 := spEnd_le (l := l) (n := e) hve.2
        obtain ⟨x, hx⟩ : ∃ x, spEnd l e = x := ⟨_, rfl⟩
        rw [hx] at hse hz3 hz4 hkid
        have hhA : ∀ W, Calls Tryz.prog 23 #[.string (S l), .int .i64 x, .string ⟨#[93]⟩] W fun e w' => e = .returned (.bool (hasAt l x [93])) ∧ W = w' := fun W => refHas_any l x [93] W (by omega) (by omega) (by simp) (by simp)
        have hhC : ∀ W, Calls Tryz.prog 23 #[.string (S l), .int .i64 x, .string ⟨#[44]⟩] W fun e w' => e = .returned (.bool (hasAt l x [44])) ∧ W = w' := fun W => refHas_any l x [44] W (by omega) (by omega) (by simp) (by simp)
        have hits := hlo.len
        have hks9 : its.length < 1000000000 := by omega
        have HC := Lib.hid hcall
        have HKD := Lib.hid hkid
        have HSE := Lib.hid hse
        have HHA := Lib.hid hhA
        have HHC := Lib.hid hhC
        clear hcall hkid hpv hx hse hhA hhC hlo
        go_wp2_with (first
          | (go_at_call 25; refine (HSN.out _).mono ?_; rintro e1 w2 ⟨rfl, rfl⟩)
          | (go_at_call 24; refine HC.out.mono ?_; rintro e1 w2 ⟨⟨IA, ic', MA, mc', rfl, hI', hM'⟩, hb2⟩; have hx2 := heap_alloc_new w2 (.cells #[.int .i64 v.kind, .bool v.b, .int .i64 v.n, .string (S v.s), .slice IA v.items.length ic', .slice MA v.mems.length mc', .int .i64 v.pos, .int .i64 e, .int .i64 0] 56); obtain ⟨_, _, _, _, _, _, _, c7, c8⟩ := cells9 hx2; have hv2 := hb2.size; have hval3 := ((hb2.alloc hv2 (.cells #[.int .i64 v.kind, .bool v.b, .int .i64 v.n, .string (S v.s), .slice IA v.items.length ic', .slice MA v.mems.length mc', .int .i64 v.pos, .int .i64 e, .int .i64 0] 56)).block (w.heap.size + 1) (by omega)).trans HLO.out.val; obtain ⟨k0, _⟩ := cells7 hval3))
        have hal : Below w2.heap.size w2 (w2.alloc (.cells #[.int .i64 v.kind, .bool v.b, .int .i64 v.n, .string (S v.s), .slice IA v.items.length ic', .slice MA v.mems.length mc', .int .i64 v.pos, .int .i64 e, .int .i64 0] 56)) := (Below.refl _ _).alloc (Nat.le_refl _) _
        have hbel : Below w.heap.size w (w2.alloc (.cells #[.int .i64 v.kind, .bool v.b, .int .i64 v.n, .string (S v.s), .slice IA v.items.length ic', .slice MA v.mems.length mc', .int .i64 v.pos, .int .i64 e, .int .i64 0] 56)) := (HLO.out.bel.trans (hb2.mono (by omega))).alloc (by have := HLO.out.bel.size; omega) _
        have hres3 := ((hb2.alloc hv2 (.cells #[.int .i64 v.kind, .bool v.b, .int .i64 v.n, .string (S v.s), .slice IA v.items.length ic', .slice MA v.mems.length mc', .int .i64 v.pos, .int .i64 e, .int .i64 0] 56)).block w.heap.size (by omega)).trans HLO.out.res
        have hV : (w2.alloc (.cells #[.int .i64 v.kind, .bool v.b, .int .i64 v.n, .string (S v.s), .slice IA v.items.length ic', .slice MA v.mems.length mc', .int .i64 v.pos, .int .i64 e, .int .i64 0] 56)).heap.size = w2.heap.size + 1 := by simp
        have hrow7 : ElsP valE (w2.alloc (.cells #[.int .i64 v.kind, .bool v.b, .int .i64 v.n, .string (S v.s), .slice IA v.items.length ic', .slice MA v.mems.length mc', .int .i64 v.pos, .int .i64 e, .int .i64 0] 56)) (fun b => w.heap.size + 2 ≤ b ∧ b < w2.heap.size) (.slice I its.length ic) its := HLO.out.row.keep valE_ok (fun k hk => (hb2.alloc hv2 (.cells #[.int .i64 v.kind, .bool v.b, .int .i64 v.n, .string (S v.s), .slice IA v.items.length ic', .slice MA v.mems.length mc', .int .i64 v.pos, .int .i64 e, .int .i64 0] 56)).block k hk.2) (fun k hk => ⟨hk.1, by omega⟩)
        have hvP : ValP (w2.alloc (.cells #[.int .i64 v.kind, .bool v.b, .int .i64 v.n, .string (S v.s), .slice IA v.items.length ic', .slice MA v.mems.length mc', .int .i64 v.pos, .int .i64 e, .int .i64 0] 56)) (fun b => w.heap.size + 2 ≤ b ∧ b < w2.heap.size) v [.int .i64 v.kind, .bool v.b, .int .i64 v.n, .string (S v.s), .slice IA v.items.length ic', .slice MA v.mems.length mc', .int .i64 v.pos] := ValP.of_open (hI'.keep valE_ok (fun k hk => hal.block k hk.2) (fun k hk => ⟨by omega, hk.2⟩)) (hM'.keep memE_ok (fun k hk => hal.block k hk.2) (fun k hk => ⟨by omega, hk.2⟩))
        clear k0 c7 c8 hal hI' hM' hb2 v0 v1 v2 v3 v4 v5 v6
        generalize (w2.alloc (.cells #[.int .i64 v.kind, .bool v.b, .int .i64 v.n, .string (S v.s), .slice IA v.items.length ic', .slice MA v.mems.length mc', .int .i64 v.pos, .int .i64 e, .int .i64 0] 56)) = V7 at *
        generalize w2.heap.size = kb at *
        have g1 : w.heap.size + 1 < V7.heap.size := by omega
        have g2 : kb < V7.heap.size := by omega
        have g3 : w.heap.size + 1 < kb := by omega
        have HCL : Hid (∀ W, Below V7.heap.size V7 W → ElsP valE W (fun b => w.heap.size + 2 ≤ b ∧ b < kb) (.slice I its.length ic) its ∧ ValP W (fun b => w.heap.size + 2 ≤ b ∧ b < kb) v [.int .i64 v.kind, .bool v.b, .int .i64 v.n, .string (S v.s), .slice IA v.items.length ic', .slice MA v.mems.length mc', .int .i64 v.pos] ∧ W.heap[w.heap.size + 1]? = some (.cells (lstC 4 I its.length ic none 0 0 a) 26 (0, 0)) ∧ W.heap[kb]? = some (.cells #[.int .i64 v.kind, .bool v.b, .int .i64 v.n, .string (S v.s), .slice IA v.items.length ic', .slice MA v.mems.length mc', .int .i64 v.pos, .int .i64 e, .int .i64 0] 56 (0, 0))) :=
          fun W hW => ⟨hrow7.keep valE_ok (fun k hk => hW.block k (by omega)) (fun _ h => h), ValP.keep (fun b hb => hW.block b (by omega)) (fun _ h => h) v _ hvP, (hW.block _ g1).trans hval3, (hW.block _ g2).trans hx2⟩
        have HPLT : Hid (∀ b, (fun b => w.heap.size + 2 ≤ b ∧ b < kb) b → b < V7.heap.size) := fun b hb => by omega
        have HV := Lib.hid hV
        have HBEL := Lib.hid hbel
        have HRES := Lib.hid hres3
        clear hrow7 hvP hval3 hx2 hV HC HLO hbel hres3 hv2
        obtain ⟨B7, hB7⟩ : ∃ B, B = V7.heap.size := ⟨_, rfl⟩
        rw [← hB7] at HCL HPLT
        have HB7 := Lib.hid hB7
        have hz7 : B7 ≤ V7.heap.size := by omega
        have hz8 : V7.heap.size ≤ B7 := by omega
        clear hB7
        refine regT_start (n := 9) (S := fun x => Below B7 V7 x) (by kernel_rfl) (by decide) ((Below.refl _ _).drew) (fun hSw => ?_)
        change RegT _ _ _ _ _ 10 #[false, false, false, false, false, false, false, false, false, false] _ _
        refine regT_take (i := 1) (oi := ⟨some 78, _, _, _, _, _⟩) (v := ?_) rfl (by kernel_rfl) (by kernel_rfl) (by kernel_rfl) (by kernel_rfl) (fun _ _ _ h => h) (Or.inl ⟨by rfl, ?_⟩) (by assumption) ?_
        rotate_left
        · intro x hx
          (go_simp; try with_reducible rfl)
        simp only [Act.put, List.setIfInBounds_toArray, List.set_cons_zero, List.set_cons_succ]
        change RegT _ _ _ _ _ 9 #[false, true, false, false, false, false, false, false, false, false] _ _
        refine regT_take (i := 2) (oi := ⟨some 79, _, _, _, _, _⟩) (v := ?_) rfl (by kernel_rfl) (by kernel_rfl) (by kernel_rfl) (by kernel_rfl) (fun _ _ _ h => h) (Or.inl ⟨by rfl, ?_⟩) (by assumption) ?_
        rotate_left
        · intro x hx
          have hx4 : x.cell? ⟨w.heap.size + 1, 4, none⟩ = some (.slice I its.length ic) := by rw [Lib.cell_of_heap (HCL.out x hx).2.2.1]; rfl
          (go_simp; try with_reducible rfl)
        simp only [Act.put, List.setIfInBounds_toArray, List.set_cons_zero, List.set_cons_succ]
        change RegT _ _ _ _ _ 8 #[false, true, true, false, false, false, false, false, false, false] _ _
        refine regT_take (i := 4) (oi := ⟨some 81, _, _, _, _, _⟩) (v := ?_) rfl (by kernel_rfl) (by kernel_rfl) (by kernel_rfl) (by kernel_rfl) (fun _ _ _ h => h) (Or.inl ⟨by rfl, ?_⟩) (by assumption) ?_
        rotate_left
        · intro x hx
          (go_simp; try with_reducible rfl)
        simp only [Act.put, List.setIfInBounds_toArray, List.set_cons_zero, List.set_cons_succ]
        change RegT _ _ _ _ _ 7 #[false, true, true, false, true, false, false, false, false, false] _ _
        refine regT_take (i := 5) (oi := ⟨some 82, _, _, _, _, _⟩) (v := ?_) rfl (by kernel_rfl) (by kernel_rfl) (by kernel_rfl) (by kernel_rfl) (fun _ _ _ h => h) (Or.inl ⟨by rfl, ?_⟩) (by assumption) ?_
        rotate_left
        · intro x hx
          obtain ⟨c0, c1, c2, c3, c4, c5, c6, _, _⟩ := cells9 (HCL.out x hx).2.2.2
          (go_simp; try with_reducible rfl)
        simp only [Act.put, List.setIfInBounds_toArray, List.set_cons_zero, List.set_cons_succ]
        change RegT _ _ _ _ _ 6 #[false, true, true, false, true, true, false, false, false, false] _ _
        refine region_appV (n := 9) 0 3 6 7 8 rfl rfl rfl rfl rfl rfl (by kernel_rfl) (by decide) (by kernel_rfl) (by kernel_rfl) (by kernel_rfl) (by kernel_rfl) (by kernel_rfl) (by kernel_rfl) (by kernel_rfl) (by kernel_rfl) (by kernel_rfl) (w.heap.size + 2) (fun b => w.heap.size + 2 ≤ b ∧ b < kb) I ic its v _ _ _ _ _ _ _ (w.heap.size + 1) (by rfl) (by rfl) (by rfl) hSw HB7.out (by omega) hks9 HPLT.out (fun W hW => ⟨(HCL.out W hW).1, (HCL.out W hW).2.1, (Lib.cell_of_heap (HCL.out W hW).2.2.1 4).trans rfl, Lib.frozen_of_heap (HCL.out W hW).2.2.1 4⟩) (fun eb kb2 u1 h' c' w8 hg8 z1 s2 => ?_)
        simp only [Act.put, List.setIfInBounds_toArray, List.set_cons_zero, List.set_cons_succ]
        have hsz8 := s2.size
        have hlt8 := z1.lt h' rfl
        obtain ⟨hr8, hv8, hval8, hbox8⟩ := HCL.out _ s2
        have hset : ∀ b, b ≠ w.heap.size + 1 → (w8.setCell ⟨w.heap.size + 1, 4, none⟩ (.slice (some ⟨h', 0, none⟩) (its.length + 1) c')).heap[b]? = w8.heap[b]? := fun b hb => Below.heap_setCell _ _ _ _ hb
        have hss : (w8.setCell ⟨w.heap.size + 1, 4, none⟩ (.slice (some ⟨h', 0, none⟩) (its.length + 1) c')).heap.size = w8.heap.size := by simp [World.setCell]
        have hval9 := heap_set (i := 4) hval8 (.slice (some ⟨h', 0, none⟩) (its.length + 1) c')
        have hbox9 := (hset kb (by omega)).trans hbox8
        have hres9 := (hset w.heap.size (by omega)).trans ((s2.block w.heap.size (by omega)).trans HRES.out)
        have hlen9 : (its ++ [v]).length = its.length + 1 := by simp
        have hrow9 : ElsP valE (w8.setCell ⟨w.heap.size + 1, 4, none⟩ (.slice (some ⟨h', 0, none⟩) (its.length + 1) c')) (fun b => w.heap.size + 2 ≤ b ∧ b < (w8.setCell ⟨w.heap.size + 1, 4, none⟩ (.slice (some ⟨h', 0, none⟩) (its.length + 1) c')).heap.size) (.slice (some ⟨h', 0, none⟩) (its.length + 1) c') (its ++ [v]) :=
          (z1.elsP valE_ok (p' := fun b => w.heap.size + 2 ≤ b ∧ b < w8.heap.size) (fun k hk => ⟨hk.1, by omega⟩) (fun k hk => ⟨by have := z1.lt k hk; omega, by have := z1.lt k hk; omega⟩)).keep valE_ok (fun k hk => hset k (by omega)) (fun k hk => ⟨hk.1, by omega⟩)
        have hbel9 : Below w.heap.size w (w8.setCell ⟨w.heap.size + 1, 4, none⟩ (.slice (some ⟨h', 0, none⟩) (its.length + 1) c')) :=
          ⟨s2.os.trans HBEL.out.os, s2.tape.trans HBEL.out.tape, s2.output.trans HBEL.out.output, by have := HBEL.out.size; omega, fun b hb => (hset b (by omega)).trans ((s2.block b (by omega)).trans (HBEL.out.block b hb))⟩
        clear hr8 hv8 hval8 hbox8 hset z1 s2 HCL HPLT HBEL HRES hlt8
        generalize (w8.setCell ⟨w.heap.size + 1, 4, none⟩ (.slice (some ⟨h', 0, none⟩) (its.length + 1) c')) = W9 at *
        have hz9 : w.heap.size + 1 < W9.heap.size := heap_lt hval9
        have hval9' : W9.heap[w.heap.size + 1]? = some (.cells (lstC 4 (some ⟨h', 0, none⟩) (its.length + 1) c' none 0 0 a) 26 (0, 0)) := hval9
        obtain ⟨k0, _⟩ := cells7 hval9'
        obtain ⟨_, _, _, _, _, _, _, b7, b8⟩ := cells9 hbox9
        have HROW := Lib.hid hrow9
        have HBEL := Lib.hid hbel9
        have HRES := Lib.hid hres9
        have HVAL := Lib.hid hval9'
        clear hrow9 hbel9 hres9 hval9 hval9' hbox9 hss
        cases hA : hasAt l x [93] with
        | true =>
          have hkd := HKD.out
          have hha := HHA.out
          rw [hA, if_pos rfl] at hkd
          rw [hA] at hha
          have HKE := Lib.hid hkd
          have HA := Lib.hid hha
          have hra := range_of_heap (cs := [.int .i64 4, .bool false, .int .i64 0, .string ByteArray.empty, .slice (some ⟨h', 0, none⟩) (its.length + 1) c', .slice none 0 0, .int .i64 a]) HVAL.out
          have HRA := Lib.hid hra
          clear hkd hha hA hra HKD HHA HHC hlen9
          go_wp2_with (first
            | (go_at_call 25; refine (HSE.out _).mono ?_; rintro e1 w2 ⟨rfl, rfl⟩)
            | (go_at_call 23; refine (HA.out _).mono ?_; rintro e1 w2 ⟨rfl, rfl⟩)
            | (with_reducible refine gate ?_; refine wp_load_val rfl _ rfl (w.heap.size + 1) 0 rfl _ rfl HRA.out ?_)
            | (with_reducible refine gate ?_; refine wp_store_res rfl _ _ rfl w.heap.size _ _ _ _ _ _ _ _ _ _ _ _ _ _ rfl rfl HRES.out zRes_size ?_; intro w3 hx3 hu3))
          refine bodyPost_ret (v := .agg _) (res_whole Tryz.results55 _ _ w.heap.size rfl 56 _ hx3 Tryz.underlying56 rfl resSize) rfl ⟨?_, ?_⟩
          · rw [← HKE.out]
            refine ⟨some ⟨h', 0, none⟩, c', none, 0, ?_, ?_, ElsP.nil _ _ _⟩
            · show _ = Ending.returned (.agg #[.int .i64 4, .bool false, .int .i64 0, .string (S []), .slice (some ⟨h', 0, none⟩) (its ++ [v]).length c', .slice none 0 0, .int .i64 a, .int .i64 ((x + 1 : Nat) : Int), .int .i64 0])
              rw [Int.natCast_add, show (its ++ [v]).length = its.length + 1 by simp]
              rfl
            · show ElsP valE w3 _ (.slice (some ⟨h', 0, none⟩) (its ++ [v]).length c') (its ++ [v])
              rw [show (its ++ [v]).length = its.length + 1 by simp]
              exact HROW.out.keep valE_ok (fun k hk => hu3.block k hk.2 (by omega)) (fun k hk => ⟨by omega, by have := hu3.size; omega⟩)
          · exact HBEL.out.trans (hu3.below (Nat.le_refl _) (by omega))
        | false =>
          have hkd := HKD.out
          have hha := HHA.out
          rw [hA, if_neg (by decide)] at hkd
          rw [hA] at hha
          cases hC : hasAt l x [44] with
          | true =>
            have hhc := HHC.out
            rw [hC, if_pos rfl] at hkd
            rw [hC] at hhc
            have hxl : x < l.length := hasAt_in hC
            have HKE := Lib.hid hkd
            have HA := Lib.hid hha
            have HC2 := Lib.hid hhc
            clear hkd hha hhc hA hC HKD HHA HHC
            go_wp2_with (first
              | (go_at_call 25; refine (HSE.out _).mono ?_; rintro e1 w2 ⟨rfl, rfl⟩)
              | (go_at_call 23; (with_reducible refine (HA.out _).mono ?_); rintro e1 w2 ⟨rfl, rfl⟩)
              | (go_at_call 23; (with_reducible refine (HC2.out _).mono ?_); rintro e1 w2 ⟨rfl, rfl⟩))
            go_roundg g'
            case measure => omega
            case rel =>
              refine ⟨x + 1, its ++ [v], some ⟨h', 0, none⟩, c', by omega, by go_num, by omega, by omega, HKE.out, ?_, HRES.out, ?_, HBEL.out, by omega⟩
              · rw [hlen9]; exact HROW.out
              · rw [hlen9]; exact HVAL.out
          | false =>
            have hhc := HHC.out
            rw [hC, if_neg (by decide)] at hkd
            rw [hC] at hhc
            have HKE := Lib.hid hkd
            have HA := Lib.hid hha
            have HC2 := Lib.hid hhc
            have HWx := Lib.hid fun W => HW.out x W
            generalize wrongJ l x = wq at *
            clear hkd hha hhc hA hC HKD HHA HHC hlen9
            go_wp2_with (first
              | (go_at_call 25; refine (HSE.out _).mono ?_; rintro e1 w2 ⟨rfl, rfl⟩)
              | (go_at_call 23; (with_reducible refine (HA.out _).mono ?_); rintro e1 w2 ⟨rfl, rfl⟩)
              | (go_at_call 23; (with_reducible refine (HC2.out _).mono ?_); rintro e1 w2 ⟨rfl, rfl⟩)
              | (go_at_call 52; refine (HWx.out _).mono ?_; rintro e1 w2 ⟨rfl, hb2⟩; have hres2 := (hb2.block w.heap.size (by omega)).trans HRES.out)
              | (with_reducible refine gate ?_; refine wp_store_res rfl _ _ rfl w.heap.size _ _ _ _ _ _ _ _ _ _ _ _ _ _ rfl rfl hres2 zRes_size ?_; intro w3 hx3 hu3))
            refine bodyPost_ret (v := .agg _) (res_whole Tryz.results55 _ _ w.heap.size rfl 56 _ hx3 Tryz.underlying56 rfl resSize) rfl ⟨?_, ?_⟩
            · rw [← HKE.out]; rfl
            · exact (HBEL.out.trans (hb2.mono (by omega))).trans (hu3.below (Nat.le_refl _) (by have := hb2.size; omega))
end Go.Proofs.YthlppbpccldikaaGreatDoor
