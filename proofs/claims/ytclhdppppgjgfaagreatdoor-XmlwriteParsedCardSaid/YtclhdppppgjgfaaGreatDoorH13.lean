/-
  Several texts in one file, in build order:
  - Trees without a long slice. No program.
  - A statement 'x.f = append(x.f, v)' of nodes, v a variable in memory, in whatever order its operations come: over a frame and a post that are letters.
  - The statement 'p.Kids = append(p.Kids, n)' of the builder, nil checks ahead of each field: over a frame and a post that are letters. Made by gen_app7.py out of XApp1.
  - Plain functions of chapter 7 (xmltree): the tree of a list of tokens. No program.
  - Plain laws of chapter 7: the builder with its open elements makes the tree that the parser makes. No program.
  - The builder of trees in memory: its open elements, each with its own block and its own row of kids; what else the call has made is written no more.
  - The builder of trees in memory: an open element ends; the root is laid.
-/
import Derived.Test.YtclhdppppgjgfaaGreatDoorH4
import Derived.Test.YtclhdppppgjgfaaGreatDoorH12
import Derived.Test.YtclhdppppgjgfaaGreatDoorH9
import Derived.Test.YtclhdppppgjgfaaGreatDoorH8
import Derived.Test.YtclhdppppgjgfaaGreatDoorH3
set_option linter.unusedVariables false
namespace Go.Proofs.YtclhdppppgjgfaaGreatDoor

/-- No slice of the tree is long. -/
inductive Slim : Node → Prop
  | mk {n : Node} (ha : n.attrs.length ≤ 4000000000) (hk : n.kids.length ≤ 4000000000) (h : ∀ k ∈ n.kids, Slim k) : Slim n
theorem Slim.form {n : Node} (h : Slim n) : n.attrs.length ≤ 4000000000 ∧ n.kids.length ≤ 4000000000 ∧ ∀ k ∈ n.kids, Slim k := by
  cases h with | mk a b c => exact ⟨a, b, c⟩
end Go.Proofs.YtclhdppppgjgfaaGreatDoor
set_option linter.unusedVariables false
set_option linter.unusedSimpArgs false
namespace Go.Proofs.YtclhdppppgjgfaaGreatDoor
open Go.RowKit

section
variable {P : Program} {ops : Array Oper} {Q : Exit → Act → World → Prop} {S : World → Prop} {n : Nat}
theorem wpAnyT_of_any : ∀ (fuel : Nat) (listed : Array Bool) (a : Act) (w : World), (∀ i, i < n → listed.getD i true = true) → wpAny P .any ops Q fuel listed a w → wpAnyT P .any ops Q S n fuel listed a w
  | 0, _, _, _, _, h => h
  | fuel + 1, listed, a, w, hl, h => ⟨h.1, fun i hi => wpOp_mono (fun a' w' h' => ⟨fun hin => by
      have h1 := (mem_ready.1 hi).1
      have h2 := hl i hin
      rcases Nat.lt_or_ge i listed.size with h3 | h3
      · simp [h3] at h1 h2; rw [h1] at h2; cases h2
      · simp [Array.getElem?_eq_none h3] at h1, wpAnyT_of_any fuel _ a' w' (fun j hj => by
      by_cases hij : i = j
      · subst hij
        rcases Nat.lt_or_ge i listed.size with h3 | h3
        · simp [h3]
        · simp [h3]
      · rw [getD_set_ne true hij]; exact hl j hj) h'⟩) (h.2 i hi)⟩
/-- Each operation from n on waits for each one ahead of n. -/
def midB (ops : Array Oper) (n : Nat) : Bool := (List.range ops.size).all fun t => decide (t < n) || (List.range n).all fun i => Region.waitsFor .any ops t i
theorem mid_waits {n : Nat} {listed : Array Bool} (hm : midB ops n = true) {i t : Nat} (hi : i < n) (hun : listed.getD i true = false) (ht : n ≤ t) : t ∉ Region.ready .any ops listed := by
  intro hr
  obtain ⟨_, ot, hot, hall⟩ := mem_ready.1 hr
  have htlt : t < ops.size := (Array.getElem?_eq_some_iff.1 hot).1
  have h1 := List.all_eq_true.1 hm t (List.mem_range.2 htlt)
  have hnt : decide (t < n) = false := by simp; omega
  rw [hnt, Bool.false_or] at h1
  have h2 := List.all_eq_true.1 h1 i (List.mem_range.2 hi)
  obtain ⟨oj, hoj, e, he, hb, hon⟩ := Region.waitsFor_spec h2
  have : oj = ot := Option.some.inj (hoj.symm.trans hot)
  subst this
  have h3 := hall e he hb
  rw [hon, getD_both hun] at h3
  cases h3
theorem wpAnyM_first {i : Nat} {oi : Oper} {v : Value} (hi : ops[i]? = some oi) (hsel : ∀ (j : Nat) (o : Oper) cs b, ops[j]? = some o → o.op ≠ .select cs b)
    (hQ : ∀ c a w, Q (.panic c) (a.put oi.dst v) w → Q (.panic c) a w) (hm : midB ops n = true) (hin : i < n) :
    ∀ (fuel : Nat) (listed : Array Bool) (a : Act) (w : World),
      (∀ j oj, ops[j]? = some oj → j ≠ i → listed.getD j true = false → (∀ e ∈ oj.after, Region.binds .any e = true → e.on ≠ i) → oi.apart ops oj = true) →
      i ∈ Region.ready .any ops listed → YieldsIf P ops S oi v a → S w →
      wpAnyT P .any ops Q S n fuel (listed.setIfInBounds i true) (a.put oi.dst v) w → wpAnyT P .any ops Q S n (fuel + 1) listed a w := by
  intro fuel
  induction fuel with
  | zero =>
    intro listed a w _ hr hy hS H
    refine ⟨fun h => (by rw [h] at hr; cases hr), fun j hj => ?_⟩
    by_cases hji : j = i
    · subst hji; exact hy.wpOp hi hS ⟨fun _ => hS, H⟩
    · have := ready_mono hj hji
      rw [H.1] at this
      cases this
  | succ fuel ih =>
    intro listed a w hfree hr hy hS H
    refine ⟨fun h => (by rw [h] at hr; cases hr), fun j hj => ?_⟩
    by_cases hji : j = i
    · subst hji; exact hy.wpOp hi hS ⟨fun _ => hS, H⟩
    · have hjn : j < n := by
        rcases Nat.lt_or_ge j n with h | h
        · exact h
        · exact absurd hj (mid_waits hm hin (mem_ready.1 hr).1 h)
      have h1 := H.2 j (ready_mono hj hji)
      obtain ⟨hjun, oj, hoj, hall⟩ := mem_ready.1 hj
      have hnot : ∀ e ∈ oj.after, Region.binds .any e = true → e.on ≠ i := fun e he hb heq => by
        have h1 := hall e he hb
        have h0 := (mem_ready.1 hr).1
        rw [heq] at h1
        rcases Nat.lt_or_ge i listed.size with h' | h'
        · simp [h'] at h0 h1; rw [h0] at h1; cases h1
        · simp [Array.getElem?_eq_none h'] at h1
      have h2 := wpOp_putIf hoj (hfree j oj hoj hji hjun hnot) (fun cs b => hsel i oi cs b hi) (fun cs b => hsel j oj cs b hoj) hQ hy h1
      have hfree' : ∀ k ok, ops[k]? = some ok → k ≠ i → (listed.setIfInBounds j true).getD k true = false →
          (∀ e ∈ ok.after, Region.binds .any e = true → e.on ≠ i) → oi.apart ops ok = true := fun k ok hk hki hun hno => by
        refine hfree k ok hk hki ?_ hno
        by_cases hjk : j = k
        · subst hjk; exact hjun
        · rw [getD_set_ne true hjk] at hun; exact hun
      refine wpOp_mono (fun a' w' h3 => ⟨h3.2.1, ih (listed.setIfInBounds j true) a' w' hfree' (ready_mono hr (Ne.symm hji)) h3.1 (h3.2.1 hjn) ?_⟩) h2
      rw [Array.setIfInBounds_comm _ _ hji]
      exact h3.2.2
theorem regM_start {id : Nat} {a : Act} {w : World} (hm : P.follows .mixedOrders = true) (h : wpAnyT P .any ops Q S n ops.size (Array.replicate ops.size false) a w.drew) : (Code.region id ops true).wp P Q a w :=
  wp_region_any hm (wpAny_of_T _ _ _ _ h)
theorem regM_take {i : Nat} {oi : Oper} {v : Value} {fuel : Nat} {listed : Array Bool} {a : Act} {w : World} (hi : ops[i]? = some oi)
    (hs : Region.noSelect ops = true) (hb : midB ops n = true) (hin : i < n) (hf : Region.free .any ops listed i = true) (hr : (Region.ready .any ops listed).contains i = true)
    (hQ : ∀ c a w, Q (.panic c) (a.put oi.dst v) w → Q (.panic c) a w) (hy : YieldsIf P ops S oi v a) (hS : S w)
    (h : wpAnyT P .any ops Q S n fuel (listed.setIfInBounds i true) (a.put oi.dst v) w) : wpAnyT P .any ops Q S n (fuel + 1) listed a w :=
  wpAnyM_first hi (Region.noSelect_spec hs) hQ hb hin fuel listed a w (Region.free_spec hi hf) (by simpa using hr) hy hS h
theorem regM_all {rs : List Nat} {fuel : Nat} {listed : Array Bool} {a : Act} {w : World} (hr : Region.ready .any ops listed = rs) (hne : rs ≠ [])
    (h : ∀ i ∈ rs, wpOp P ops Q i (fun a' w' => S w' ∧ wpAnyT P .any ops Q S n fuel (listed.setIfInBounds i true) a' w') a w) : wpAnyT P .any ops Q S n (fuel + 1) listed a w :=
  ⟨fun h0 => absurd (hr ▸ h0) hne, fun i hi => wpOp_mono (fun a' w' h' => ⟨fun _ => h'.1, h'.2⟩) (h i (hr ▸ hi))⟩
/-- The operation that waits for all ahead of it, and lets the others wait. -/
theorem regM_mid {fuel : Nat} {listed : Array Bool} {a : Act} {w : World} (hr : Region.ready .any ops listed = [n]) (hl : ∀ i, i < n → (listed.setIfInBounds n true).getD i true = true)
    (h : wpOp P ops Q n (fun a' w' => wpAny P .any ops Q fuel (listed.setIfInBounds n true) a' w') a w) : wpAnyT P .any ops Q S n (fuel + 1) listed a w := by
  refine ⟨fun h0 => (by rw [hr] at h0; cases h0), fun i hi => ?_⟩
  rw [hr] at hi
  obtain rfl : i = n := by simpa using hi
  exact wpOp_mono (fun a' w' h' => ⟨fun h0 => absurd h0 (Nat.lt_irrefl _), wpAnyT_of_any _ _ _ _ hl h'⟩) h
end

theorem zNodeP (w : World) (p : Nat → Prop) : NodeP w p (.mk 0 [] [] [] [] [] 0) [.int .i64 0, .string ⟨#[]⟩, .string ⟨#[]⟩, .slice none 0 0, .slice none 0 0, .string ⟨#[]⟩, .int .i64 0] :=
  NodeP.of_form (n := .mk 0 [] [] [] [] [] 0) ⟨none, 0, rfl, Nat.le_refl _, .inl rfl⟩ ⟨none, 0, rfl, Nat.le_refl _, .inl rfl⟩

end Go.Proofs.YtclhdppppgjgfaaGreatDoor
set_option linter.unusedVariables false
set_option linter.unusedSimpArgs false
namespace Go.Proofs.YtclhdppppgjgfaaGreatDoor
open Go.RowKit

/-- What is asked of the region's edges. -/
def app7Ok (ops : Array Oper) : Bool :=
  let L0 := Array.replicate 13 false
  let L1 := L0.setIfInBounds 0 true
  let L2 := L1.setIfInBounds 1 true
  let L3 := L2.setIfInBounds 2 true
  let L4 := L3.setIfInBounds 4 true
  let L5 := L4.setIfInBounds 3 true
  let L6 := L5.setIfInBounds 5 true
  let L7 := L6.setIfInBounds 6 true
  let L8 := L7.setIfInBounds 7 true
  let L9 := L8.setIfInBounds 10 true
  let L10 := L9.setIfInBounds 11 true
  let L11 := L10.setIfInBounds 8 true
  Region.noSelect ops && decide (ops.size = 13) && midB ops 7 && (Region.free .any ops L0 0 && (Region.ready .any ops L0).contains 0) && (Region.free .any ops L1 1 && (Region.ready .any ops L1).contains 1) && (Region.free .any ops L2 2 && (Region.ready .any ops L2).contains 2)
    && (Region.free .any ops L3 4 && (Region.ready .any ops L3).contains 4) && (Region.free .any ops L4 3 && (Region.ready .any ops L4).contains 3) && (Region.free .any ops L5 5 && (Region.ready .any ops L5).contains 5) && (Region.ready .any ops L6 == [6]) && (Region.ready .any ops L7 == [7])
    && (Region.free .any ops L8 10 && (Region.ready .any ops L8).contains 10) && (Region.free .any ops L9 11 && (Region.ready .any ops L9).contains 11) && (Region.free .any ops L10 8 && (Region.ready .any ops L10).contains 8) && (Region.ready .any ops L11 == [9, 12])
    && (Region.ready .any ops (L11.setIfInBounds 9 true) == [12]) && (Region.ready .any ops (L11.setIfInBounds 12 true) == [9]) && (Region.ready .any ops ((L11.setIfInBounds 9 true).setIfInBounds 12 true) == []) && (Region.ready .any ops ((L11.setIfInBounds 12 true).setIfInBounds 9 true) == [])

set_option maxHeartbeats 1000000 in
theorem region_app7 {id : Nat} {ops : Array Oper} {Q : Exit → Act → World → Prop} {a : Act} {w : World} {sQ sV sT sP sL sM sX sK sN sB sA sI sF : Nat} {t0 t1 t2 t3 t4 t5 t6 t7 t8 t9 t10 t11 t12 : TypeId} {p0 p1 p2 p3 p4 p5 p6 p7 p8 p9 p10 p11 p12 : String} {x0 x1 x2 x3 x4 x5 x6 x7 x8 x9 x10 x11 x12 : Array Edge}
    (o0 : ops[0]? = some ⟨some sV, .move (.tmp sQ), t0, p0, x0, none⟩)
    (o1 : ops[1]? = some ⟨some sM, .nilCheck (.tmp sV), t1, p1, x1, none⟩)
    (o2 : ops[2]? = some ⟨some sP, .fieldAddr 26 (.tmp sM) 4, t2, p2, x2, none⟩)
    (o3 : ops[3]? = some ⟨some sL, .load 24 (.tmp sP), t3, p3, x3, none⟩)
    (o4 : ops[4]? = some ⟨some sK, .load 26 (.tmp sX), t4, p4, x4, none⟩)
    (o5 : ops[5]? = some ⟨some sN, .call { callee := .builtin .len, args := #[.tmp sL], argTypes := #[24] }, t5, p5, x5, none⟩)
    (o6 : ops[6]? = some ⟨some sB, .buildSlice 24 1 #[(0, .const (.agg #[.int .i64 0, .string ⟨#[]⟩, .string ⟨#[]⟩, .slice none 0 0, .slice none 0 0, .string ⟨#[]⟩, .int .i64 0]))], t6, p6, x6, none⟩)
    (o7 : ops[7]? = some ⟨some sA, .call { callee := .builtin .append, args := #[.tmp sL, .tmp sB], argTypes := #[24, 24] }, t7, p7, x7, none⟩)
    (o8 : ops[8]? = some ⟨some sI, .indexAddr 24 (.tmp sA) (.tmp sN), t8, p8, x8, none⟩)
    (o9 : ops[9]? = some ⟨none, .store 26 (.tmp sI) (.tmp sK), t9, p9, x9, none⟩)
    (o10 : ops[10]? = some ⟨some sT, .nilCheck (.tmp sV), t10, p10, x10, none⟩)
    (o11 : ops[11]? = some ⟨some sF, .fieldAddr 26 (.tmp sT) 4, t11, p11, x11, none⟩)
    (o12 : ops[12]? = some ⟨none, .store 24 (.tmp sF) (.tmp sA), t12, p12, x12, none⟩)
    (hck : app7Ok ops = true)
    (hlt : (decide ([sV, sT, sP, sL, sM, sX, sK, sN, sB, sA, sI, sF].Nodup) && [sV, sT, sP, sL, sM, sK, sN, sB, sA, sI, sF].all (fun i => decide (i < a.tmps.size))) = true)
    (hQp : ∀ s v c a w, Q (.panic c) (a.put (some s) v) w → Q (.panic c) a w)
    (base : Nat) (p : Nat → Prop) (nb hb : Nat) (KA : Option Addr) (kc : Nat) (l : List Node) (k : Node) (cs : List Value) (cur : Array Value) (ty : TypeId)
    (hM0 : a.eval (.tmp sQ) = .pointer (some ⟨nb, 0, none⟩)) (hX0 : a.eval (.tmp sX) = .pointer (some ⟨hb, 0, none⟩))
    (hnb : w.heap[nb]? = some (.cells cur ty (0, 0))) (hcur : cur[4]? = some (.slice KA l.length kc)) (hxr : w.rangeAt hb 0 cs) (hhb : hb < w.heap.size) (hk : NodeP w p k cs)
    (hrow : ElRow nodeE w base p (.slice KA l.length kc) l) (hp : ∀ j, p j → (Value.slice KA l.length kc).ownBlock ≠ some j) (hp2 : ∀ j, p j → j < w.heap.size) (hnp : ¬ p nb) (hnbb : nb < base) (hbase : base ≤ w.heap.size) (hl : l.length < 1000000000)
    (hQ : ∀ (bb g' c' : Nat) (vI : Value) (W : World), ((Value.slice KA l.length kc).ownBlock = some g' ∨ w.heap.size ≤ g') → ElRow nodeE W base p (.slice (some ⟨g', 0, none⟩) (l.length + 1) c') (l ++ [k]) → W.heap[nb]? = some (.cells (cur.setIfInBounds 4 (.slice (some ⟨g', 0, none⟩) (l.length + 1) c')) ty (0, 0)) →
      (∀ b, b < w.heap.size → b ≠ nb → (Value.slice KA l.length kc).ownBlock ≠ some b → W.heap[b]? = w.heap[b]?) → W.os = w.os → W.tape = w.tape → W.output = w.output → w.heap.size ≤ W.heap.size →
      Q .normal (((((((((((a.put (some sV) (.pointer (some ⟨nb, 0, none⟩))).put (some sM) (.pointer (some ⟨nb, 0, none⟩))).put (some sP) (.pointer (some ⟨nb, 4, none⟩))).put (some sK) (.agg cs.toArray)).put (some sL) (.slice KA l.length kc)).put (some sN) (.int .i64 l.length)).put (some sB) (.slice (some ⟨bb, 0, none⟩) 1 1)).put (some sA) (.slice (some ⟨g', 0, none⟩) (l.length + 1) c')).put (some sT) (.pointer (some ⟨nb, 0, none⟩))).put (some sF) (.pointer (some ⟨nb, 4, none⟩))).put (some sI) vI) W) :
    (Code.region id ops true).wp Tryz.prog Q a w := by
  unfold app7Ok at hck
  simp only [Bool.and_eq_true, decide_eq_true_eq, beq_iff_eq] at hck
  obtain ⟨⟨⟨⟨⟨⟨⟨⟨⟨⟨⟨⟨⟨⟨⟨⟨⟨⟨ns, hsz⟩, hsc⟩, f0⟩, f1⟩, f2⟩, f4⟩, f3⟩, f5⟩, r6⟩, r7⟩, f10⟩, f11⟩, f8⟩, r912⟩, r12⟩, r9⟩, rA⟩, rB⟩ := hck
  simp only [Bool.and_eq_true, decide_eq_true_eq, List.all_cons, List.all_nil, List.nodup_cons, List.mem_cons, List.not_mem_nil, or_false, not_or, Bool.and_true] at hlt
  obtain ⟨⟨⟨dVT, dVP, dVL, dVM, dVX, dVK, dVN, dVB, dVA, dVI, dVF⟩, ⟨dTP, dTL, dTM, dTX, dTK, dTN, dTB, dTA, dTI, dTF⟩, ⟨dPL, dPM, dPX, dPK, dPN, dPB, dPA, dPI, dPF⟩, ⟨dLM, dLX, dLK, dLN, dLB, dLA, dLI, dLF⟩, ⟨dMX, dMK, dMN, dMB, dMA, dMI, dMF⟩, ⟨dXK, dXN, dXB, dXA, dXI, dXF⟩, ⟨dKN, dKB, dKA, dKI, dKF⟩, ⟨dNB, dNA, dNI, dNF⟩, ⟨dBA, dBI, dBF⟩, ⟨dAI, dAF⟩, dIF, _⟩, zV, zT, zP, zL, zM, zK, zN, zB, zA, zI, zF⟩ := hlt
  have hl7 := hk.len
  have hcell : w.cell? ⟨nb, 4, none⟩ = some (.slice KA l.length kc) := by rw [Lib.cell_of_heap hnb]; exact hcur
  have hS : w.drew.rangeAt hb 0 cs ∧ w.drew.cell? ⟨nb, 4, none⟩ = some (.slice KA l.length kc) := ⟨hxr, hcell⟩
  refine regM_start (n := 7) (S := fun x => x.rangeAt hb 0 cs ∧ x.cell? ⟨nb, 4, none⟩ = some (.slice KA l.length kc)) (by kernel_rfl) ?_
  rw [hsz]
  refine regM_take (i := 0) (v := .pointer (some ⟨nb, 0, none⟩)) o0 ns hsc (by omega) f0.1 f0.2 (fun _ _ _ h => hQp _ _ _ _ _ h) (.inl ⟨by simp [Region.wanted], fun x hx => ?_⟩) hS ?_
  · have h' := eval_tmp hM0
    clear hQ zV zT zP zL zM zK zN zB zA zI zF
    go_simp
  obtain ⟨b0, hb0⟩ : ∃ b0, a.put (some sV) (.pointer (some ⟨nb, 0, none⟩)) = b0 := ⟨_, rfl⟩
  have b0V : b0.eval (.tmp sV) = .pointer (some ⟨nb, 0, none⟩) := by rw [← hb0, eval_put_same zV]
  have b0X : b0.eval (.tmp sX) = .pointer (some ⟨hb, 0, none⟩) := by rw [← hb0, eval_put_ne dVX, hX0]
  have b0s : b0.tmps.size = a.tmps.size := by rw [← hb0, size_put]
  rw [hb0] at hQ ⊢
  refine regM_take (i := 1) (v := .pointer (some ⟨nb, 0, none⟩)) o1 ns hsc (by omega) f1.1 f1.2 (fun _ _ _ h => hQp _ _ _ _ _ h) (.inl ⟨by simp [Region.wanted], fun x hx => ?_⟩) hS ?_
  · have h' := eval_tmp b0V
    clear hQ zV zT zP zL zM zK zN zB zA zI zF b0s
    go_simp
  obtain ⟨a0, ha0⟩ : ∃ a0, b0.put (some sM) (.pointer (some ⟨nb, 0, none⟩)) = a0 := ⟨_, rfl⟩
  have e0V : a0.eval (.tmp sV) = .pointer (some ⟨nb, 0, none⟩) := by rw [← ha0, eval_put_ne (Ne.symm dVM), b0V]
  have hM : a0.eval (.tmp sM) = .pointer (some ⟨nb, 0, none⟩) := by rw [← ha0, eval_put_same (by rw [b0s]; exact zM)]
  have hX : a0.eval (.tmp sX) = .pointer (some ⟨hb, 0, none⟩) := by rw [← ha0, eval_put_ne dMX, b0X]
  have hs0 : a0.tmps.size = a.tmps.size := by rw [← ha0, size_put, b0s]
  rw [ha0] at hQ ⊢
  rw [← hs0] at zV zT zP zL zM zK zN zB zA zI zF
  clear ha0 hb0 b0V b0X b0s hM0 hX0 hs0 zM zV
  clear a b0
  refine regM_take (i := 2) (v := .pointer (some ⟨nb, 4, none⟩)) o2 ns hsc (by omega) f2.1 f2.2 (fun _ _ _ h => hQp _ _ _ _ _ h) (.inl ⟨by simp [Region.wanted], fun x hx => ?_⟩) hS ?_
  · have hM' := eval_tmp hM
    go_simp
  refine regM_take (i := 4) (v := .agg cs.toArray) o4 ns hsc (by omega) f4.1 f4.2 (fun _ _ _ h => hQp _ _ _ _ _ h) (.inl ⟨by simp [Region.wanted], fun x hx => ?_⟩) hS ?_
  · have hX' : (a0.put (some sP) (.pointer (some ⟨nb, 4, none⟩))).eval (.tmp sX) = .pointer (some ⟨hb, 0, none⟩) := by rw [eval_put_ne dPX, hX]
    unfold execOp
    simp only [hX', Instr.loadAt, Instr.sureAddr, Sem.run_bind, Sem.run_pure, Result.andThen_ok, run_loadVar_mid x hb 0 26 cs _ hx.1 Tryz.underlying26 rfl (by rw [hl7]; exact nodeSize)]
  obtain ⟨a2, ha2⟩ : ∃ a2, (a0.put (some sP) (.pointer (some ⟨nb, 4, none⟩))).put (some sK) (.agg cs.toArray) = a2 := ⟨_, rfl⟩
  have e2P : a2.eval (.tmp sP) = .pointer (some ⟨nb, 4, none⟩) := by rw [← ha2, eval_put_ne (Ne.symm dPK), eval_put_same zP]
  have e2V : a2.eval (.tmp sV) = .pointer (some ⟨nb, 0, none⟩) := by rw [← ha2, eval_put_ne (Ne.symm dVK), eval_put_ne (Ne.symm dVP), e0V]
  have e2K : a2.eval (.tmp sK) = .agg cs.toArray := by rw [← ha2, eval_put_same (by simpa [size_put] using zK)]
  have z2 : a2.tmps.size = a0.tmps.size := by rw [← ha2, size_put, size_put]
  rw [ha2] at hQ ⊢
  refine regM_take (i := 3) (v := .slice KA l.length kc) o3 ns hsc (by omega) f3.1 f3.2 (fun _ _ _ h => hQp _ _ _ _ _ h) (.inl ⟨by simp [Region.wanted], fun x hx => ?_⟩) hS ?_
  · have h' := eval_tmp e2P
    have hx2 := hx.2
    clear zP zL zK zN zB zA zI zT zF z2
    go_simp
  refine regM_take (i := 5) (v := .int .i64 l.length) o5 ns hsc (by omega) f5.1 f5.2 (fun _ _ _ h => hQp _ _ _ _ _ h) (.inl ⟨by simp [Region.wanted], fun x hx => ?_⟩) hS ?_
  · have h' : (a2.put (some sL) (.slice KA l.length kc)).tmps[sL]?.getD undef = .slice KA l.length kc := eval_tmp (eval_put_same (by omega))
    go_simp
  obtain ⟨a4, ha4⟩ : ∃ a4, (a2.put (some sL) (.slice KA l.length kc)).put (some sN) (.int .i64 l.length) = a4 := ⟨_, rfl⟩
  have e4L : a4.eval (.tmp sL) = .slice KA l.length kc := by rw [← ha4, eval_put_ne (Ne.symm dLN), eval_put_same (by omega)]
  have e4N : a4.eval (.tmp sN) = .int .i64 l.length := by rw [← ha4, eval_put_same (by rw [size_put]; omega)]
  have e4V : a4.eval (.tmp sV) = .pointer (some ⟨nb, 0, none⟩) := by rw [← ha4, eval_put_ne (Ne.symm dVN), eval_put_ne (Ne.symm dVL), e2V]
  have e4K : a4.eval (.tmp sK) = .agg cs.toArray := by rw [← ha4, eval_put_ne (Ne.symm dKN), eval_put_ne dLK, e2K]
  have z4 : a4.tmps.size = a0.tmps.size := by rw [← ha4, size_put, size_put, z2]
  rw [ha4] at hQ ⊢
  refine regM_all r6 (by simp) ?_
  intro i hi
  obtain rfl : i = 6 := by simpa using hi
  refine regT_op o6 (fun K' hK => ?_)
  go_simp
  have hS4 : (w.drew.alloc (.cells #[.int .i64 0, .string ⟨#[]⟩, .string ⟨#[]⟩, .slice none 0 0, .slice none 0 0, .string ⟨#[]⟩, .int .i64 0] 26)).rangeAt hb 0 cs ∧ (w.drew.alloc (.cells #[.int .i64 0, .string ⟨#[]⟩, .string ⟨#[]⟩, .slice none 0 0, .slice none 0 0, .string ⟨#[]⟩, .int .i64 0] 26)).cell? ⟨nb, 4, none⟩ = some (.slice KA l.length kc) := by
    refine ⟨rangeAt_keep hxr (Below.heap_alloc w.drew _ _ hhb), ?_⟩
    rw [Lib.cell_of_heap (alloc_old (W := w.drew) hnb)]; exact hcur
  refine hK.out _ _ ⟨hS4, ?_⟩
  clear hK
  change wpAnyT _ _ _ _ _ _ _ _ (a4.put (some sB) (.slice (some ⟨w.heap.size, 0, none⟩) 1 1)) _
  obtain ⟨a5, ha5⟩ : ∃ a5, a4.put (some sB) (.slice (some ⟨w.heap.size, 0, none⟩) 1 1) = a5 := ⟨_, rfl⟩
  have e5L : a5.eval (.tmp sL) = .slice KA l.length kc := by rw [← ha5, eval_put_ne (Ne.symm dLB), e4L]
  have e5B : a5.eval (.tmp sB) = .slice (some ⟨w.heap.size, 0, none⟩) 1 1 := by rw [← ha5, eval_put_same (by omega)]
  have e5N : a5.eval (.tmp sN) = .int .i64 l.length := by rw [← ha5, eval_put_ne (Ne.symm dNB), e4N]
  have e5V : a5.eval (.tmp sV) = .pointer (some ⟨nb, 0, none⟩) := by rw [← ha5, eval_put_ne (Ne.symm dVB), e4V]
  have e5K : a5.eval (.tmp sK) = .agg cs.toArray := by rw [← ha5, eval_put_ne (Ne.symm dKB), e4K]
  have z5 : a5.tmps.size = a0.tmps.size := by rw [← ha5, size_put, z4]
  have hQ5 := hQ w.heap.size
  rw [ha5] at hQ5 ⊢
  refine regM_mid r7 (fun i hi => ?_) ?_
  · match i, hi with
    | 0, _ => rfl
    | 1, _ => rfl
    | 2, _ => rfl
    | 3, _ => rfl
    | 4, _ => rfl
    | 5, _ => rfl
    | 6, _ => rfl
  refine regT_op o7 (fun K' hK => ?_)
  refine els_append_step nodeE_ok (by rfl) (.tmp sL) (.tmp sB) (by rfl) w.drew base p _ l e5L (hrow.heap nodeE_ok (fun _ _ => rfl) (fun _ _ => rfl)) (.mk 0 [] [] [] [] [] 0) [.int .i64 0, .string ⟨#[]⟩, .string ⟨#[]⟩, .slice none 0 0, .slice none 0 0, .string ⟨#[]⟩, .int .i64 0] w.heap.size rfl e5B (zNodeP _ _) hp hp2 hbase (by omega) ?_
  intro g' c' w5 hat hlt5 hrow5 hgr5 hb5w
  refine hK.out _ _ ?_
  clear hK
  have hgn : g' ≠ nb := fun e => by have := hrow5.lt g' rfl; omega
  have hnb5 : w5.heap[nb]? = some (.cells cur ty (0, 0)) := (hb5w.block nb hnbb).trans hnb
  have hkeep5 : ∀ b, b < w.heap.size → (Value.slice KA l.length kc).ownBlock ≠ some b → w5.heap[b]? = w.heap[b]? := fun b h1 h2 => hgr5.grown.block b h1 (fun e => h2 e.symm)
  have hk5 : NodeP w5 p k cs := NodeP.keep (fun j hj => hkeep5 j (hp2 j hj) (hp j hj)) (fun _ h => h) _ _ hk
  have hpg : ∀ j, p j → j ≠ g' := fun j hj e => by
    subst e
    rcases hat with h | h
    · exact hp _ hj h
    · have := hp2 _ hj; have h' : w.heap.size ≤ j := h; omega
  obtain ⟨a6, ha6⟩ : ∃ a6, a5.put (some sA) (.slice (some ⟨g', 0, none⟩) (l.length + 1) c') = a6 := ⟨_, rfl⟩
  have e6A : a6.eval (.tmp sA) = .slice (some ⟨g', 0, none⟩) (l.length + 1) c' := by rw [← ha6, eval_put_same (by omega)]
  have e6N : a6.eval (.tmp sN) = .int .i64 l.length := by rw [← ha6, eval_put_ne (Ne.symm dNA), e5N]
  have e6V : a6.eval (.tmp sV) = .pointer (some ⟨nb, 0, none⟩) := by rw [← ha6, eval_put_ne (Ne.symm dVA), e5V]
  have e6K : a6.eval (.tmp sK) = .agg cs.toArray := by rw [← ha6, eval_put_ne (Ne.symm dKA), e5K]
  have z6 : a6.tmps.size = a0.tmps.size := by rw [← ha6, size_put, z5]
  have hQ6 := hQ5 g' c'
  rw [ha6] at hQ6
  change wpAny _ _ _ _ _ _ (a5.put (some sA) (.slice (some ⟨g', 0, none⟩) (l.length + 1) c')) _
  rw [ha6]
  refine wpAny_take (i := 10) (v := .pointer (some ⟨nb, 0, none⟩)) o10 ns f10.1 f10.2 (fun _ _ _ h => hQp _ _ _ _ _ h) (.inl ⟨by simp [Region.wanted], fun x => ?_⟩) ?_
  · have h' := eval_tmp e6V
    clear zT zP zL zK zN zB zA zI zF z2 z4 z5 z6
    go_simp
  obtain ⟨b6, hb6⟩ : ∃ b6, a6.put (some sT) (.pointer (some ⟨nb, 0, none⟩)) = b6 := ⟨_, rfl⟩
  have e6M : b6.eval (.tmp sT) = .pointer (some ⟨nb, 0, none⟩) := by rw [← hb6, eval_put_same (by omega)]
  have f6A : b6.eval (.tmp sA) = .slice (some ⟨g', 0, none⟩) (l.length + 1) c' := by rw [← hb6, eval_put_ne dTA, e6A]
  have f6N : b6.eval (.tmp sN) = .int .i64 l.length := by rw [← hb6, eval_put_ne dTN, e6N]
  have f6K : b6.eval (.tmp sK) = .agg cs.toArray := by rw [← hb6, eval_put_ne dTK, e6K]
  have zb6 : b6.tmps.size = a0.tmps.size := by rw [← hb6, size_put, z6]
  rw [hb6]
  refine wpAny_take (i := 11) (v := .pointer (some ⟨nb, 4, none⟩)) o11 ns f11.1 f11.2 (fun _ _ _ h => hQp _ _ _ _ _ h) (.inl ⟨by simp [Region.wanted], fun x => ?_⟩) ?_
  · have hM' := eval_tmp e6M
    clear zT zP zL zK zN zB zA zI zF z2 z4 z5 z6 zb6
    go_simp
  obtain ⟨a7, ha7⟩ : ∃ a7, b6.put (some sF) (.pointer (some ⟨nb, 4, none⟩)) = a7 := ⟨_, rfl⟩
  have e7A : a7.eval (.tmp sA) = .slice (some ⟨g', 0, none⟩) (l.length + 1) c' := by rw [← ha7, eval_put_ne (Ne.symm dAF), f6A]
  have e7N : a7.eval (.tmp sN) = .int .i64 l.length := by rw [← ha7, eval_put_ne (Ne.symm dNF), f6N]
  have e7K : a7.eval (.tmp sK) = .agg cs.toArray := by rw [← ha7, eval_put_ne (Ne.symm dKF), f6K]
  have e7F : a7.eval (.tmp sF) = .pointer (some ⟨nb, 4, none⟩) := by rw [← ha7, eval_put_same (by omega)]
  have z7 : a7.tmps.size = a0.tmps.size := by rw [← ha7, size_put, zb6]
  rw [ha7]
  refine wpAny_take (i := 8) (v := .pointer (some ⟨g', l.length * 7, none⟩)) o8 ns f8.1 f8.2 (fun _ _ _ h => hQp _ _ _ _ _ h) (.inl ⟨by simp [Region.wanted], fun x => ?_⟩) ?_
  · have h1 := eval_tmp e7A
    have h2 := eval_tmp e7N
    have h3 : (l.length : Int) < (l.length : Int) + 1 := by omega
    clear zP zL zK zN zB zA zI zF z2 z4 z5 z6 zb6 z7 zT
    go_simp
  obtain ⟨a8, ha8⟩ : ∃ a8, a7.put (some sI) (.pointer (some ⟨g', l.length * 7, none⟩)) = a8 := ⟨_, rfl⟩
  have e8A : a8.eval (.tmp sA) = .slice (some ⟨g', 0, none⟩) (l.length + 1) c' := by rw [← ha8, eval_put_ne (Ne.symm dAI), e7A]
  have e8F : a8.eval (.tmp sF) = .pointer (some ⟨nb, 4, none⟩) := by rw [← ha8, eval_put_ne dIF, e7F]
  have e8I : a8.eval (.tmp sI) = .pointer (some ⟨g', l.length * 7, none⟩) := by rw [← ha8, eval_put_same (by omega)]
  have e8K : a8.eval (.tmp sK) = .agg cs.toArray := by rw [← ha8, eval_put_ne (Ne.symm dKI), e7K]
  have hQ8 := hQ6 (.pointer (some ⟨g', l.length * 7, none⟩))
  rw [hb6, ha7, ha8] at hQ8
  rw [ha8]
  have hset : (l ++ [Node.mk 0 [] [] [] [] [] 0]).set l.length k = l ++ [k] := by simp
  have hlen1 : (l ++ [Node.mk 0 [] [] [] [] [] 0]).length = l.length + 1 := by simp
  have hne : ∀ j, (Value.slice (some ⟨g', 0, none⟩) (l.length + 1) c').ownBlock = some j → j ≠ nb := fun j hj => by
    have e2 : g' = j := by simpa [Value.ownBlock] using hj
    rw [← e2]; exact hgn
  have hpn : ∀ j, p j → j ≠ nb := fun j hj e => hnp (e ▸ hj)
  have hA' := eval_tmp e8A
  have hF' := eval_tmp e8F
  have hz5 : w.heap.size ≤ w5.heap.size := by have := hgr5.lt; simpa using this
  clear zP zL zK zN zB zA zI zF z2 z4 z5 z6 zb6 z7 zT
  refine wpAny_all r912 (by simp) ?_
  intro i hi
  have hi' : i = 9 ∨ i = 12 := by simpa using hi
  rcases hi' with rfl | rfl
  · refine regT_op o9 (fun K' hK => ?_)
    refine step_el_store nodeE_ok (by rfl) (.tmp sI) (.tmp sK) (by rfl) w5 base p g' (l.length + 1) c' _ hrow5 l.length (by omega) k cs hk5 hpg e8I e8K ?_
    intro w7 hrow7 hu7 hz7
    rw [hset] at hrow7
    refine hK.out _ _ ?_
    clear hK
    change wpAny _ _ _ _ _ _ a8 _
    refine wpAny_all r12 (by simp) ?_
    intro i hi
    obtain rfl : i = 12 := by simpa using hi
    refine regT_op o12 (fun K' hK => ?_)
    have hnb7 := (hu7.block nb (heap_lt hnb5) (Ne.symm hgn)).trans hnb5
    have hfz : w7.frozen? ⟨nb, 4, none⟩ = false := Lib.frozen_of_heap hnb7 4
    have hc7 : w7.cell? ⟨nb, 4, none⟩ = some (.slice KA l.length kc) := by rw [Lib.cell_of_heap hnb7]; exact hcur
    go_simp
    refine hK.out _ _ (wpAny_done rA ?_ _)
    refine hQ8 (w7.setCell ⟨nb, 4, none⟩ (.slice (some ⟨g', 0, none⟩) (l.length + 1) c')) hat ?_ (heap_set (i := 4) hnb7 _) ?_ ?_ ?_ ?_ ?_
    · exact hrow7.heap nodeE_ok (fun j hj => Below.heap_setCell _ _ _ _ (hne j hj)) (fun j hj => Below.heap_setCell _ _ _ _ (hpn j hj))
    · intro b h1 h2 h3
      refine (Below.heap_setCell _ _ _ _ h2).trans ((hu7.block b (by omega) (fun e => ?_)).trans (hkeep5 b h1 h3))
      rcases hat with h | h
      · exact h3 (by rw [e]; exact h)
      · have h' : w.heap.size ≤ g' := h; omega
    · exact hu7.os.trans (hb5w.os)
    · exact hu7.tape.trans (hb5w.tape)
    · exact hu7.output.trans (hb5w.output)
    · simp [World.setCell]; omega
  · refine regT_op o12 (fun K' hK => ?_)
    have hfz : w5.frozen? ⟨nb, 4, none⟩ = false := Lib.frozen_of_heap hnb5 4
    have hc7 : w5.cell? ⟨nb, 4, none⟩ = some (.slice KA l.length kc) := by rw [Lib.cell_of_heap hnb5]; exact hcur
    go_simp
    refine hK.out _ _ ?_
    clear hK
    change wpAny _ _ _ _ _ _ a8 _
    refine wpAny_all r9 (by simp) ?_
    intro i hi
    obtain rfl : i = 9 := by simpa using hi
    refine regT_op o9 (fun K' hK => ?_)
    have hrow6 := hrow5.heap nodeE_ok (w' := w5.setCell ⟨nb, 4, none⟩ (.slice (some ⟨g', 0, none⟩) (l.length + 1) c')) (fun j hj => Below.heap_setCell _ _ _ _ (hne j hj)) (fun j hj => Below.heap_setCell _ _ _ _ (hpn j hj))
    have hk6 : NodeP (w5.setCell ⟨nb, 4, none⟩ (.slice (some ⟨g', 0, none⟩) (l.length + 1) c')) p k cs := NodeP.keep (fun j hj => Below.heap_setCell _ _ _ _ (hpn j hj)) (fun _ h => h) _ _ hk5
    have hnb6 := heap_set (i := 4) hnb5 (.slice (some ⟨g', 0, none⟩) (l.length + 1) c')
    have hz6 : (w5.setCell ⟨nb, 4, none⟩ (.slice (some ⟨g', 0, none⟩) (l.length + 1) c')).heap.size = w5.heap.size := by simp [World.setCell]
    refine step_el_store nodeE_ok (by rfl) (.tmp sI) (.tmp sK) (by rfl) _ base p g' (l.length + 1) c' _ hrow6 l.length (by omega) k cs hk6 hpg e8I e8K ?_
    intro w7 hrow7 hu7 hz7
    rw [hset] at hrow7
    refine hK.out _ _ (wpAny_done rB ?_ _)
    refine hQ8 w7 hat hrow7 ((hu7.block nb (heap_lt hnb6) (Ne.symm hgn)).trans hnb6) ?_ ?_ ?_ ?_ ?_
    · intro b h1 h2 h3
      refine (hu7.block b (by omega) (fun e => ?_)).trans ((Below.heap_setCell _ _ _ _ h2).trans (hkeep5 b h1 h3))
      rcases hat with h | h
      · exact h3 (by rw [e]; exact h)
      · have h' : w.heap.size ≤ g' := h; omega
    · exact hu7.os.trans (hb5w.os)
    · exact hu7.tape.trans (hb5w.tape)
    · exact hu7.output.trans (hb5w.output)
    · omega
end Go.Proofs.YtclhdppppgjgfaaGreatDoor
set_option linter.unusedVariables false
namespace Go.Proofs.YtclhdppppgjgfaaGreatDoor

def zNodeN : Node := .mk 0 [] [] [] [] [] 0
/-- Text joins the text ahead of it. -/
def addText (ks : List Node) (u : Tok) : List Node :=
  match ks.getLast? with
  | some (.mk k s n ats kk t p) => if k = 1 then ks.dropLast ++ [.mk k s n ats kk (t ++ u.text) p] else ks ++ [.mk 1 [] [] [] [] u.text u.pos]
  | none => ks ++ [.mk 1 [] [] [] [] u.text u.pos]
mutual
def elemF (ts : List Tok) (en : Nat) : Nat → Nat → Nat → Except (Int × Nat) (Node × Nat)
  | 0, _, _ => .error (0, 0)
  | f + 1, d, i =>
    match ts[i]? with
    | none => .error (0, 0)
    | some t =>
      if 100 < d then .error (t.pos, 9)
      else if t.empty = true then .ok (.mk 0 [] t.name t.attrs [] [] t.pos, i + 1)
      else match kidsF ts en f d t.name (i + 1) [] with
        | .error e => .error e
        | .ok (ks, j) => .ok (.mk 0 [] t.name t.attrs ks [] t.pos, j)
def kidsF (ts : List Tok) (en : Nat) : Nat → Nat → Bytes → Nat → List Node → Except (Int × Nat) (List Node × Nat)
  | 0, _, _, _, _ => .error (0, 0)
  | f + 1, d, nm, i, ks =>
    match ts[i]? with
    | none => .error ((en : Int), 8)
    | some u =>
      if u.kind = 2 then (if u.name = nm then .ok (ks, i + 1) else .error (u.pos, 14))
      else if u.kind = 1 then
        match elemF ts en f (d + 1) i with
        | .error e => .error e
        | .ok (k, j) => kidsF ts en f d nm j (ks ++ [k])
      else kidsF ts en f d nm (i + 1) (addText ks u)
end
def blank (l : Bytes) : Bool := l.all isSp
/-- The document's parts. -/
def parL (ts : List Tok) (en : Nat) : Nat → Nat → Option Node → Except (Int × Nat) Node
  | 0, _, _ => .error (0, 0)
  | f + 1, i, r =>
    match ts[i]? with
    | none => (match r with | some n => .ok n | none => .error ((en : Int), 8))
    | some t =>
      if t.kind = 1 ∧ r.isSome = true then .error (t.pos, 17)
      else if t.kind = 2 then .error (t.pos, 14)
      else if t.kind = 3 ∧ blank t.text = false then .error (t.pos, 7)
      else if t.kind = 3 then parL ts en f (i + 1) r
      else match elemF ts en (2 * ts.length) 1 i with
        | .error e => .error e
        | .ok (n, j) => parL ts en f j (some n)
def parse (l : Bytes) : Except (Int × Nat) Node :=
  if (toks l).2.2 ≠ 0 then .error (((toks l).2.1 : Int), (toks l).2.2)
  else parL (toks l).1 l.length ((toks l).1.length + 1) 0 none
/-! How far an element reaches, and errors are errors. -/
mutual
theorem elemF_ok {ts : List Tok} {en : Nat} : ∀ {f d i : Nat} {n : Node} {j : Nat}, elemF ts en f d i = .ok (n, j) → i < j ∧ j ≤ ts.length
  | 0, _, _, _, _, h => by rw [elemF] at h; cases h
  | f + 1, d, i, n, j, h => by
    rw [elemF] at h
    cases ht : ts[i]? with
    | none => rw [ht] at h; cases h
    | some t =>
      have hi := (List.getElem?_eq_some_iff.1 ht).1
      rw [ht] at h
      simp only at h
      split at h
      · cases h
      · split at h
        · cases h; omega
        · cases hk : kidsF ts en f d t.name (i + 1) [] with
          | error e => rw [hk] at h; cases h
          | ok p =>
            obtain ⟨ks, j'⟩ := p
            rw [hk] at h
            cases h
            have := kidsF_ok hk
            omega
theorem kidsF_ok {ts : List Tok} {en : Nat} : ∀ {f d : Nat} {nm : Bytes} {i : Nat} {ks ks' : List Node} {j : Nat}, kidsF ts en f d nm i ks = .ok (ks', j) → i < j ∧ j ≤ ts.length
  | 0, _, _, _, _, _, _, h => by rw [kidsF] at h; cases h
  | f + 1, d, nm, i, ks, ks', j, h => by
    rw [kidsF] at h
    cases ht : ts[i]? with
    | none => rw [ht] at h; cases h
    | some t =>
      have hi := (List.getElem?_eq_some_iff.1 ht).1
      rw [ht] at h
      simp only at h
      split at h
      · split at h
        · cases h; omega
        · cases h
      · split at h
        · cases he : elemF ts en f (d + 1) i with
          | error e => rw [he] at h; cases h
          | ok p =>
            obtain ⟨k, j'⟩ := p
            rw [he] at h
            have h1 := elemF_ok he
            have h2 := kidsF_ok h
            omega
        · have h2 := kidsF_ok h
          omega
end
mutual
theorem elemF_err {ts : List Tok} {en : Nat} : ∀ {f d i : Nat} {e : Int × Nat}, i < ts.length → 2 * (ts.length - i) ≤ f → elemF ts en f d i = .error e → e.2 ≠ 0
  | 0, _, i, _, hi, hf, h => by omega
  | f + 1, d, i, e, hi, hf, h => by
    rw [elemF] at h
    rw [List.getElem?_eq_getElem hi] at h
    simp only at h
    split at h
    · cases h; simp
    · split at h
      · cases h
      · cases hk : kidsF ts en f d ts[i].name (i + 1) [] with
        | error e => rw [hk] at h; cases h; exact kidsF_err (by omega) (by omega) hk
        | ok p =>
          rw [hk] at h
          cases h
theorem kidsF_err {ts : List Tok} {en : Nat} : ∀ {f d : Nat} {nm : Bytes} {i : Nat} {ks : List Node} {e : Int × Nat}, i ≤ ts.length → 2 * (ts.length - i) + 1 ≤ f → kidsF ts en f d nm i ks = .error e → e.2 ≠ 0
  | 0, _, _, _, _, _, hi, hf, h => by omega
  | f + 1, d, nm, i, ks, e, hi, hf, h => by
    rw [kidsF] at h
    cases ht : ts[i]? with
    | none => rw [ht] at h; cases h; simp
    | some t =>
      have hi := (List.getElem?_eq_some_iff.1 ht).1
      rw [ht] at h
      simp only at h
      split at h
      · split at h
        · cases h
        · cases h; simp
      · split at h
        · cases he : elemF ts en f (d + 1) i with
          | error e => rw [he] at h; cases h; exact elemF_err hi (by omega) he
          | ok p =>
            obtain ⟨k, j'⟩ := p
            rw [he] at h
            have h1 := elemF_ok he
            exact kidsF_err (by omega) (by omega) h
        · exact kidsF_err (by omega) (by omega) h
end
end Go.Proofs.YtclhdppppgjgfaaGreatDoor
set_option linter.unusedVariables false
namespace Go.Proofs.YtclhdppppgjgfaaGreatDoor

/-! More fuel than is needed does not matter. -/
mutual
theorem elemF_fuel {ts : List Tok} {en : Nat} : ∀ {f g d i : Nat}, i < ts.length → 2 * (ts.length - i) ≤ f → 2 * (ts.length - i) ≤ g → elemF ts en f d i = elemF ts en g d i
  | 0, _, _, i, hi, hf, _ => by omega
  | f + 1, 0, _, i, hi, _, hg => by omega
  | f + 1, g + 1, d, i, hi, hf, hg => by
    rw [elemF, elemF, List.getElem?_eq_getElem hi]
    simp only
    rw [kidsF_fuel (f := f) (g := g) (by omega) (by omega) (by omega)]
theorem kidsF_fuel {ts : List Tok} {en : Nat} : ∀ {f g d : Nat} {nm : Bytes} {i : Nat} {ks : List Node}, i ≤ ts.length → 2 * (ts.length - i) + 1 ≤ f → 2 * (ts.length - i) + 1 ≤ g → kidsF ts en f d nm i ks = kidsF ts en g d nm i ks
  | 0, _, _, _, i, _, hi, hf, _ => by omega
  | f + 1, 0, _, _, i, _, hi, _, hg => by omega
  | f + 1, g + 1, d, nm, i, ks, hi, hf, hg => by
    rw [kidsF, kidsF]
    cases ht : ts[i]? with
    | none => rfl
    | some u =>
      have hl := (List.getElem?_eq_some_iff.1 ht).1
      simp only
      rw [elemF_fuel (f := f) (g := g) hl (by omega) (by omega)]
      cases he : elemF ts en g (d + 1) i with
      | error e =>
        simp only
        rw [kidsF_fuel (f := f) (g := g) (i := i + 1) (by omega) (by omega) (by omega)]
      | ok p =>
        obtain ⟨k, j⟩ := p
        have h1 := elemF_ok he
        simp only
        rw [kidsF_fuel (f := f) (g := g) (i := i + 1) (by omega) (by omega) (by omega), kidsF_fuel (f := f) (g := g) (i := j) (by omega) (by omega) (by omega)]
end
theorem parL_succ (ts : List Tok) (en f i : Nat) (r : Option Node) : parL ts en (f + 1) i r = match ts[i]? with
    | none => (match r with | some n => .ok n | none => .error ((en : Int), 8))
    | some t =>
      if t.kind = 1 ∧ r.isSome = true then .error (t.pos, 17)
      else if t.kind = 2 then .error (t.pos, 14)
      else if t.kind = 3 ∧ blank t.text = false then .error (t.pos, 7)
      else if t.kind = 3 then parL ts en f (i + 1) r
      else match elemF ts en (2 * ts.length) 1 i with
        | .error e => .error e
        | .ok (n, j) => parL ts en f j (some n) := by
  rw [parL.eq_def]
  try rfl
theorem parL_fuel {ts : List Tok} {en : Nat} : ∀ {f g i : Nat} {r : Option Node}, i ≤ ts.length → ts.length + 1 - i ≤ f → ts.length + 1 - i ≤ g → parL ts en f i r = parL ts en g i r
  | 0, _, i, _, hi, hf, _ => by omega
  | f + 1, 0, i, _, hi, _, hg => by omega
  | f + 1, g + 1, i, r, hi, hf, hg => by
    rw [parL_succ, parL_succ]
    cases ht : ts[i]? with
    | none => rfl
    | some t =>
      have hl := (List.getElem?_eq_some_iff.1 ht).1
      simp only
      rw [parL_fuel (f := f) (g := g) (i := i + 1) (by omega) (by omega) (by omega)]
      cases he : elemF ts en (2 * ts.length) 1 i with
      | error e => rfl
      | ok p =>
        obtain ⟨n, j⟩ := p
        have h1 := elemF_ok he
        simp only
        rw [parL_fuel (f := f) (g := g) (i := j) (by omega) (by omega) (by omega)]

/-- An open element. -/
structure Fr where
  name : Bytes
  attrs : List Att
  pos : Int
  kids : List Node
def Fr.node (f : Fr) (ks : List Node) : Node := .mk 0 [] f.name f.attrs ks [] f.pos
/-- The builder over tokens; the innermost open element first. -/
def machL (en : Nat) : List Tok → List Fr → Option Node → Except (Int × Nat) Node
  | [], _, r => (match r with | some n => .ok n | none => .error ((en : Int), 8))
  | u :: l, st, r =>
    if u.kind = 1 then
      if r.isSome = true then .error (u.pos, 17)
      else if st.length = 100 then .error (u.pos, 9)
      else if u.empty = true then (match st with | [] => machL en l [] (some (.mk 0 [] u.name u.attrs [] [] u.pos)) | f :: st => machL en l (⟨f.name, f.attrs, f.pos, f.kids ++ [.mk 0 [] u.name u.attrs [] [] u.pos]⟩ :: st) r)
      else machL en l (⟨u.name, u.attrs, u.pos, []⟩ :: st) r
    else if u.kind = 2 then
      (match st with
      | [] => .error (u.pos, 14)
      | f :: st => if f.name = u.name then (match st with | [] => machL en l [] (some (f.node f.kids)) | g :: st => machL en l (⟨g.name, g.attrs, g.pos, g.kids ++ [f.node f.kids]⟩ :: st) r) else .error (u.pos, 14))
    else
      (match st with
      | [] => if blank u.text = true then machL en l [] r else .error (u.pos, 7)
      | f :: st => machL en l (⟨f.name, f.attrs, f.pos, addText f.kids u⟩ :: st) r)
theorem machL_nil (en : Nat) (st : List Fr) (r : Option Node) : machL en [] st r = match r with | some n => .ok n | none => .error ((en : Int), 8) := by rw [machL.eq_def]
theorem machL_cons (en : Nat) (u : Tok) (l : List Tok) (st : List Fr) (r : Option Node) : machL en (u :: l) st r =
    if u.kind = 1 then
      if r.isSome = true then .error (u.pos, 17)
      else if st.length = 100 then .error (u.pos, 9)
      else if u.empty = true then (match st with | [] => machL en l [] (some (.mk 0 [] u.name u.attrs [] [] u.pos)) | f :: st => machL en l (⟨f.name, f.attrs, f.pos, f.kids ++ [.mk 0 [] u.name u.attrs [] [] u.pos]⟩ :: st) r)
      else machL en l (⟨u.name, u.attrs, u.pos, []⟩ :: st) r
    else if u.kind = 2 then
      (match st with
      | [] => .error (u.pos, 14)
      | f :: st => if f.name = u.name then (match st with | [] => machL en l [] (some (f.node f.kids)) | g :: st => machL en l (⟨g.name, g.attrs, g.pos, g.kids ++ [f.node f.kids]⟩ :: st) r) else .error (u.pos, 14))
    else
      (match st with
      | [] => if blank u.text = true then machL en l [] r else .error (u.pos, 7)
      | f :: st => machL en l (⟨f.name, f.attrs, f.pos, addText f.kids u⟩ :: st) r) := by rw [machL.eq_def]
/-- What becomes of the open elements. -/
def unwK (ts : List Tok) (en : Nat) : List Fr → Fr → Nat → Except (Int × Nat) Node
  | [], f, i => (match kidsF ts en (2 * ts.length + 1) 1 f.name i f.kids with | .error e => .error e | .ok (ks, j) => parL ts en (ts.length + 1) j (some (f.node ks)))
  | g :: st, f, i => (match kidsF ts en (2 * ts.length + 1) (st.length + 2) f.name i f.kids with | .error e => .error e | .ok (ks, j) => unwK ts en st ⟨g.name, g.attrs, g.pos, g.kids ++ [f.node ks]⟩ j)
theorem drop_cons_of {ts : List Tok} {i : Nat} {u : Tok} {l : List Tok} (h : ts.drop i = u :: l) : i < ts.length ∧ ts[i]? = some u ∧ ts.drop (i + 1) = l := by
  have hi : i < ts.length := by
    rcases Nat.lt_or_ge i ts.length with h' | h'
    · exact h'
    · rw [List.drop_of_length_le h'] at h; cases h
  rw [List.drop_eq_getElem_cons hi] at h
  have h1 := (List.cons.inj h)
  exact ⟨hi, by rw [List.getElem?_eq_getElem hi, h1.1], h1.2⟩
/-- One step of the kids of an open element. -/
theorem kids_step {ts : List Tok} {en i d : Nat} {u : Tok} {nm : Bytes} {ks : List Node} (hi : i < ts.length) (hu : ts[i]? = some u) :
    kidsF ts en (2 * ts.length + 1) d nm i ks = if u.kind = 2 then (if u.name = nm then .ok (ks, i + 1) else .error (u.pos, 14)) else if u.kind = 1 then (if 100 < d + 1 then .error (u.pos, 9) else if u.empty = true then kidsF ts en (2 * ts.length + 1) d nm (i + 1) (ks ++ [.mk 0 [] u.name u.attrs [] [] u.pos]) else match kidsF ts en (2 * ts.length + 1) (d + 1) u.name (i + 1) [] with | .error e => .error e | .ok (ks', j) => kidsF ts en (2 * ts.length + 1) d nm j (ks ++ [.mk 0 [] u.name u.attrs ks' [] u.pos])) else kidsF ts en (2 * ts.length + 1) d nm (i + 1) (addText ks u) := by
  rw [kidsF, hu]
  simp only
  have hf : ∀ {d nm j ks}, i < j → j ≤ ts.length → kidsF ts en (2 * ts.length) d nm j ks = kidsF ts en (2 * ts.length + 1) d nm j ks := fun h1 h2 => kidsF_fuel h2 (by omega) (by omega)
  obtain ⟨m, hm⟩ : ∃ m, 2 * ts.length = m + 1 := ⟨2 * ts.length - 1, by omega⟩
  split
  · rfl
  · split
    · by_cases h3 : 100 < d + 1
      · rw [if_pos h3, hm, elemF, hu]
        simp only
        rw [if_pos h3]
      · rw [if_neg h3]
        by_cases h4 : u.empty = true
        · rw [if_pos h4]
          have he : elemF ts en (2 * ts.length) (d + 1) i = .ok (.mk 0 [] u.name u.attrs [] [] u.pos, i + 1) := by
            rw [hm, elemF, hu]
            simp only
            rw [if_neg h3, if_pos h4]
          rw [he]
          simp only
          exact hf (by omega) (by omega)
        · rw [if_neg h4]
          cases hk : kidsF ts en (2 * ts.length + 1) (d + 1) u.name (i + 1) [] with
          | error e =>
            have he : elemF ts en (2 * ts.length) (d + 1) i = .error e := by
              rw [hm, elemF, hu]
              simp only
              rw [if_neg h3, if_neg h4, kidsF_fuel (f := m) (g := 2 * ts.length + 1) (i := i + 1) (by omega) (by omega) (by omega), hk]
            rw [he]
          | ok p =>
            obtain ⟨ks', j⟩ := p
            have hj := kidsF_ok hk
            have he : elemF ts en (2 * ts.length) (d + 1) i = .ok (.mk 0 [] u.name u.attrs ks' [] u.pos, j) := by
              rw [hm, elemF, hu]
              simp only
              rw [if_neg h3, if_neg h4, kidsF_fuel (f := m) (g := 2 * ts.length + 1) (i := i + 1) (by omega) (by omega) (by omega), hk]
            rw [he]
            simp only
            exact hf (by omega) (by omega)
    · exact hf (by omega) (by omega)
theorem kids_end {ts : List Tok} {en d : Nat} {nm : Bytes} {ks : List Node} {i : Nat} (hi : ts.length ≤ i) : kidsF ts en (2 * ts.length + 1) d nm i ks = .error ((en : Int), 8) := by
  rw [kidsF, List.getElem?_eq_none hi]
theorem unw_step {ts : List Tok} {en : Nat} : ∀ (st : List Fr) (f : Fr) (i : Nat), unwK ts en st f i = match kidsF ts en (2 * ts.length + 1) (st.length + 1) f.name i f.kids with | .error e => .error e | .ok (ks, j) => (match st with | [] => parL ts en (ts.length + 1) j (some (f.node ks)) | g :: st => unwK ts en st ⟨g.name, g.attrs, g.pos, g.kids ++ [f.node ks]⟩ j)
  | [], f, i => by rw [unwK]; rfl
  | g :: st, f, i => by rw [unwK]; rfl
mutual
theorem mach_unw {ts : List Tok} {en : Nat} (hk : ∀ t ∈ ts, t.kind = 1 ∨ t.kind = 2 ∨ t.kind = 3) : ∀ (l : List Tok) (i : Nat) (st : List Fr) (f : Fr), ts.drop i = l → i ≤ ts.length → st.length + 1 ≤ 100 → machL en l (f :: st) none = unwK ts en st f i
  | [], i, st, f, hl, hi, hs => by
    have : ts.length ≤ i := by have := congrArg List.length hl; simp at this; omega
    rw [machL_nil, unw_step, kids_end this]
  | u :: l, i, st, f, hl, hi, hs => by
    obtain ⟨hlt, hu, hl'⟩ := drop_cons_of hl
    have hu' : u ∈ ts := List.mem_of_getElem? hu
    rw [machL_cons, unw_step, kids_step hlt hu]
    by_cases h1 : u.kind = 1
    · have h2 : ¬ u.kind = 2 := by omega
      rw [if_pos h1, if_neg h2, if_pos h1]
      simp only [Option.isSome_none, Bool.false_eq_true, if_false, List.length_cons]
      by_cases h3 : st.length + 1 = 100
      · rw [if_pos h3, if_pos (by omega)]
      · rw [if_neg h3]
        have hd : ¬ 100 < st.length + 1 + 1 := by omega
        by_cases h4 : u.empty = true
        · rw [if_pos h4, if_neg hd, if_pos h4]
          rw [mach_unw hk l (i + 1) st _ hl' (by omega) hs, unw_step]
          rfl
        · rw [if_neg h4, if_neg hd, if_neg h4, mach_unw hk l (i + 1) (f :: st) _ hl' (by omega) (by simp; omega), unw_step]
          simp only [List.length_cons]
          cases hq : kidsF ts en (2 * ts.length + 1) (st.length + 1 + 1) u.name (i + 1) [] with
          | error e => rfl
          | ok p =>
            obtain ⟨ks, j⟩ := p
            simp only
            rw [unw_step]
            rfl
    · rw [if_neg h1]
      by_cases h2 : u.kind = 2
      · rw [if_pos h2, if_pos h2]
        dsimp only
        by_cases h3 : f.name = u.name
        · rw [if_pos h3, if_pos h3.symm]
          cases st with
          | nil => exact mach_par hk l (i + 1) _ hl' (by omega)
          | cons g st => exact mach_unw hk l (i + 1) st _ hl' (by omega) (by simp at hs; omega)
        · rw [if_neg h3, if_neg (fun e => h3 e.symm)]
      · rw [if_neg h2, if_neg h2, if_neg h1]
        dsimp only
        rw [mach_unw hk l (i + 1) st _ hl' (by omega) hs, unw_step]
        rfl
theorem mach_par {ts : List Tok} {en : Nat} (hk : ∀ t ∈ ts, t.kind = 1 ∨ t.kind = 2 ∨ t.kind = 3) : ∀ (l : List Tok) (i : Nat) (r : Option Node), ts.drop i = l → i ≤ ts.length → machL en l [] r = parL ts en (ts.length + 1) i r
  | [], i, r, hl, hi => by
    have : ts.length ≤ i := by have := congrArg List.length hl; simp at this; omega
    rw [machL_nil, parL_succ, List.getElem?_eq_none this]
  | u :: l, i, r, hl, hi => by
    obtain ⟨hlt, hu, hl'⟩ := drop_cons_of hl
    have hu' : u ∈ ts := List.mem_of_getElem? hu
    have hf : ∀ {j r}, i < j → j ≤ ts.length → parL ts en ts.length j r = parL ts en (ts.length + 1) j r := fun h1 h2 => parL_fuel h2 (by omega) (by omega)
    rw [machL_cons, parL_succ, hu]
    simp only
    by_cases h1 : u.kind = 1
    · have h2 : ¬ u.kind = 2 := by omega
      have h3 : ¬ u.kind = 3 := by omega
      rw [if_pos h1]
      cases r with
      | some n => simp [h1]
      | none =>
        simp only [Option.isSome_none, Bool.false_eq_true, if_false, and_false, h2, h3, false_and]
        rw [if_neg (by simp)]
        obtain ⟨m, hm⟩ : ∃ m, 2 * ts.length = m + 1 := ⟨2 * ts.length - 1, by omega⟩
        rw [hm, elemF, hu]
        simp only
        rw [if_neg (by omega : ¬ 100 < 1)]
        by_cases h4 : u.empty = true
        · rw [if_pos h4, if_pos h4]
          simp only
          rw [hf (by omega) (by omega)]
          exact mach_par hk l (i + 1) _ hl' (by omega)
        · rw [if_neg h4, if_neg h4, mach_unw hk l (i + 1) [] _ hl' (by omega) (by simp), unwK, hm, kidsF_fuel (f := m) (g := m + 1 + 1) (i := i + 1) (by omega) (by omega) (by omega)]
          cases hq : kidsF ts en (m + 1 + 1) 1 u.name (i + 1) [] with
          | error e => rfl
          | ok p =>
            obtain ⟨ks, j⟩ := p
            have hj := kidsF_ok hq
            simp only
            rw [hf (by omega) (by omega)]
            rfl
    · rw [if_neg h1]
      by_cases h2 : u.kind = 2
      · rw [if_pos h2, if_neg (fun h => h1 h.1), if_pos h2]
      · have h3 : u.kind = 3 := by rcases hk u hu' with h | h | h; (· exact absurd h h1); (· exact absurd h h2); exact h
        rw [if_neg h2]
        have n1 : ¬ (u.kind = 1 ∧ r.isSome = true) := fun h => h1 h.1
        rw [if_neg n1, if_neg h2]
        by_cases hb : blank u.text = true
        · have n2 : ¬ (u.kind = 3 ∧ blank u.text = false) := fun h => by rw [hb] at h; cases h.2
          rw [if_pos hb, if_neg n2, if_pos h3, hf (by omega) (by omega)]
          exact mach_par hk l (i + 1) r hl' (by omega)
        · rw [if_neg hb, if_pos ⟨h3, by simpa using hb⟩]
end
end Go.Proofs.YtclhdppppgjgfaaGreatDoor
set_option linter.unusedVariables false
namespace Go.Proofs.YtclhdppppgjgfaaGreatDoor
open Go.RowKit

/-- Pointers to nodes as elements of rows. -/
def ptrE : Elt Nat where
  T := 96
  TS := 50
  c := 1
  bytes := 8
  zero := .pointer none
  El := fun _ _ h cs => cs = [.pointer (some ⟨h, 0, none⟩)]
theorem ptrE_ok : ptrE.Ok where
  info := by kernel_rfl
  list := by kernel_rfl
  zc := rfl
  pos := by decide
  small := by decide
  keep := fun h _ _ => h
  len := fun {w p a cs} h => by rw [show cs = [.pointer (some ⟨a, 0, none⟩)] from h]; rfl
  one := fun {w p a cs} h => by
    intro u hu
    rw [show cs = [.pointer (some ⟨a, 0, none⟩)] from h] at hu
    simp at hu
    subst hu; rfl
/-- A row without its last element. -/
theorem ElRow.shrink {α : Type} {E : Elt α} (hE : E.Ok) {w : World} {base : Nat} {p : Nat → Prop} {A : Option Addr} {n c : Nat} {l : List α} {a : α} (h : ElRow E w base p (.slice A (n + 1) c) (l ++ [a])) : ElRow E w base p (.slice A n c) l := by
  obtain ⟨css, hl, hin, hown⟩ := h
  have hlen : ∀ cs ∈ css, cs.length = E.c := fun cs hcs => by
    obtain ⟨i, hi⟩ := List.getElem?_of_mem hcs
    have hik : i < (l ++ [a]).length := by rw [← hl]; exact (List.getElem?_eq_some_iff.1 hi).1
    exact hE.len (hin i _ cs (List.getElem?_eq_getElem hik) hi)
  have hl' : css.length = l.length + 1 := by simpa using hl
  refine ⟨css.take l.length, by simp [hl'], ?_, ?_⟩
  · intro i b cs hb hc
    have hi := (List.getElem?_eq_some_iff.1 hb).1
    rw [List.getElem?_take, if_pos hi] at hc
    exact hin i b cs (by rw [List.getElem?_append_left hi]; exact hb) hc
  · obtain ⟨hx, hown⟩ := hown
    have hf := flat_len hlen
    have ht : (css.take l.length).flatten = css.flatten.take (l.length * E.c) := by
      obtain ⟨z, hz⟩ : ∃ z, css = css.take l.length ++ [z] := by
        refine ⟨css[l.length]'(by omega), ?_⟩
        rw [← List.take_succ_eq_append_getElem (by omega), List.take_of_length_le (by omega)]
      have h1 : (css.take l.length).flatten.length = l.length * E.c := by
        rw [flat_len (fun cs hcs => hlen cs (List.mem_of_mem_take hcs)), List.length_take, hl', Nat.min_eq_left (by omega)]
      have h5 := congrArg List.flatten hz
      rw [List.flatten_append] at h5
      have h6 : ((css.take l.length).flatten ++ [z].flatten).take (l.length * E.c) = (css.take l.length).flatten := by
        rw [← h1]; exact List.take_left
      rw [← h5] at h6
      exact h6.symm
    rcases hown with ⟨hv, hn⟩ | ⟨g, cap, cur, hv, hg, hh, hc, hm, hcs, htk⟩
    · cases hv
    · rw [List.length_append, List.length_singleton] at hv hc htk
      simp only [Value.slice.injEq, Nat.add_right_cancel_iff] at hv
      obtain ⟨e1, e2, e3⟩ := hv
      subst e1 e2 e3
      refine ⟨?_, .inr ⟨g, c, cur, rfl, hg, hh, by omega, hm, hcs, ?_⟩⟩
      · rw [ht, List.length_take, hf, hl', Nat.min_eq_left (Nat.mul_le_mul_right _ (by omega))]
      · rw [ht, ← htk, List.take_take, Nat.min_eq_left (Nat.mul_le_mul_right _ (by omega))]

/-- An open element with its block and its kids' slice. -/
structure LF where
  fr : Fr
  h : Nat
  v : Value
def LF.blocks (x : LF) : List Nat := x.h :: x.v.ownBlock.toList
/-- The blocks that the builder may still write. -/
def liveB (b : Nat) (vo : Value) (fs : List LF) : List Nat := b :: (vo.ownBlock.toList ++ fs.flatMap LF.blocks)
/-- The blocks of the call that are written no more. -/
def DoneP (w : World) (B b : Nat) (vo : Value) (fs : List LF) (j : Nat) : Prop := B ≤ j ∧ j < w.heap.size ∧ j ∉ liveB b vo fs
def frCells (f : Fr) (A : Option Addr) (c : Nat) (v : Value) : List Value := [.int .i64 0, .string (S []), .string (S f.name), .slice A f.attrs.length c, v, .string (S []), .int .i64 f.pos]
structure FrAt (w : World) (p : Nat → Prop) (x : LF) : Prop where
  cells : ∃ A c, w.heap[x.h]? = some (.cells (frCells x.fr A c x.v).toArray 26 (0, 0)) ∧ AttsP w p (.slice A x.fr.attrs.length c) x.fr.attrs
  kids : ElRow nodeE w (x.h + 1) p x.v x.fr.kids
def bdCells (vo : Value) (cs : List Value) (r : Option Node) : List Value := vo :: (cs ++ [.bool r.isSome])
structure BdAt (w : World) (B b : Nat) (vo : Value) (fs : List LF) (r : Option Node) : Prop where
  blk : ∃ cs : List Value, cs.length = 7 ∧ w.heap[b]? = some (.cells (bdCells vo cs r).toArray 52 (0, 0)) ∧ NodeP w (DoneP w B b vo fs) (r.getD (.mk 0 [] [] [] [] [] 0)) cs
  row : ElRow ptrE w (b + 1) (fun _ => False) vo (fs.reverse.map LF.h)
  frs : ∀ x ∈ fs, FrAt w (DoneP w B b vo fs) x
  nd : (liveB b vo fs).Nodup
  lt : ∀ j ∈ liveB b vo fs, b ≤ j ∧ j < w.heap.size
  base : B ≤ b

section
variable {w W : World} {B b : Nat} {vo vo' : Value} {fs : List LF} {r : Option Node} {x x' : LF}
theorem FrAt.keep {p p' : Nat → Prop} (h : FrAt w p x) (hb : ∀ j ∈ x.blocks, W.heap[j]? = w.heap[j]?) (hk : ∀ j, p j → W.heap[j]? = w.heap[j]?) (hp : ∀ j, p j → p' j) : FrAt W p' x := by
  obtain ⟨⟨A, c, h1, h2⟩, h3⟩ := h
  refine ⟨⟨A, c, (hb x.h (by simp [LF.blocks])).trans h1, h2.keep hk hp⟩, (h3.heap nodeE_ok (fun j hj => hb j (by simp [LF.blocks, hj])) hk).more nodeE_ok hp⟩
/-- Nothing that stood is written. -/
theorem BdAt.grow (h : BdAt w B b vo fs r) (hb : Below w.heap.size w W) : BdAt W B b vo fs r := by
  have hz := hb.size
  have hp : ∀ j, DoneP w B b vo fs j → DoneP W B b vo fs j := fun j hj => ⟨hj.1, by have := hj.2.1; omega, hj.2.2⟩
  have hk : ∀ j, DoneP w B b vo fs j → W.heap[j]? = w.heap[j]? := fun j hj => hb.block j hj.2.1
  obtain ⟨cs, h1, h2, h3⟩ := h.blk
  refine ⟨⟨cs, h1, (hb.block b (h.lt b (by simp [liveB])).2).trans h2, NodeP.keep hk hp _ _ h3⟩, h.row.below ptrE_ok hb (fun k hk => hk.elim), fun x hx => (h.frs x hx).keep (fun j hj => hb.block j (h.lt j ?_).2) hk hp, h.nd, fun j hj => ⟨(h.lt j hj).1, by have := (h.lt j hj).2; omega⟩, h.base⟩
  exact List.mem_cons_of_mem _ (List.mem_append_right _ (List.mem_flatMap.2 ⟨x, hx, hj⟩))
theorem nodup_retop {α : Type} {L M N N' : List α} (h : (L ++ (N ++ M)).Nodup) (hN : N'.Nodup) (hs : ∀ j ∈ N', j ∈ N ∨ (j ∉ L ∧ j ∉ M)) : (L ++ (N' ++ M)).Nodup := by
  rw [List.nodup_append] at h ⊢
  obtain ⟨h1, h2, h3⟩ := h
  rw [List.nodup_append] at h2 ⊢
  obtain ⟨h4, h5, h6⟩ := h2
  refine ⟨h1, ⟨hN, h5, fun a ha b hb e => ?_⟩, fun a ha b hb e => ?_⟩
  · subst e
    rcases hs a ha with h | h
    · exact h6 a h a hb rfl
    · exact h.2 hb
  · subst e
    rcases List.mem_append.1 hb with h | h
    · rcases hs a h with h' | h'
      · exact h3 a ha a (List.mem_append_left _ h') rfl
      · exact h'.1 ha
    · exact h3 a ha a (List.mem_append_right _ h) rfl
theorem live_cons (b : Nat) (vo : Value) (x : LF) (fs : List LF) : liveB b vo (x :: fs) = (b :: vo.ownBlock.toList) ++ (x.blocks ++ fs.flatMap LF.blocks) := by simp [liveB]
/-- The innermost open element's own blocks have been written. -/
theorem BdAt.retop (h : BdAt w B b vo (x :: fs) r) (keep : ∀ j, j < w.heap.size → j ∉ x.blocks → W.heap[j]? = w.heap[j]?) (hz : w.heap.size ≤ W.heap.size) (hh : x'.h = x.h)
    (hown : ∀ g, x'.v.ownBlock = some g → x.v.ownBlock = some g ∨ (w.heap.size ≤ g ∧ g < W.heap.size)) (hfr : FrAt W (DoneP W B b vo (x' :: fs)) x') : BdAt W B b vo (x' :: fs) r := by
  have hsub : ∀ j ∈ x'.blocks, j ∈ x.blocks ∨ (w.heap.size ≤ j ∧ j < W.heap.size) := fun j hj => by
    simp only [LF.blocks, List.mem_cons, Option.mem_toList] at hj ⊢
    rcases hj with rfl | hj
    · exact .inl (.inl hh)
    · rcases hown j hj with h1 | h1
      · exact .inl (.inr h1)
      · exact .inr h1
  have hlive : ∀ j, j ∈ liveB b vo (x' :: fs) → j ∈ liveB b vo (x :: fs) ∨ (w.heap.size ≤ j ∧ j < W.heap.size) := fun j hj => by
    rw [live_cons] at hj ⊢
    rcases List.mem_append.1 hj with h1 | h1
    · exact .inl (List.mem_append_left _ h1)
    · rcases List.mem_append.1 h1 with h2 | h2
      · rcases hsub j h2 with h3 | h3
        · exact .inl (List.mem_append_right _ (List.mem_append_left _ h3))
        · exact .inr h3
      · exact .inl (List.mem_append_right _ (List.mem_append_right _ h2))
  have hp : ∀ j, DoneP w B b vo (x :: fs) j → DoneP W B b vo (x' :: fs) j := fun j hj => ⟨hj.1, by have := hj.2.1; omega, fun h1 => by
    rcases hlive j h1 with h2 | h2
    · exact hj.2.2 h2
    · have := hj.2.1; omega⟩
  have hnx : ∀ j, j ∉ liveB b vo (x :: fs) → j ∉ x.blocks := fun j hj h1 => hj (by rw [live_cons]; exact List.mem_append_right _ (List.mem_append_left _ h1))
  have hk : ∀ j, DoneP w B b vo (x :: fs) j → W.heap[j]? = w.heap[j]? := fun j hj => keep j hj.2.1 (hnx j hj.2.2)
  have hnd := h.nd
  rw [live_cons, List.nodup_append] at hnd
  obtain ⟨n1, n2, n3⟩ := hnd
  rw [List.nodup_append] at n2
  obtain ⟨n4, n5, n6⟩ := n2
  have hnhead : ∀ j ∈ b :: vo.ownBlock.toList, j ∉ x.blocks := fun j hj h1 => n3 j hj j (List.mem_append_left _ h1) rfl
  have hlt : ∀ j ∈ liveB b vo (x :: fs), j < w.heap.size := fun j hj => (h.lt j hj).2
  obtain ⟨cs, h1, h2, h3⟩ := h.blk
  refine ⟨⟨cs, h1, (keep b (hlt b (by simp [liveB])) (hnhead b (by simp))).trans h2, NodeP.keep hk hp _ _ h3⟩, ?_, ?_, ?_, ?_, h.base⟩
  · have := h.row.heap ptrE_ok (w' := W) (fun j hj => keep j (hlt j (by rw [live_cons]; simp [hj])) (hnhead j (by simp [hj]))) (fun k hk => hk.elim)
    simpa [hh] using this
  · intro y hy
    rcases List.mem_cons.1 hy with rfl | hy
    · exact hfr
    · exact (h.frs y (List.mem_cons_of_mem _ hy)).keep (fun j hj => keep j (hlt j (by rw [live_cons]; exact List.mem_append_right _ (List.mem_append_right _ (List.mem_flatMap.2 ⟨y, hy, hj⟩)))) (fun h4 => n6 j h4 j (List.mem_flatMap.2 ⟨y, hy, hj⟩) rfl)) hk hp
  · rw [live_cons]
    have h0 := h.nd
    rw [live_cons] at h0
    refine nodup_retop h0 ?_ (fun j hj => ?_)
    · simp only [LF.blocks]
      cases ho : x'.v.ownBlock with
      | none => simp
      | some g =>
        simp only [Option.toList_some, List.nodup_cons, List.mem_singleton, List.not_mem_nil, not_false_eq_true, List.nodup_nil, and_true]
        intro e
        rcases hown g ho with h4 | h4
        · simp only [LF.blocks, h4, Option.toList_some, List.nodup_cons, List.mem_singleton] at n4
          exact n4.1 (by rw [← hh]; exact e)
        · have := hlt x.h (by rw [live_cons]; simp [LF.blocks])
          omega
    · rcases hsub j hj with h4 | h4
      · exact .inl h4
      · right
        constructor
        · intro h5
          have := hlt j (by rw [live_cons]; exact List.mem_append_left _ h5)
          omega
        · intro h5
          have := hlt j (by rw [live_cons]; exact List.mem_append_right _ (List.mem_append_right _ h5))
          omega
  · intro j hj
    rcases hlive j hj with h4 | h4
    · have := h.lt j h4; omega
    · have := h.lt b (by simp [liveB]); omega
/-- A new open element. -/
theorem BdAt.push (h : BdAt w B b vo fs r) (keep : ∀ j, j < w.heap.size → j ≠ b → vo.ownBlock ≠ some j → W.heap[j]? = w.heap[j]?) (hz : w.heap.size ≤ W.heap.size)
    (hblk : ∀ cs, w.heap[b]? = some (.cells (bdCells vo cs r).toArray 52 (0, 0)) → W.heap[b]? = some (.cells (bdCells vo' cs r).toArray 52 (0, 0)))
    (hrow : ElRow ptrE W (b + 1) (fun _ => False) vo' (fs.reverse.map LF.h ++ [x.h])) (hx : w.heap.size ≤ x.h) (hx2 : x.h < W.heap.size) (hxv : x.v.ownBlock = none)
    (hown : ∀ g, vo'.ownBlock = some g → (vo.ownBlock = some g ∨ (w.heap.size ≤ g ∧ g < W.heap.size)) ∧ g ≠ x.h) (hfr : FrAt W (DoneP W B b vo' (x :: fs)) x) : BdAt W B b vo' (x :: fs) r := by
  have hxb : x.blocks = [x.h] := by simp [LF.blocks, hxv]
  have hlive : ∀ j, j ∈ liveB b vo' (x :: fs) → j ∈ liveB b vo fs ∨ (w.heap.size ≤ j ∧ j < W.heap.size) := fun j hj => by
    simp only [liveB, List.flatMap_cons, hxb, List.mem_cons, List.mem_append, Option.mem_toList, List.not_mem_nil, or_false] at hj ⊢
    rcases hj with rfl | hj | rfl | hj
    · exact .inl (.inl rfl)
    · rcases (hown j hj).1 with h1 | h1
      · exact .inl (.inr (.inl h1))
      · exact .inr h1
    · exact .inr ⟨hx, hx2⟩
    · exact .inl (.inr (.inr hj))
  have hp : ∀ j, DoneP w B b vo fs j → DoneP W B b vo' (x :: fs) j := fun j hj => ⟨hj.1, by have := hj.2.1; omega, fun h1 => by
    rcases hlive j h1 with h2 | h2
    · exact hj.2.2 h2
    · have := hj.2.1; omega⟩
  have hk : ∀ j, DoneP w B b vo fs j → W.heap[j]? = w.heap[j]? := fun j hj => keep j hj.2.1 (fun e => hj.2.2 (by subst e; simp [liveB])) (fun e => hj.2.2 (by simp [liveB, e]))
  have hnd := h.nd
  have hlt : ∀ j ∈ liveB b vo fs, j < w.heap.size := fun j hj => (h.lt j hj).2
  simp only [liveB, List.nodup_cons, List.mem_append, not_or] at hnd
  obtain ⟨⟨nb1, nb2⟩, nd2⟩ := hnd
  rw [List.nodup_append] at nd2
  obtain ⟨nd3, nd4, nd5⟩ := nd2
  obtain ⟨cs, h1, h2, h3⟩ := h.blk
  refine ⟨⟨cs, h1, hblk cs h2, NodeP.keep hk hp _ _ h3⟩, by simpa using hrow, ?_, ?_, ?_, h.base⟩
  · intro y hy
    rcases List.mem_cons.1 hy with rfl | hy
    · exact hfr
    · refine (h.frs y hy).keep (fun j hj => ?_) hk hp
      have hjm : j ∈ fs.flatMap LF.blocks := List.mem_flatMap.2 ⟨y, hy, hj⟩
      exact keep j (hlt j (by simp only [liveB, List.mem_cons, List.mem_append]; exact .inr (.inr hjm))) (fun e => nb2 (e ▸ hjm)) (fun e => nd5 j (by simp [e]) j hjm rfl)
  · simp only [liveB, List.flatMap_cons, hxb, List.nodup_cons, List.mem_append, not_or, List.singleton_append]
    have hbl := hlt b (by simp [liveB])
    refine ⟨⟨fun e => ?_, by simp only [List.mem_cons, not_or]; exact ⟨by omega, nb2⟩⟩, ?_⟩
    · simp only [Option.mem_toList] at e
      rcases (hown b e).1 with h4 | h4
      · exact nb1 (by simp [h4])
      · omega
    · rw [List.nodup_append]
      refine ⟨?_, List.nodup_cons.2 ⟨fun e => ?_, nd4⟩, fun a ha c hc e => ?_⟩
      · cases vo'.ownBlock <;> simp
      · have := hlt x.h (by simp only [liveB, List.mem_cons, List.mem_append]; exact .inr (.inr e)); omega
      · subst e
        simp only [Option.mem_toList] at ha
        rcases List.mem_cons.1 hc with h4 | h4
        · exact (hown a ha).2 h4
        · rcases (hown a ha).1 with h5 | h5
          · exact nd5 a (by simp [h5]) a h4 rfl
          · have := hlt a (by simp only [liveB, List.mem_cons, List.mem_append]; exact .inr (.inr h4)); omega
  · intro j hj
    rcases hlive j hj with h4 | h4
    · have := h.lt j h4; omega
    · have := h.lt b (by simp [liveB]); omega
end
end Go.Proofs.YtclhdppppgjgfaaGreatDoor
set_option linter.unusedVariables false
namespace Go.Proofs.YtclhdppppgjgfaaGreatDoor
open Go.RowKit

section
variable {w W : World} {B b : Nat} {vo vo' : Value} {fs : List LF} {r : Option Node} {x x' : LF}
theorem done_retop (hz : w.heap.size ≤ W.heap.size) (hh : x'.h = x.h) (hown : ∀ g, x'.v.ownBlock = some g → x.v.ownBlock = some g ∨ (w.heap.size ≤ g ∧ g < W.heap.size)) : ∀ j, DoneP w B b vo (x :: fs) j → DoneP W B b vo (x' :: fs) j := fun j hj => by
  refine ⟨hj.1, by have := hj.2.1; omega, fun h1 => ?_⟩
  have h2 := hj.2.2
  rw [live_cons] at h1 h2
  rcases List.mem_append.1 h1 with h3 | h3
  · exact h2 (List.mem_append_left _ h3)
  · rcases List.mem_append.1 h3 with h4 | h4
    · simp only [LF.blocks, List.mem_cons, Option.mem_toList] at h4
      rcases h4 with h5 | h5
      · exact h2 (List.mem_append_right _ (List.mem_append_left _ (by simp [LF.blocks, h5, hh])))
      · rcases hown j h5 with h6 | h6
        · exact h2 (List.mem_append_right _ (List.mem_append_left _ (by simp [LF.blocks, h6])))
        · have := hj.2.1; omega
    · exact h2 (List.mem_append_right _ (List.mem_append_right _ h4))
/-- The innermost open element is taken off. -/
theorem BdAt.pop (h : BdAt w B b vo (x :: fs) r) (keep : ∀ j, j < w.heap.size → j ≠ b → W.heap[j]? = w.heap[j]?) (hz : w.heap.size ≤ W.heap.size)
    (hblk : ∀ cs, w.heap[b]? = some (.cells (bdCells vo cs r).toArray 52 (0, 0)) → W.heap[b]? = some (.cells (bdCells vo' cs r).toArray 52 (0, 0)))
    (hrow : ElRow ptrE W (b + 1) (fun _ => False) vo' (fs.reverse.map LF.h)) (hown : vo'.ownBlock = vo.ownBlock) :
    BdAt W B b vo' fs r ∧ ∃ A c, w.heap[x.h]? = some (.cells (frCells x.fr A c x.v).toArray 26 (0, 0)) ∧ NodeP W (DoneP W B b vo' fs) (x.fr.node x.fr.kids) (frCells x.fr A c x.v) := by
  have hlive : ∀ j, j ∈ liveB b vo' fs → j ∈ liveB b vo (x :: fs) := fun j hj => by
    simp only [liveB, hown, List.flatMap_cons, List.mem_cons, List.mem_append] at hj ⊢
    rcases hj with h1 | h1 | h1
    · exact .inl h1
    · exact .inr (.inl h1)
    · exact .inr (.inr (.inr h1))
  have hp : ∀ j, DoneP w B b vo (x :: fs) j → DoneP W B b vo' fs j := fun j hj => ⟨hj.1, by have := hj.2.1; omega, fun h1 => hj.2.2 (hlive j h1)⟩
  have hk : ∀ j, DoneP w B b vo (x :: fs) j → W.heap[j]? = w.heap[j]? := fun j hj => keep j hj.2.1 (fun e => hj.2.2 (by subst e; simp [liveB]))
  have hnd := h.nd
  have hlt := h.lt
  rw [live_cons, List.nodup_append] at hnd
  obtain ⟨n1, n2, n3⟩ := hnd
  rw [List.nodup_append] at n2
  obtain ⟨n4, n5, n6⟩ := n2
  have hneb : ∀ j ∈ x.blocks ++ fs.flatMap LF.blocks, j ≠ b := fun j hj e => n3 b (by simp) j hj e.symm
  have hxd : ∀ j ∈ x.blocks, DoneP W B b vo' fs j := fun j hj => by
    have h1 := hlt j (by rw [live_cons]; exact List.mem_append_right _ (List.mem_append_left _ hj))
    refine ⟨by have := h.base; omega, by omega, fun h2 => ?_⟩
    simp only [liveB, hown, List.mem_cons, List.mem_append] at h2
    rcases h2 with h3 | h3 | h3
    · exact hneb j (List.mem_append_left _ hj) h3
    · exact n3 j (by simp only [List.mem_cons]; exact .inr h3) j (List.mem_append_left _ hj) rfl
    · exact n6 j hj j h3 rfl
  obtain ⟨cs, h1, h2, h3⟩ := h.blk
  refine ⟨⟨⟨cs, h1, hblk cs h2, NodeP.keep hk hp _ _ h3⟩, hrow, fun y hy => ?_, ?_, fun j hj => ⟨(hlt j (hlive j hj)).1, by have := (hlt j (hlive j hj)).2; omega⟩, h.base⟩, ?_⟩
  · refine (h.frs y (List.mem_cons_of_mem _ hy)).keep (fun j hj => ?_) hk hp
    have hjm : j ∈ fs.flatMap LF.blocks := List.mem_flatMap.2 ⟨y, hy, hj⟩
    exact keep j (hlt j (by rw [live_cons]; exact List.mem_append_right _ (List.mem_append_right _ hjm))).2 (hneb j (List.mem_append_right _ hjm))
  · have : liveB b vo' fs = (b :: vo.ownBlock.toList) ++ fs.flatMap LF.blocks := by simp [liveB, hown]
    rw [this, List.nodup_append]
    exact ⟨n1, n5, fun a ha c hc => n3 a ha c (List.mem_append_right _ hc)⟩
  · obtain ⟨⟨A, c, f1, f2⟩, f3⟩ := h.frs x (by simp)
    refine ⟨A, c, f1, ?_⟩
    have e1 : AttsP W (DoneP W B b vo' fs) (.slice A x.fr.attrs.length c) x.fr.attrs := f2.keep hk hp
    have e2 := f3.heap nodeE_ok (w' := W) (fun j hj => keep j (hlt j (by rw [live_cons]; simp [LF.blocks, hj])).2 (hneb j (List.mem_append_left _ (by simp [LF.blocks, hj])))) hk
    have e3 := (e2.elsP nodeE_ok (p' := DoneP W B b vo' fs) hp (fun j hj => hxd j (by simp [LF.blocks, hj]))).nodesP
    have := NodeP.of_form (n := x.fr.node x.fr.kids) (va := .slice A x.fr.attrs.length c) (vk := x.v) e1 e3
    exact this
/-- The root is laid. -/
theorem BdAt.root {n : Node} {cs : List Value} (h : BdAt w B b vo [] r) (keep : ∀ j, j < w.heap.size → j ≠ b → W.heap[j]? = w.heap[j]?) (hz : w.heap.size ≤ W.heap.size)
    (hblk : W.heap[b]? = some (.cells (bdCells vo cs (some n)).toArray 52 (0, 0))) (hn : NodeP w (DoneP w B b vo []) n cs) : BdAt W B b vo [] (some n) := by
  have hp : ∀ j, DoneP w B b vo [] j → DoneP W B b vo [] j := fun j hj => ⟨hj.1, by have := hj.2.1; omega, hj.2.2⟩
  have hk : ∀ j, DoneP w B b vo [] j → W.heap[j]? = w.heap[j]? := fun j hj => keep j hj.2.1 (fun e => hj.2.2 (by subst e; simp [liveB]))
  have hnd := h.nd
  refine ⟨⟨cs, hn.len, hblk, NodeP.keep hk hp _ _ hn⟩, h.row.heap ptrE_ok (fun j hj => keep j (h.lt j (by simp [liveB, hj])).2 (fun e => ?_)) (fun k hk => hk.elim), (fun x hx => by cases hx), h.nd, fun j hj => ⟨(h.lt j hj).1, by have := (h.lt j hj).2; omega⟩, h.base⟩
  subst e
  simp [liveB, hj] at hnd
end
/-- A struct stored whole into cells of a greater block. -/
theorem run_store_mid {w : World} {g off : Nat} {ty T : TypeId} {cur : Array Value} {cs : List Value} (hh : w.heap[g]? = some (.cells cur T (0, 0))) (hi : (Tryz.prog.info? ty).map (·.size) = some cs.length) (hle : off + cs.length ≤ cur.size) (h1 : ∀ u ∈ cs, u.oneCell' = true) :
    (storeVar ty ⟨g, off, none⟩ (.agg cs.toArray)).run Tryz.prog w = .ok () (w.setRow g (cur.toList.take off ++ cs ++ cur.toList.drop (off + cs.length)).toArray) := by
  have hst := run_storeCells_at Tryz.prog g off T cs 0 cur w hh (by omega) h1
  cases hq : Tryz.prog.info? ty with
  | none => simp [hq] at hi
  | some i =>
    have hs' : cs.length = i.size := by simp [hq] at hi; omega
    simp [storeVar, sizeOf, typeInfo, hq, Value.cells, hs']
    rw [hs'] at hst
    simpa using hst
theorem wp_store_mid {ops : Array Oper} {rest : List Oper} {o : Oper} {a : Act} {w : World} {Q : Exit → Act → World → Prop} (hgd : o.guard = none) (ty : TypeId) (x y : Operand) (ho : o.op = .store ty x y)
    (g off : Nat) (T : TypeId) (cur : Array Value) (cs : List Value) (hx : a.eval x = .pointer (some ⟨g, off, none⟩)) (hy : a.eval y = .agg cs.toArray) (hg : w.heap[g]? = some (.cells cur T (0, 0))) (hi : (Tryz.prog.info? ty).map (·.size) = some cs.length) (hle : off + cs.length ≤ cur.size) (h1 : ∀ u ∈ cs, u.oneCell' = true)
    (h : ∀ w', w'.heap[g]? = some (.cells (cur.toList.take off ++ cs ++ cur.toList.drop (off + cs.length)).toArray T (0, 0)) → Upd g w w' → wpList Tryz.prog ops Q rest (a.put o.dst undef) w') : wpList Tryz.prog ops Q (o :: rest) a w := by
  refine wpList_plain hgd fun K hK => ?_
  unfold Oper.wp execOp
  simp only [ho, hx, hy, Instr.storeAt, Instr.sureAddr, Sem.run_bind, Sem.run_pure, Result.andThen_ok, run_store_mid hg hi hle h1]
  exact hK _ _ (h _ (setRow_heap w g cur _ T (0, 0) hg) (upd_setRow w g _))
end Go.Proofs.YtclhdppppgjgfaaGreatDoor
