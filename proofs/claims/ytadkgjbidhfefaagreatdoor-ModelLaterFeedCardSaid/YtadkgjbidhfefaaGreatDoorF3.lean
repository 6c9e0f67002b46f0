/-
  Several texts in one file, in build order:
  - Walks of chapter 13: FeedKey, of the program and of the reference.
  - Walks of chapter 13: FeedKey (the program).
  - Walks of chapter 13: the later one of two feeds (the program's generic function).
  - Walks of chapter 13: LaterFeed (the program and the reference).
  - Walks of chapter 13: LaterFeed (the reference).
  - Walks of chapter 13: equality of paths, of lists of entries, of feeds (program and reference) and of archives.
  - Walks of chapter 13: equality of feeds (program and reference) and of archives.
  - Plain laws of chapter 13: the later one of two feeds. No program.
  - Walks of chapter 13's statements: is a feed too large to be tested?
  - Chapter 13's statements: the examples of the chapter.
-/
import Derived.Test.YtadkgjbidhfefaaGreatDoorKeyR13b
import Derived.Test.YtadkgjbidhfefaaGreatDoorF4
import Derived.Deep.DeepCutAuto
import Derived.Test.YtadkgjbidhfefaaGreatDoorBox13
import Derived.Test.YtadkgjbidhfefaaGreatDoorLat13
import Derived.Test.YtadkgjbidhfefaaGreatDoorF2
import Derived.Test.YtadkgjbidhfefaaGreatDoorEqE13
import Derived.Test.YtadkgjbidhfefaaGreatDoorZOrdf13
import Derived.Test.YtadkgjbidhfefaaGreatDoorJcon
import Derived.Test.YtadkgjbidhfefaaGreatDoorZRchA13
set_option linter.unusedVariables false
namespace Go.Proofs.YtadkgjbidhfefaaGreatDoor
open Go.RowKit

theorem feeVal_fit (f : Fe) (h : -9223372036854775808 ≤ f.upd ∧ f.upd ≤ 9223372036854775807) (hs : FSz f) : JFit (feeVal f) := by
  have hp := hs.path
  refine fit_jarr _ (by simp) fun x hx => ?_
  rcases List.mem_append.1 hx with hx | hx
  · rcases List.mem_cons.1 hx with rfl | hx
    · refine fit_jarr _ (by simp; omega) fun y hy => ?_
      obtain ⟨s, _, rfl⟩ := List.mem_map.1 hy
      exact fit_jstr s
    · obtain ⟨s, _, rfl⟩ := List.mem_map.1 hx
      exact fit_jstr s
  · rw [List.mem_singleton.1 hx]; exact fit_jint _ h
theorem feeVal_ful (f : Fe) : jful (feeVal f) = 6 + (f.path.length + (f.path.map List.length).sum) + (f.id.length + f.title.length + f.link.length) := by
  unfold feeVal
  rw [jful_jarr, jfulL_app, jfulL, jful_jarr, jfulL_map_jstr, jfulL_map_jstr, jfulL, jfulL, jful_jint]
  simp
  omega

set_option maxHeartbeats 4000000 in
set_option maxRecDepth 100000 in
theorem refFeedKey_any (f : Fe) (u : Value) (w : World) (hf : -9223372036854775808 ≤ f.upd ∧ f.upd ≤ 9223372036854775807) (hs : FSz f) (hu : FeeV w (· < w.heap.size) f u) :
    Calls Tryz.prog 22 #[u] w fun x w' => x = .returned (.string (S (keyOf (feeVal f)))) ∧ Below w.heap.size w w' := by
  rw [key_fee]
  obtain ⟨PA, pc, EA, ec, rfl, hp, he, hpc, hec⟩ := hu.open_
  have hhead := hs.head
  have hpl := hs.path
  have hps := hs.strs
  have hqp := fun (W : World) (hW : Below w.heap.size w W) => refQuoteL_any f.path _ W (hp.keep strE_ok hW.block (fun k hk => Nat.lt_of_lt_of_le hk hW.size)) (by omega) (by omega)
  have hq := fun (W : World) (b : Nat) (hb : W.heap[b]? = some (.cells #[.string (S f.id), .string (S f.title), .string (S f.link)] 9)) => refQuoteL_any (strsF f) _ W (els_three hb) (by simp [strsF]) (by simp [strsF]; omega)
  have hd := fun W => decimal_any f.upd hf.1 hf.2 W
  have hil := itoa_len f.upd hf.1 hf.2
  have hql : (quoL (strsF f)).length ≤ 900000 := by
    have := jtxL_jstr_len true (strsF f)
    unfold quoL
    split
    · simp only [strsF, List.map_cons, List.map_nil, List.sum_cons, List.sum_nil, List.length_cons, List.length_nil] at this ⊢; omega
    · simp
  have hqlp : (quoL f.path).length ≤ 1200000 := by
    have := jtxL_jstr_len true f.path
    unfold quoL
    split
    · omega
    · simp
  have hx : ∀ W, Below (w.heap.size + 1) (w.alloc (.cells #[.slice PA f.path.length pc, .string (S f.id), .string (S f.title), .string (S f.link), .int .i64 f.upd, .slice EA f.ents.length ec] 25)) W → W.cell? ⟨w.heap.size, 0, none⟩ = some (.slice PA f.path.length pc) ∧ W.cell? ⟨w.heap.size, 1, none⟩ = some (.string (S f.id)) ∧ W.cell? ⟨w.heap.size, 2, none⟩ = some (.string (S f.title)) ∧ W.cell? ⟨w.heap.size, 3, none⟩ = some (.string (S f.link)) ∧ W.cell? ⟨w.heap.size, 4, none⟩ = some (.int .i64 f.upd) := fun W hW => by
    obtain ⟨k0, k1, k2, k3, k4, k5⟩ := cells6 ((hW.block w.heap.size (by omega)).trans (heap_alloc_new w (.cells #[.slice PA f.path.length pc, .string (S f.id), .string (S f.title), .string (S f.link), .int .i64 f.upd, .slice EA f.ents.length ec] 25)))
    exact ⟨k0, k1, k2, k3, k4⟩
  have KEEP := Lib.hid hx
  have HA0 := Lib.hid (show Below w.heap.size w (w.alloc (.cells #[.slice PA f.path.length pc, .string (S f.id), .string (S f.title), .string (S f.link), .int .i64 f.upd, .slice EA f.ents.length ec] 25)) from (Below.refl _ _).alloc (Nat.le_refl _) _)
  have HD := Lib.hid hd
  generalize quoL (strsF f) = Q at *
  generalize quoL f.path = PQ at *
  generalize f.path.length = pn at *
  generalize Lib.itoa f.upd = N at *
  have HQ := Lib.hid hq
  have HQP := Lib.hid hqp
  clear hx hd hq hqp hf hs hu hp he
  by_cases hQ : Q = []
  · subst hQ
    rw [if_pos (.inl rfl)]
    obtain ⟨k0, k1, k2, k3, k4⟩ := KEEP.out _ (Below.refl _ _)
    go_enter Tryz.func22, Tryz.ntmps22
    go_wp2_with (first
      | (go_at_call 45; (with_reducible refine (HQP.out _ HA0.out).mono ?_); rintro x w1 ⟨rfl, hb1⟩; have r1 := (Below.refl (w.heap.size + 1) (w.alloc (.cells #[.slice PA pn pc, .string (S f.id), .string (S f.title), .string (S f.link), .int .i64 f.upd, .slice EA f.ents.length ec] 25))).trans (hb1.mono (by simp)); have HR1 := Lib.hid r1; clear k0 k1 k2 k3 k4 hb1; obtain ⟨k0, k1, k2, k3, k4⟩ := KEEP.out _ r1; clear r1)
      | (go_at_call 45; (with_reducible refine (HQ.out _ _ (heap_alloc_new w1 _)).mono ?_); rintro x w2 ⟨rfl, hb2⟩; have HR2 := Lib.hid ((HR1.out.alloc (by have := HR1.out.size; simpa using this) (.cells #[.string (S f.id), .string (S f.title), .string (S f.link)] 9)).trans (hb2.mono (by have := HR1.out.size; simp at this; simp; omega))); clear k0 k1 k2 k3 k4 hb2; obtain ⟨k0, k1, k2, k3, k4⟩ := KEEP.out _ HR2.out))
    go_ret
    exact ⟨rfl, HA0.out.trans (HR2.out.mono (Nat.le_succ _))⟩
  · have t : Q.isEmpty = false := by cases Q with | nil => exact absurd rfl hQ | cons _ _ => rfl
    have t2 : (Q == []) = false := by rw [beq_eq_false_iff_ne]; exact hQ
    by_cases hP : PQ = [] ∧ 0 < pn
    · obtain ⟨hP, hpn⟩ := hP
      subst hP
      have hpn' : (0 : Int) < pn := by omega
      rw [if_pos (.inr ⟨rfl, hpn⟩)]
      have HPN := Lib.hid hpn
      clear hpn hQ
      obtain ⟨k0, k1, k2, k3, k4⟩ := KEEP.out _ (Below.refl _ _)
      go_enter Tryz.func22, Tryz.ntmps22
      go_wp2_with (first
        | (go_at_call 45; (with_reducible refine (HQP.out _ HA0.out).mono ?_); rintro x w1 ⟨rfl, hb1⟩; have r1 := (Below.refl (w.heap.size + 1) (w.alloc (.cells #[.slice PA pn pc, .string (S f.id), .string (S f.title), .string (S f.link), .int .i64 f.upd, .slice EA f.ents.length ec] 25))).trans (hb1.mono (by simp)); have HR1 := Lib.hid r1; clear k0 k1 k2 k3 k4 hb1; obtain ⟨k0, k1, k2, k3, k4⟩ := KEEP.out _ r1; clear r1)
        | (go_at_call 45; (with_reducible refine (HQ.out _ _ (heap_alloc_new w1 _)).mono ?_); rintro x w2 ⟨rfl, hb2⟩; have hz1 : w.heap.size + 1 ≤ w1.heap.size := (by have := HR1.out.size; simpa using this); have HR2 := Lib.hid ((HR1.out.alloc hz1 (.cells #[.string (S f.id), .string (S f.title), .string (S f.link)] 9)).trans (hb2.mono (by simp; omega))); clear k0 k1 k2 k3 k4 hb2; obtain ⟨k0, k1, k2, k3, k4⟩ := KEEP.out _ HR2.out))
      go_ret
      exact ⟨rfl, HA0.out.trans (HR2.out.mono (Nat.le_succ _))⟩
    · rw [if_neg (fun h => h.elim hQ hP)]
      obtain ⟨L1, e1⟩ : ∃ L1 : Bytes, L1 = [91, 91] ++ PQ := ⟨_, rfl⟩
      obtain ⟨L2, e2⟩ : ∃ L2 : Bytes, L2 = L1 ++ [93, 44] := ⟨_, rfl⟩
      obtain ⟨L3, e3⟩ : ∃ L3 : Bytes, L3 = L2 ++ Q := ⟨_, rfl⟩
      obtain ⟨L4, e4⟩ : ∃ L4 : Bytes, L4 = L3 ++ [44] := ⟨_, rfl⟩
      obtain ⟨L5, e5⟩ : ∃ L5 : Bytes, L5 = L4 ++ N := ⟨_, rfl⟩
      obtain ⟨L6, e6⟩ : ∃ L6 : Bytes, L6 = L5 ++ [93] := ⟨_, rfl⟩
      have g1 : ∀ W : World, (Op.stringOp .add ⟨#[91, 91]⟩ (S PQ)).run Tryz.prog W = .ok (.string (S L1)) W := run_catJ [91, 91] PQ L1 e1 (by simp only [List.length_cons, List.length_nil]; omega)
      have g2 : ∀ W : World, (Op.stringOp .add (S L1) ⟨#[93, 44]⟩).run Tryz.prog W = .ok (.string (S L2)) W := run_catJ L1 [93, 44] L2 e2 (by rw [e1]; simp only [List.length_append, List.length_cons, List.length_nil]; omega)
      have g3 : ∀ W : World, (Op.stringOp .add (S L2) (S Q)).run Tryz.prog W = .ok (.string (S L3)) W := run_catJ L2 Q L3 e3 (by rw [e2, e1]; simp only [List.length_append, List.length_cons, List.length_nil]; omega)
      have g4 : ∀ W : World, (Op.stringOp .add (S L3) ⟨#[44]⟩).run Tryz.prog W = .ok (.string (S L4)) W := run_catJ L3 [44] L4 e4 (by rw [e3, e2, e1]; simp only [List.length_append, List.length_cons, List.length_nil]; omega)
      have g5 : ∀ W : World, (Op.stringOp .add (S L4) (S N)).run Tryz.prog W = .ok (.string (S L5)) W := run_catJ L4 N L5 e5 (by rw [e4, e3, e2, e1]; simp only [List.length_append, List.length_cons, List.length_nil]; omega)
      have g6 : ∀ W : World, (Op.stringOp .add (S L5) ⟨#[93]⟩).run Tryz.prog W = .ok (.string (S L6)) W := run_catJ L5 [93] L6 e6 (by rw [e5, e4, e3, e2, e1]; simp only [List.length_append, List.length_cons, List.length_nil]; omega)
      have he : L6 = [91, 91] ++ PQ ++ [93, 44] ++ Q ++ [44] ++ N ++ [93] := by rw [e6, e5, e4, e3, e2, e1]
      rw [← he]
      have hways : (PQ == []) = false ∨ PQ = [] ∧ ¬ (0 : Int) < pn := by
        by_cases h : PQ = []
        · exact .inr ⟨h, fun h2 => hP ⟨h, by omega⟩⟩
        · exact .inl (by rw [beq_eq_false_iff_ne]; exact h)
      have hways2 : PQ.isEmpty = (PQ == []) := by cases PQ <;> rfl
      clear e1 e2 e3 e4 e5 e6 he hQ hP
      obtain ⟨k0, k1, k2, k3, k4⟩ := KEEP.out _ (Below.refl _ _)
      rcases hways with t3 | ⟨rfl, t4⟩
      · have t5 := hways2.trans t3
        clear hways2
        go_enter Tryz.func22, Tryz.ntmps22
        go_wp2_with (first
          | (go_at_call 45; (with_reducible refine (HQP.out _ HA0.out).mono ?_); rintro x w1 ⟨rfl, hb1⟩; have r1 := (Below.refl (w.heap.size + 1) (w.alloc (.cells #[.slice PA pn pc, .string (S f.id), .string (S f.title), .string (S f.link), .int .i64 f.upd, .slice EA f.ents.length ec] 25))).trans (hb1.mono (by simp)); have HR1 := Lib.hid r1; clear k0 k1 k2 k3 k4 hb1; obtain ⟨k0, k1, k2, k3, k4⟩ := KEEP.out _ r1; clear r1)
          | (go_at_call 45; (with_reducible refine (HQ.out _ _ (heap_alloc_new w1 _)).mono ?_); rintro x w2 ⟨rfl, hb2⟩; have hz1 : w.heap.size + 1 ≤ w1.heap.size := (by have := HR1.out.size; simpa using this); have HR2 := Lib.hid ((HR1.out.alloc hz1 (.cells #[.string (S f.id), .string (S f.title), .string (S f.link)] 9)).trans (hb2.mono (by simp; omega))); clear k0 k1 k2 k3 k4 hb2; obtain ⟨k0, k1, k2, k3, k4⟩ := KEEP.out _ HR2.out)
          | (go_at_call 46; refine (HD.out _).mono ?_; rintro x w3 ⟨rfl, hb3⟩; have HR3 := Lib.hid (HR2.out.trans (hb3.mono (by have := HR2.out.size; simpa using this))); clear hb3))
        go_ret
        exact ⟨rfl, HA0.out.trans (HR3.out.mono (Nat.le_succ _))⟩
      · clear hways2
        go_enter Tryz.func22, Tryz.ntmps22
        go_wp2_with (first
          | (go_at_call 45; (with_reducible refine (HQP.out _ HA0.out).mono ?_); rintro x w1 ⟨rfl, hb1⟩; have r1 := (Below.refl (w.heap.size + 1) (w.alloc (.cells #[.slice PA pn pc, .string (S f.id), .string (S f.title), .string (S f.link), .int .i64 f.upd, .slice EA f.ents.length ec] 25))).trans (hb1.mono (by simp)); have HR1 := Lib.hid r1; clear k0 k1 k2 k3 k4 hb1; obtain ⟨k0, k1, k2, k3, k4⟩ := KEEP.out _ r1; clear r1)
          | (go_at_call 45; (with_reducible refine (HQ.out _ _ (heap_alloc_new w1 _)).mono ?_); rintro x w2 ⟨rfl, hb2⟩; have hz1 : w.heap.size + 1 ≤ w1.heap.size := (by have := HR1.out.size; simpa using this); have HR2 := Lib.hid ((HR1.out.alloc hz1 (.cells #[.string (S f.id), .string (S f.title), .string (S f.link)] 9)).trans (hb2.mono (by simp; omega))); clear k0 k1 k2 k3 k4 hb2; obtain ⟨k0, k1, k2, k3, k4⟩ := KEEP.out _ HR2.out)
          | (go_at_call 46; refine (HD.out _).mono ?_; rintro x w3 ⟨rfl, hb3⟩; have HR3 := Lib.hid (HR2.out.trans (hb3.mono (by have := HR2.out.size; simpa using this))); clear hb3))
        go_ret
        exact ⟨rfl, HA0.out.trans (HR3.out.mono (Nat.le_succ _))⟩
end Go.Proofs.YtadkgjbidhfefaaGreatDoor
set_option linter.unusedVariables false
set_option linter.unusedSimpArgs false
namespace Go.Proofs.YtadkgjbidhfefaaGreatDoor
open Go.RowKit

theorem ElRow.own {α : Type} {E : Elt α} (hE : E.Ok) {W : World} {base : Nat} {v : Value} {l : List α} (h : ElRow E W base (fun _ => False) v l) : ElsP E W (fun k => base ≤ k ∧ k < W.heap.size) v l :=
  h.elsP hE (fun _ h => h.elim) (fun k hk => h.lt k hk)
/-- A slice of one element that lies in a block of the call's own. -/
theorem ElRow.single {α : Type} {E : Elt α} (hE : E.Ok) {W : World} {base b : Nat} {p : Nat → Prop} {x : α} {cs : List Value} (hx : E.El W p x cs) (hb : base ≤ b) (hh : W.heap[b]? = some (.cells cs.toArray E.T (0, 0))) : ElRow E W base p (.slice (some ⟨b, 0, none⟩) 1 1) [x] := by
  have hl := hE.len hx
  refine ⟨[cs], rfl, ?_, ?_⟩
  · intro i a ds ha hd
    cases i with
    | zero => simp at ha hd; subst ha hd; exact hx
    | succ i => simp at ha
  · refine ⟨by simp [hl], .inr ⟨b, 1, cs.toArray, rfl, hb, hh, Nat.le_refl _, by decide, by simp [hl], by simp [hl, List.take_of_length_le (Nat.le_of_eq hl)]⟩⟩
theorem els_append_all_step {α : Type} {E : Elt α} (hE : E.Ok) {ops : Array Oper} {o : Oper} {a : Act} {K : Act → World → Prop} {Q : Exit → Act → World → Prop} {Z : Prop} (hgd : o.guard = none) (d s : Operand)
    (ho : o.op = .call { callee := .builtin .append, args := #[d, s], argTypes := #[E.TS, E.TS] })
    (w : World) (base : Nat) (p : Nat → Prop) (v : Value) (xs : List α) (hd : a.eval d = v) (hx : ElRow E w base p v xs) (A : Option Addr) (n c : Nat) (l : List α) (hs : a.eval s = .slice A n c) (h : ElsP E w p (.slice A n c) l) (hbase : base ≤ w.heap.size) (hl : xs.length + l.length < 10000000000)
    (hB : ∀ j, p j → v.ownBlock ≠ some j) (hB2 : ∀ j, p j → j < w.heap.size)
    (hK : ∀ v' w', ElRow E w' base p v' (xs ++ l) → Grew w v v' w' → Below base w w' → (v'.ownBlock = v.ownBlock ∨ v'.ownBlock = some w.heap.size) → K (a.put o.dst v') w') :
    if Region.wanted o (yielded ops a.tmps) = true then Oper.wp Tryz.prog o a w K Q else Z := by
  rw [if_pos (by simp [Region.wanted, hgd])]
  obtain ⟨v', w', hrun, h1, h2, h3, h4⟩ := run_append_els hE w o.type base p v xs hx A n c l h hbase hl hB hB2
  unfold Oper.wp
  simp [execOp, ho, resolve, invoke, builtin, hd, hs, hrun, Result.andThen]
  exact hK _ _ h1 h2 h3 h4
theorem al2a (W : World) (A B : Obj) : ((W.alloc A).alloc B).heap[W.heap.size]? = some A := (Below.heap_alloc _ _ _ (by simp)).trans (heap_alloc_new W A)
theorem al2b (W : World) (A B : Obj) : ((W.alloc A).alloc B).heap[W.heap.size + 1]? = some B := by
  have := heap_alloc_new (W.alloc A) B; simpa using this
/-- The slice of one value, the values of three strings appended. -/
theorem fee_app_step {ops : Array Oper} {o : Oper} {a : Act} {K : Act → World → Prop} {Q : Exit → Act → World → Prop} {Z : Prop} (hgd : o.guard = none) (d s : Operand)
    (ho : o.op = .call { callee := .builtin .append, args := #[d, s], argTypes := #[57, 57] })
    (w : World) (base bt m : Nat) (J : JV) (cs : List Value) (ss js : List JV) (hjs : J :: ss = js) (A : Option Addr) (c b3 : Nat) (hd : a.eval d = .slice (some ⟨bt, 0, none⟩) 1 1) (hT : w.heap[bt]? = some (.cells cs.toArray 60 (0, 0))) (h1 : base ≤ bt) (h2 : m ≤ bt) (hJ : valE.El w (fun k => base ≤ k ∧ k < m) J cs)
    (hs : a.eval s = .slice A 3 c) (hR : ElRow valE w b3 (fun _ => False) (.slice A 3 c) ss) (hb3 : base ≤ b3) (hne : ∀ k, (Value.slice A 3 c).ownBlock = some k → k ≠ bt) (hl : ss.length = 3)
    (hK : ∀ A' c' w', (∃ p : Nat → Prop, ElRow valE w' base p (.slice A' 4 c') js ∧ ∀ j, p j → (Value.slice A' 4 c').ownBlock ≠ some j ∧ base ≤ j ∧ j < w'.heap.size) → Below base w w' → K (a.put o.dst (.slice A' 4 c')) w') :
    if Region.wanted o (yielded ops a.tmps) = true then Oper.wp Tryz.prog o a w K Q else Z := by
  subst hjs
  have hlt := heap_lt hT
  have hp1 : valE.El w (fun k => base ≤ k ∧ k < w.heap.size ∧ k ≠ bt) J cs := valE_ok.keep hJ (fun _ _ => rfl) (fun k hk => ⟨hk.1, by have := hk.2; omega, by have := hk.2; omega⟩)
  refine els_append_all_step (E := valE) valE_ok hgd d s ho w base (fun k => base ≤ k ∧ k < w.heap.size ∧ k ≠ bt) _ [J] hd (ElRow.single valE_ok hp1 h1 hT) A 3 c ss hs (hR.elsP valE_ok (fun _ h => h.elim) (fun k hk => ⟨by have := (hR.lt k hk).1; omega, (hR.lt k hk).2, hne k hk⟩)) (by omega) (by simp; omega) (fun j hj e => hj.2.2 (by simp [Value.ownBlock] at e; exact e.symm)) (fun j hj => hj.2.1) ?_
  intro v' w' hr hg hb ho'
  obtain ⟨A', c', rfl, _⟩ := hr.slice
  have hln : ([J] ++ ss).length = 4 := by simp [hl]
  simp only [hln] at hr ho' ⊢
  refine hK A' c' w' ⟨_, hr, fun j hj => ⟨fun e => ?_, hj.1, Nat.lt_of_lt_of_le hj.2.1 hb.size⟩⟩ hb
  rcases ho' with h | h
  · rw [h] at e
    simp [Value.ownBlock] at e
    exact hj.2.2 e.symm
  · rw [h] at e
    have := hj.2.1
    simp at e
    omega

set_option maxHeartbeats 8000000 in
set_option maxRecDepth 100000 in
theorem feedKey_any (f : Fe) (u : Value) (w : World) (hT : TabJ w) (hf : -9223372036854775808 ≤ f.upd ∧ f.upd ≤ 9223372036854775807) (hs : FSz f) (hu : FeeV w (· < w.heap.size) f u) :
    Calls Tryz.prog 19 #[u] w fun x w' => x = .returned (.string (S (keyOf (feeVal f)))) ∧ Below w.heap.size w w' := by
  obtain ⟨PA, pc, EA, ec, rfl, hp, he, hpc, hec⟩ := hu.open_
  have hhead := hs.head
  have hpl := hs.path
  have hps := hs.strs
  have hful := feeVal_ful f
  have hfit := feeVal_fit f hf hs
  have hwr := fun (u : Value) (W : World) (hW : Below w.heap.size w W) (hv : ValV W (· < W.heap.size) (feeVal f) u) => write12_any (feeVal f) u W (by omega) hfit (hT.next hW) hv
  unfold keyOf
  have hfv : feeVal f = jarr (jarr (f.path.map jstr) :: [f.id, f.title, f.link].map jstr ++ [jint f.upd]) := rfl
  generalize hK : outJ (feeVal f) (jvd (feeVal f) 1) = KB at *
  generalize errJ (jvd (feeVal f) 1) = ER at *
  rw [hfv] at hwr
  have hW0 : Below w.heap.size w (w.alloc (.cells #[.slice PA f.path.length pc, .string (S f.id), .string (S f.title), .string (S f.link), .int .i64 f.upd, .slice EA f.ents.length ec] 25)) := (Below.refl _ _).alloc (Nat.le_refl _) _
  have hsp := fun (W : World) (hW : Below (w.heap.size + 1) (w.alloc (.cells #[.slice PA f.path.length pc, .string (S f.id), .string (S f.title), .string (S f.link), .int .i64 f.upd, .slice EA f.ents.length ec] 25)) W) => stringValues_any f.path _ W (· < W.heap.size) (fun _ h => h) (hp.keep strE_ok (fun k hk => (hW0.trans (hW.mono (Nat.le_succ _))).block k hk) (fun k hk => Nat.lt_of_lt_of_le hk (hW0.trans (hW.mono (Nat.le_succ _))).size)) (by omega)
  have hs3 := fun (W : World) (b : Nat) (hb : W.heap[b]? = some (.cells #[.string (S f.id), .string (S f.title), .string (S f.link)] 9)) => stringValues_any [f.id, f.title, f.link] _ W (· < W.heap.size) (fun _ h => h) (els_three hb) (by simp)
  have hl3 : ([f.id, f.title, f.link].map jstr).length = 3 := by simp
  have hn3 : [f.id, f.title, f.link].length = 3 := rfl
  have hlp : (f.path.map jstr).length = f.path.length := by simp
  simp only [hn3] at hs3
  generalize f.path.map jstr = ps at *
  generalize [f.id, f.title, f.link].map jstr = ss at *
  have har1 := fun (u : Value) (W : World) (h : ElsP valE W (fun k => w.heap.size + 1 ≤ k ∧ k < W.heap.size) u ps) => array13_any ps u W _ (fun _ h => h.2) h (by omega)
  generalize jarr ps = JP at *
  have hjl : (JP :: ss).length = 4 := by simp [hl3]
  generalize hjs : JP :: ss = js at *
  have har2 := fun (u : Value) (W : World) (h : ElsP valE W (fun k => k < W.heap.size) u (js ++ [jint f.upd])) => array13_any (js ++ [jint f.upd]) u W _ (fun _ h => h) h (by simp [hjl])
  have hx : ∀ W, Below (w.heap.size + 1) (w.alloc (.cells #[.slice PA f.path.length pc, .string (S f.id), .string (S f.title), .string (S f.link), .int .i64 f.upd, .slice EA f.ents.length ec] 25)) W → W.cell? ⟨w.heap.size, 0, none⟩ = some (.slice PA f.path.length pc) ∧ W.cell? ⟨w.heap.size, 1, none⟩ = some (.string (S f.id)) ∧ W.cell? ⟨w.heap.size, 2, none⟩ = some (.string (S f.title)) ∧ W.cell? ⟨w.heap.size, 3, none⟩ = some (.string (S f.link)) ∧ W.cell? ⟨w.heap.size, 4, none⟩ = some (.int .i64 f.upd) := fun W hW => by
    obtain ⟨k0, k1, k2, k3, k4, k5⟩ := cells6 ((hW.block w.heap.size (by omega)).trans (heap_alloc_new w (.cells #[.slice PA f.path.length pc, .string (S f.id), .string (S f.title), .string (S f.link), .int .i64 f.upd, .slice EA f.ents.length ec] 25)))
    exact ⟨k0, k1, k2, k3, k4⟩
  have hz0 : w.heap.size + 1 ≤ (w.alloc (.cells #[.slice PA f.path.length pc, .string (S f.id), .string (S f.title), .string (S f.link), .int .i64 f.upd, .slice EA f.ents.length ec] 25)).heap.size := by simp
  have KEEP := Lib.hid hx
  have HSP := Lib.hid hsp
  have HS3 := Lib.hid hs3
  have HA1 := Lib.hid har1
  have HA2 := Lib.hid har2
  have HWR := Lib.hid hwr
  have HL3 := Lib.hid hl3
  have HZ0 := Lib.hid hz0
  have HJS := Lib.hid hjs
  have HJL := Lib.hid hjl
  have HW0 := Lib.hid hW0
  clear hx hsp hs3 har1 har2 hwr hl3 hn3 hlp hf hs hu hp he hful hfit hfv hK hT hpl hps hhead hz0 hW0 hjs hjl
  generalize f.path.length = pn at *
  go_enter Tryz.func19, Tryz.ntmps19
  go_wp2_with fail
  generalize w.alloc (.cells #[.slice PA pn pc, .string (S f.id), .string (S f.title), .string (S f.link), .int .i64 f.upd, .slice EA f.ents.length ec] 25) = W0 at *
  go_cut [3] (fun s3 wx => ∃ A c p, s3 = .slice A 4 c ∧ ElRow valE wx (w.heap.size + 1) p (.slice A 4 c) js ∧ (∀ j, p j → (Value.slice A 4 c).ownBlock ≠ some j ∧ w.heap.size + 1 ≤ j ∧ j < wx.heap.size) ∧ Below (w.heap.size + 1) W0 wx)
  case first =>
    go_region_held3 (fun x => x.cell? ⟨w.heap.size, 0, none⟩ = some (.slice PA pn pc) ∧ x.cell? ⟨w.heap.size, 1, none⟩ = some (.string (S f.id)) ∧ x.cell? ⟨w.heap.size, 2, none⟩ = some (.string (S f.title)) ∧ x.cell? ⟨w.heap.size, 3, none⟩ = some (.string (S f.link)) ∧ x.cell? ⟨w.heap.size, 4, none⟩ = some (.int .i64 f.upd))
      (first | exact KEEP.out _ R4.out | exact KEEP.out _ (R3.out.alloc hz3 _) | exact KEEP.out _ R3.out | exact KEEP.out _ ((R.out.alloc hz _).alloc (by simp; omega) _) | exact KEEP.out _ (R.out.alloc hz _) | exact KEEP.out _ R.out | exact KEEP.out _ ((Below.refl _ _).alloc HZ0.out _).drew | exact KEEP.out _ (Below.refl _ _).drew)
      (first
        | ((go_at_call 33; (with_reducible refine (HSP.out _ ((Below.refl _ _).alloc HZ0.out _).drew).mono ?_); rintro x W ⟨A1, c1, rfl, hrow, hb⟩; have R := Lib.hid (((Below.refl _ _).alloc HZ0.out (.cells #[.string (S f.id), .string (S f.title), .string (S f.link)] 9)).drew.trans (hb.mono (by have := HZ0.out; simp; omega))); have HB := Lib.hid ((hb.block W0.heap.size (by simp)).trans (heap_alloc_new W0 (.cells #[.string (S f.id), .string (S f.title), .string (S f.link)] 9))); have hz : w.heap.size + 1 ≤ W.heap.size := (by have := R.out.size; have := HZ0.out; omega); have HR1 := Lib.hid (hrow.base_ (base' := w.heap.size + 1) (by have := HZ0.out; simp; omega)); clear hrow hb))
        | ((go_at_call 33; (with_reducible refine (HSP.out _ (Below.refl _ _).drew).mono ?_); rintro x W ⟨A1, c1, rfl, hrow, hb⟩; have R := Lib.hid ((Below.refl _ _).drew.trans (hb.mono (by have := HZ0.out; simp; omega))); have hz : w.heap.size + 1 ≤ W.heap.size := (by have := R.out.size; have := HZ0.out; omega); have HR1 := Lib.hid (hrow.base_ (base' := w.heap.size + 1) (by have := HZ0.out; simp; omega)); clear hrow hb))
        | ((go_at_call 32; (with_reducible refine (HA1.out _ _ (ElRow.own valE_ok (HR1.out.below valE_ok ((Below.refl _ _).alloc (Nat.le_refl _) (.cells #[.string (S f.id), .string (S f.title), .string (S f.link)] 9)) (fun _ h => h.elim)))).mono ?_); rintro x W ⟨v, rfl, hv, hb⟩; have HB := Lib.hid ((hb.block _ (by simp)).trans (heap_alloc_new _ (.cells #[.string (S f.id), .string (S f.title), .string (S f.link)] 9))); have hz1 := hz; have hzb := hb.size; have R := Lib.hid ((R.out.alloc hz _).trans (hb.mono (by simp; omega))); have hz : w.heap.size + 1 ≤ W.heap.size := (by have := R.out.size; have := HZ0.out; omega); obtain ⟨cs, rfl, hcs⟩ := hv; obtain ⟨IA, ic, MA, mc, rfl⟩ := hcs.cells; obtain ⟨m, hm⟩ : ∃ m, W.heap.size = m := ⟨_, rfl⟩; have HV := Lib.hid (valE_ok.keep (p' := fun k => w.heap.size + 1 ≤ k ∧ k < m) hcs (fun _ _ => rfl) (fun k hk => (by simp at hk hzb; omega))); have HM := Lib.hid (show m ≤ W.heap.size by omega); clear hcs hm; clear hb HR1))
        | ((go_at_call 32; (with_reducible refine (HA1.out _ _ (ElRow.own valE_ok HR1.out)).mono ?_); rintro x W ⟨v, rfl, hv, hb⟩; (try have HB := Lib.hid ((hb.block _ (heap_lt HB.out)).trans HB.out)); have hz1 := hz; have hzb := hb.size; have R := Lib.hid (R.out.trans (hb.mono hz)); have hz : w.heap.size + 1 ≤ W.heap.size := (by have := R.out.size; have := HZ0.out; omega); obtain ⟨cs, rfl, hcs⟩ := hv; obtain ⟨IA, ic, MA, mc, rfl⟩ := hcs.cells; obtain ⟨m, hm⟩ : ∃ m, W.heap.size = m := ⟨_, rfl⟩; have HV := Lib.hid (valE_ok.keep (p' := fun k => w.heap.size + 1 ≤ k ∧ k < m) hcs (fun _ _ => rfl) (fun k hk => (by omega))); have HM := Lib.hid (show m ≤ W.heap.size by omega); clear hcs hm; clear hb HR1))
        | ((go_at_call 33; (with_reducible refine (HS3.out _ _ (al2b _ (.cells #[.int .i64 JP.kind, .bool JP.b, .int .i64 JP.n, .string (S JP.s), .slice IA JP.items.length ic, .slice MA JP.mems.length mc, .int .i64 JP.pos] 60) _)).mono ?_); rintro x W3 ⟨A3, c3, rfl, hrow, hb⟩; have hbX : Below W.heap.size W W3 := (((Below.refl _ _).alloc (Nat.le_refl _) _).alloc (by simp) _).trans (hb.mono (by simp; omega)); have HR3 := Lib.hid hrow; have R3 := Lib.hid (R.out.trans (hbX.mono hz)); have hz3 : w.heap.size + 1 ≤ W3.heap.size := (by have := R3.out.size; have := HZ0.out; omega); have HV3 := Lib.hid (valE_ok.keep HV.out (fun k hk => hbX.block k (by have := hk.2; have := HM.out; omega)) (fun _ h => h)); have HM3 := Lib.hid (show m ≤ W3.heap.size by have := HM.out; have := hbX.size; omega); have HT := Lib.hid ((hb.block W.heap.size (by simp; omega)).trans (al2a _ _ _)); have HNE := Lib.hid (show ∀ k, (Value.slice A3 3 c3).ownBlock = some k → k ≠ W.heap.size from fun k hk => by have := (hrow.lt k hk).1; simp at this; omega); clear hb hrow hbX))
        | ((go_at_call 33; (with_reducible refine (HS3.out _ _ (al2a _ _ (.cells #[.int .i64 JP.kind, .bool JP.b, .int .i64 JP.n, .string (S JP.s), .slice IA JP.items.length ic, .slice MA JP.mems.length mc, .int .i64 JP.pos] 60))).mono ?_); rintro x W3 ⟨A3, c3, rfl, hrow, hb⟩; have hbX : Below W.heap.size W W3 := (((Below.refl _ _).alloc (Nat.le_refl _) _).alloc (by simp) _).trans (hb.mono (by simp; omega)); have HR3 := Lib.hid hrow; have R3 := Lib.hid (R.out.trans (hbX.mono hz)); have hz3 : w.heap.size + 1 ≤ W3.heap.size := (by have := R3.out.size; have := HZ0.out; omega); have HV3 := Lib.hid (valE_ok.keep HV.out (fun k hk => hbX.block k (by have := hk.2; have := HM.out; omega)) (fun _ h => h)); have HM3 := Lib.hid (show m ≤ W3.heap.size by have := HM.out; have := hbX.size; omega); have HT := Lib.hid ((hb.block (W.heap.size + 1) (by simp)).trans (al2b _ _ _)); have HNE := Lib.hid (show ∀ k, (Value.slice A3 3 c3).ownBlock = some k → k ≠ W.heap.size + 1 from fun k hk => by have := (hrow.lt k hk).1; simp at this; omega); clear hb hrow hbX))
        | ((go_at_call 33; (with_reducible refine (HS3.out _ _ ((Below.heap_alloc _ (.cells #[.int .i64 JP.kind, .bool JP.b, .int .i64 JP.n, .string (S JP.s), .slice IA JP.items.length ic, .slice MA JP.mems.length mc, .int .i64 JP.pos] 60) _ (heap_lt HB.out)).trans HB.out)).mono ?_); rintro x W3 ⟨A3, c3, rfl, hrow, hb⟩; have hbX : Below W.heap.size W W3 := ((Below.refl _ _).alloc (Nat.le_refl _) _).trans (hb.mono (by simp)); have HR3 := Lib.hid hrow; have R3 := Lib.hid (R.out.trans (hbX.mono hz)); have hz3 : w.heap.size + 1 ≤ W3.heap.size := (by have := R3.out.size; have := HZ0.out; omega); have HV3 := Lib.hid (valE_ok.keep HV.out (fun k hk => hbX.block k (by have := hk.2; have := HM.out; omega)) (fun _ h => h)); have HM3 := Lib.hid (show m ≤ W3.heap.size by have := HM.out; have := hbX.size; omega); have HT := Lib.hid ((hb.block W.heap.size (by simp)).trans (heap_alloc_new _ _)); have HNE := Lib.hid (show ∀ k, (Value.slice A3 3 c3).ownBlock = some k → k ≠ W.heap.size from fun k hk => by have := (hrow.lt k hk).1; simp at this; omega); clear hb hrow hbX))
        | ((go_at_call 33; (with_reducible refine (HS3.out _ _ (heap_alloc_new W _)).mono ?_); rintro x W3 ⟨A3, c3, rfl, hrow, hb⟩; have hbX : Below W.heap.size W W3 := ((Below.refl _ _).alloc (Nat.le_refl _) _).trans (hb.mono (by simp)); have HR3 := Lib.hid hrow; have R3 := Lib.hid (R.out.trans (hbX.mono hz)); have hz3 : w.heap.size + 1 ≤ W3.heap.size := (by have := R3.out.size; have := HZ0.out; omega); have HV3 := Lib.hid (valE_ok.keep HV.out (fun k hk => hbX.block k (by have := hk.2; have := HM.out; omega)) (fun _ h => h)); have HM3 := Lib.hid (show m ≤ W3.heap.size by have := HM.out; have := hbX.size; omega); clear hb hrow hbX))
        | ((go_at_call 33; (with_reducible refine (HS3.out _ _ HB.out).mono ?_); rintro x W3 ⟨A3, c3, rfl, hrow, hb⟩; have hbX : Below W.heap.size W W3 := hb; have HR3 := Lib.hid hrow; have R3 := Lib.hid (R.out.trans (hbX.mono hz)); have hz3 : w.heap.size + 1 ≤ W3.heap.size := (by have := R3.out.size; have := HZ0.out; omega); have HV3 := Lib.hid (valE_ok.keep HV.out (fun k hk => hbX.block k (by have := hk.2; have := HM.out; omega)) (fun _ h => h)); have HM3 := Lib.hid (show m ≤ W3.heap.size by have := HM.out; have := hbX.size; omega); clear hb hrow hbX))
        | ((refine fee_app_step rfl _ _ rfl W3 (w.heap.size + 1) _ m JP _ ss js HJS.out A3 c3 _ rfl HT.out (by omega) (by have := HM.out; omega) HV3.out rfl HR3.out (by first | omega | (simp; omega)) HNE.out HL3.out ?_; intro A4 c4 W4 hr4 hb4; have HR4 := Lib.hid hr4; have R4 := Lib.hid (R3.out.trans hb4); clear hr4 hb4))
        | ((refine fee_app_step rfl _ _ rfl (W3.alloc (.cells #[.int .i64 JP.kind, .bool JP.b, .int .i64 JP.n, .string (S JP.s), .slice IA JP.items.length ic, .slice MA JP.mems.length mc, .int .i64 JP.pos] 60)) (w.heap.size + 1) W3.heap.size m JP _ ss js HJS.out A3 c3 _ rfl (heap_alloc_new W3 _) hz3 HM3.out (valE_ok.keep HV3.out (fun k hk => Below.heap_alloc _ _ _ (by have := hk.2; have := HM3.out; omega)) (fun _ h => h)) rfl (HR3.out.below valE_ok ((Below.refl _ _).alloc (Nat.le_refl _) _) (fun _ h => h.elim)) (by first | omega | (simp; omega)) (fun k hk => by have := (HR3.out.lt k hk).2; omega) HL3.out ?_; intro A4 c4 W4 hr4 hb4; have HR4 := Lib.hid hr4; have R4 := Lib.hid ((R3.out.alloc hz3 _).trans hb4); clear hr4 hb4)))
    all_goals
      go_wp2_with fail
      go_meet
      obtain ⟨p4, hr4, hp4⟩ := HR4.out
      exact ⟨A4, c4, p4, rfl, hr4, hp4, R4.out⟩
  case rest =>
    obtain ⟨A, c, p, rfl, hrow, hpj, hb⟩ := hcut
    have R := Lib.hid hb
    have HROW := Lib.hid hrow
    have HPJ := Lib.hid hpj
    have hz := hb.size
    have hz' : w.heap.size + 1 ≤ wc.heap.size := by have := HZ0.out; omega
    clear hrow hpj hb
    obtain ⟨k0, k1, k2, k3, k4⟩ := KEEP.out _ R.out
    go_wp2_with (first
      | (go_at_call 34; (with_reducible refine (int12_any f.upd _).mono ?_); rintro x w5 ⟨rfl, hb5⟩; have R5 := Lib.hid (R.out.trans (hb5.mono hz')); have hz5 : wc.heap.size ≤ w5.heap.size := hb5.size; have HR5 := Lib.hid (HROW.out.below valE_ok hb5 (fun j hj => (HPJ.out j hj).2.2)); clear hb5)
      | (with_reducible refine gate ?_; refine els_append valE_ok rfl _ _ rfl w5 (w.heap.size + 1) p (.slice A 4 c) js rfl HR5.out (jint f.upd) [.int .i64 2, .bool false, .int .i64 f.upd, .string (S []), .slice none 0 0, .slice none 0 0, .int .i64 0] w5.heap.size rfl rfl (jint_val f.upd _ _) (fun j hj => (HPJ.out j hj).1) (fun j hj => by have := (HPJ.out j hj).2.2; omega) (by omega) (by have := HJL.out; omega) ?_; intro g8 c8 w8 hat8 hlt8 hrow8 hgr8 hb8; have R8 := Lib.hid (R5.out.trans hb8); have hz8 : w.heap.size + 1 ≤ w8.heap.size := (by have := hb8.size; omega); have HE8 := Lib.hid (hrow8.elsP valE_ok (p' := (· < w8.heap.size)) (fun j hj => by have := (HPJ.out j hj).2.2; have := hb8.size; show j < w8.heap.size; omega) (fun k hk => (hrow8.lt k hk).2)); clear hat8 hrow8 hgr8 hb8)
      | (go_at_call 32; (with_reducible refine (HA2.out _ _ HE8.out).mono ?_); rintro x w9 ⟨v9, rfl, hv9, hb9⟩; have R9 := Lib.hid (R8.out.trans (hb9.mono hz8)); have hz9 : w.heap.size + 1 ≤ w9.heap.size := (by have := hb9.size; omega); have HV9 := Lib.hid (hv9.keep (p' := (· < w9.heap.size)) (fun _ _ => rfl) (fun k hk => hk.elim (fun h => Nat.lt_of_lt_of_le h hb9.size) (fun h => h.2))); clear hv9 hb9)
      | (go_at_call 31; (with_reducible refine (HWR.out _ _ (HW0.out.trans (R9.out.mono (Nat.le_succ _))) HV9.out).mono ?_); rintro x w10 ⟨rfl, hb10⟩; have R10 := Lib.hid (R9.out.trans (hb10.mono hz9)); clear hb10))
    go_ret
    exact ⟨rfl, HW0.out.trans (R10.out.mono (Nat.le_succ _))⟩
end Go.Proofs.YtadkgjbidhfefaaGreatDoor
set_option linter.unusedVariables false
set_option linter.unusedSimpArgs false
namespace Go.Proofs.YtadkgjbidhfefaaGreatDoor
open Go.RowKit

def kF (f : Fe) : Bytes := keyOf (feeVal f)
/-- By time, then by canonical bytes. -/
def cmpKF (a b : Fe) : Int := lex3 (fun a b : Fe => cmpI a.upd b.upd) (fun a b : Fe => cmpB (kF a) (kF b)) a b
theorem ordKF : Ord3 cmpKF := (ordI.on (fun e : Fe => e.upd)).lex (ordB.on kF)
theorem wp_store_fee {ops : Array Oper} {rest : List Oper} {o : Oper} {a : Act} {w : World} {Q : Exit → Act → World → Prop} (hgd : o.guard = none) (x y : Operand) (ho : o.op = .store 25 x y)
    (g : Nat) (cur : Array Value) (A : Option Addr) (n c : Nat) (s1 s2 s3 : ByteArray) (t : Int) (B : Option Addr) (m d : Nat) (hx : a.eval x = .pointer (some ⟨g, 0, none⟩)) (hy : a.eval y = .agg #[.slice A n c, .string s1, .string s2, .string s3, .int .i64 t, .slice B m d])
    (hg : w.heap[g]? = some (.cells cur 25 (0, 0))) (hs : cur.size = 6)
    (h : ∀ w', w'.heap[g]? = some (.cells #[.slice A n c, .string s1, .string s2, .string s3, .int .i64 t, .slice B m d] 25 (0, 0)) → Upd g w w' → wpList Tryz.prog ops Q rest (a.put o.dst undef) w') : wpList Tryz.prog ops Q (o :: rest) a w :=
  wp_store_whole hgd 25 x y ho g 25 cur _ hx hy hg (by rw [hs]; rfl) feeSize (by simp [Value.oneCell']) h
abbrev zFeeO : Obj := .cells #[.slice none 0 0, .string ⟨#[]⟩, .string ⟨#[]⟩, .string ⟨#[]⟩, .int .i64 0, .slice none 0 0] 25

set_option maxHeartbeats 1000000 in
theorem updOfF_any (P E : Option Addr) (n c m d : Nat) (s1 s2 s3 : ByteArray) (t : Int) (w : World) : Calls Tryz.prog 18 #[.agg #[.slice P n c, .string s1, .string s2, .string s3, .int .i64 t, .slice E m d]] w fun x w' => x = .returned (.int .i64 t) ∧ Below w.heap.size w w' := by
  go_enter Tryz.func18, Tryz.ntmps18
  go_wp2
  go_ret
  exact ⟨rfl, (Below.refl _ _).alloc (Nat.le_refl _) _⟩

set_option maxHeartbeats 16000000 in
set_option maxRecDepth 100000 in
theorem laterF_any (a b : Fe) (P1 E1 P2 E2 : Option Addr) (p1 e1 p2 e2 : Nat) (w : World) (hT : TabJ w) (hf : FFit a) (hg : FFit b) (hs : FSz a) (ht : FSz b) (hu : FeeV w (· < w.heap.size) a (.agg #[.slice P1 a.path.length p1, .string (S a.id), .string (S a.title), .string (S a.link), .int .i64 a.upd, .slice E1 a.ents.length e1])) (hv : FeeV w (· < w.heap.size) b (.agg #[.slice P2 b.path.length p2, .string (S b.id), .string (S b.title), .string (S b.link), .int .i64 b.upd, .slice E2 b.ents.length e2])) :
    Calls Tryz.prog 17 #[.agg #[.slice P1 a.path.length p1, .string (S a.id), .string (S a.title), .string (S a.link), .int .i64 a.upd, .slice E1 a.ents.length e1], .agg #[.slice P2 b.path.length p2, .string (S b.id), .string (S b.title), .string (S b.link), .int .i64 b.upd, .slice E2 b.ents.length e2], .func (.func 18) #[] #[], .func (.func 19) #[] #[]] w fun x w' => x = .returned (if cmpKF a b = -1 then (.agg #[.slice P2 b.path.length p2, .string (S b.id), .string (S b.title), .string (S b.link), .int .i64 b.upd, .slice E2 b.ents.length e2] : Value) else .agg #[.slice P1 a.path.length p1, .string (S a.id), .string (S a.title), .string (S a.link), .int .i64 a.upd, .slice E1 a.ents.length e1]) ∧ Below w.heap.size w w' := by
  have kp : ∀ {a : Fe} {x : Value} (W : World), Below w.heap.size w W → FeeV w (· < w.heap.size) a x → FeeV W (· < W.heap.size) a x := fun W hW hx => hx.keep hW.block (fun k hk => Nat.lt_of_lt_of_le hk hW.size)
  have E0 := Lib.hid (Box3F.new w (feeBox a P1 p1 E1 e1) (feeBox b P2 p2 E2 e2) zFeeO)
  have F3 : Hid (Below w.heap.size w (((w.alloc (feeBox a P1 p1 E1 e1)).alloc (feeBox b P2 p2 E2 e2)).alloc zFeeO)) := (((Below.refl _ _).alloc (Nat.le_refl _) _).alloc (by simp) _).alloc (by simp; omega) _
  have hka := fun W => fun (hW : Below w.heap.size w W) => feedKey_any a _ W (hT.next hW) hf.1 hs (kp W hW hu)
  have hkb := fun W => fun (hW : Below w.heap.size w W) => feedKey_any b _ W (hT.next hW) hg.1 ht (kp W hW hv)
  rw [show keyOf (feeVal a) = kF a from rfl] at hka
  rw [show keyOf (feeVal b) = kF b from rfl] at hkb
  have hua := fun W => updOfF_any P1 E1 a.path.length p1 a.ents.length e1 (S a.id) (S a.title) (S a.link) a.upd W
  have hub := fun W => updOfF_any P2 E2 b.path.length p2 b.ents.length e2 (S b.id) (S b.title) (S b.link) b.upd W
  have hc := fun W => cmpInt_any a.upd b.upd W
  have HKA := Lib.hid hka
  have HKB := Lib.hid hkb
  have HUA := Lib.hid hua
  have HUB := Lib.hid hub
  have KEEPB : Hid (∀ W, Below (w.heap.size + 3) (((w.alloc (feeBox a P1 p1 E1 e1)).alloc (feeBox b P2 p2 E2 e2)).alloc zFeeO) W → Box3F W w.heap.size (feeBox a P1 p1 E1 e1) (feeBox b P2 p2 E2 e2) zFeeO) := fun W hW => E0.out.next (by simpa using hW)
  have KEEP : Hid (∀ W, Below (w.heap.size + 3) (((w.alloc (feeBox a P1 p1 E1 e1)).alloc (feeBox b P2 p2 E2 e2)).alloc zFeeO) W → (W.cell? ⟨w.heap.size, 0, none⟩ = some (.slice P1 a.path.length p1) ∧ W.cell? ⟨w.heap.size, 1, none⟩ = some (.string (S a.id)) ∧ W.cell? ⟨w.heap.size, 2, none⟩ = some (.string (S a.title)) ∧ W.cell? ⟨w.heap.size, 3, none⟩ = some (.string (S a.link)) ∧ W.cell? ⟨w.heap.size, 4, none⟩ = some (.int .i64 a.upd) ∧ W.cell? ⟨w.heap.size, 5, none⟩ = some (.slice E1 a.ents.length e1)) ∧ (W.cell? ⟨w.heap.size + 1, 0, none⟩ = some (.slice P2 b.path.length p2) ∧ W.cell? ⟨w.heap.size + 1, 1, none⟩ = some (.string (S b.id)) ∧ W.cell? ⟨w.heap.size + 1, 2, none⟩ = some (.string (S b.title)) ∧ W.cell? ⟨w.heap.size + 1, 3, none⟩ = some (.string (S b.link)) ∧ W.cell? ⟨w.heap.size + 1, 4, none⟩ = some (.int .i64 b.upd) ∧ W.cell? ⟨w.heap.size + 1, 5, none⟩ = some (.slice E2 b.ents.length e2))) := fun W hW => ⟨cells6 (KEEPB.out W hW).one, cells6 (KEEPB.out W hW).two⟩
  clear hka hkb hua hub hT hf hg hs ht hu hv kp
  have hways : (cmpI a.upd b.upd = -1 ∧ (if cmpKF a b = -1 then (.agg #[.slice P2 b.path.length p2, .string (S b.id), .string (S b.title), .string (S b.link), .int .i64 b.upd, .slice E2 b.ents.length e2] : Value) else .agg #[.slice P1 a.path.length p1, .string (S a.id), .string (S a.title), .string (S a.link), .int .i64 a.upd, .slice E1 a.ents.length e1]) = .agg #[.slice P2 b.path.length p2, .string (S b.id), .string (S b.title), .string (S b.link), .int .i64 b.upd, .slice E2 b.ents.length e2]) ∨ (cmpI a.upd b.upd = 1 ∧ (if cmpKF a b = -1 then (.agg #[.slice P2 b.path.length p2, .string (S b.id), .string (S b.title), .string (S b.link), .int .i64 b.upd, .slice E2 b.ents.length e2] : Value) else .agg #[.slice P1 a.path.length p1, .string (S a.id), .string (S a.title), .string (S a.link), .int .i64 a.upd, .slice E1 a.ents.length e1]) = .agg #[.slice P1 a.path.length p1, .string (S a.id), .string (S a.title), .string (S a.link), .int .i64 a.upd, .slice E1 a.ents.length e1]) ∨ (cmpI a.upd b.upd = 0 ∧ (if cmpKF a b = -1 then (.agg #[.slice P2 b.path.length p2, .string (S b.id), .string (S b.title), .string (S b.link), .int .i64 b.upd, .slice E2 b.ents.length e2] : Value) else .agg #[.slice P1 a.path.length p1, .string (S a.id), .string (S a.title), .string (S a.link), .int .i64 a.upd, .slice E1 a.ents.length e1]) = if cmpB (kF a) (kF b) = -1 then (.agg #[.slice P2 b.path.length p2, .string (S b.id), .string (S b.title), .string (S b.link), .int .i64 b.upd, .slice E2 b.ents.length e2] : Value) else .agg #[.slice P1 a.path.length p1, .string (S a.id), .string (S a.title), .string (S a.link), .int .i64 a.upd, .slice E1 a.ents.length e1]) := by
    rcases ordI.rng a.upd b.upd with h | h | h
    · exact .inl ⟨h, by unfold cmpKF lex3; simp [h]⟩
    · exact .inr (.inr ⟨h, by unfold cmpKF lex3; simp [h]⟩)
    · exact .inr (.inl ⟨h, by unfold cmpKF lex3; simp [h]⟩)
  generalize cmpI a.upd b.upd = c at *
  generalize (if cmpKF a b = -1 then (.agg #[.slice P2 b.path.length p2, .string (S b.id), .string (S b.title), .string (S b.link), .int .i64 b.upd, .slice E2 b.ents.length e2] : Value) else .agg #[.slice P1 a.path.length p1, .string (S a.id), .string (S a.title), .string (S a.link), .int .i64 a.upd, .slice E1 a.ents.length e1]) = L at *
  have HC := Lib.hid hc
  have E0' := E0.out
  obtain ⟨⟨a0, a1, a2, a3, a4, a5⟩, b0, b1, b2, b3, b4, b5⟩ := (And.intro (cells6 E0'.one) (cells6 E0'.two))
  clear hc E0'
  go_enter Tryz.func17, Tryz.ntmps17
  go_wp2_with fail
  clear a0 a1 a2 a3 a4 a5 b0 b1 b2 b3 b4 b5
  go_region_held3 (fun x => (x.cell? ⟨w.heap.size, 0, none⟩ = some (.slice P1 a.path.length p1) ∧ x.cell? ⟨w.heap.size, 1, none⟩ = some (.string (S a.id)) ∧ x.cell? ⟨w.heap.size, 2, none⟩ = some (.string (S a.title)) ∧ x.cell? ⟨w.heap.size, 3, none⟩ = some (.string (S a.link)) ∧ x.cell? ⟨w.heap.size, 4, none⟩ = some (.int .i64 a.upd) ∧ x.cell? ⟨w.heap.size, 5, none⟩ = some (.slice E1 a.ents.length e1)) ∧ (x.cell? ⟨w.heap.size + 1, 0, none⟩ = some (.slice P2 b.path.length p2) ∧ x.cell? ⟨w.heap.size + 1, 1, none⟩ = some (.string (S b.id)) ∧ x.cell? ⟨w.heap.size + 1, 2, none⟩ = some (.string (S b.title)) ∧ x.cell? ⟨w.heap.size + 1, 3, none⟩ = some (.string (S b.link)) ∧ x.cell? ⟨w.heap.size + 1, 4, none⟩ = some (.int .i64 b.upd) ∧ x.cell? ⟨w.heap.size + 1, 5, none⟩ = some (.slice E2 b.ents.length e2)))
    (first | exact KEEP.out _ r2 | exact KEEP.out _ r1 | exact KEEP.out _ (Below.refl _ _).drew)
    (first
      | ((go_at_call 18; (with_reducible refine (HUA.out _).mono ?_); rintro x w2 ⟨rfl, hb2⟩; have r2 := r1.trans (hb2.mono hz1); have hz2 : w.heap.size + 3 ≤ w2.heap.size := (by have := r2.size; simpa using this); clear hb2))
      | ((go_at_call 18; (with_reducible refine (HUB.out _).mono ?_); rintro x w2 ⟨rfl, hb2⟩; have r2 := r1.trans (hb2.mono hz1); have hz2 : w.heap.size + 3 ≤ w2.heap.size := (by have := r2.size; simpa using this); clear hb2))
      | ((go_at_call 18; (with_reducible refine (HUA.out _).mono ?_); rintro x w1 ⟨rfl, hb1⟩; have r1 := (Below.refl (w.heap.size + 3) (((w.alloc (feeBox a P1 p1 E1 e1)).alloc (feeBox b P2 p2 E2 e2)).alloc zFeeO)).drew.trans (hb1.mono (by simp)); have hz1 : w.heap.size + 3 ≤ w1.heap.size := (by have := r1.size; simpa using this); clear hb1))
      | ((go_at_call 18; (with_reducible refine (HUB.out _).mono ?_); rintro x w1 ⟨rfl, hb1⟩; have r1 := (Below.refl (w.heap.size + 3) (((w.alloc (feeBox a P1 p1 E1 e1)).alloc (feeBox b P2 p2 E2 e2)).alloc zFeeO)).drew.trans (hb1.mono (by simp)); have hz1 : w.heap.size + 3 ≤ w1.heap.size := (by have := r1.size; simpa using this); clear hb1))
      | ((go_at_call 29; (with_reducible refine (HC.out _).mono ?_); rintro x wq ⟨rfl, rfl⟩)))
  all_goals
    have HR2 := Lib.hid r2
    obtain ⟨⟨a0, a1, a2, a3, a4, a5⟩, b0, b1, b2, b3, b4, b5⟩ := KEEP.out _ r2
    clear r1 r2
    rcases hways with ⟨hcc, hLL⟩ | ⟨hcc, hLL⟩ | ⟨hcc, hLL⟩
    · subst hcc hLL
      go_wp2_with fail
      go_quiet (fail)
      have R1 := (KEEPB.out _ (HR2.out.trans ((below_drewN13 wq nq).mono hz2))).thr
      go_wp2_with (with_reducible refine gate ?_; refine wp_store_fee rfl _ _ rfl (w.heap.size + 1 + 1) _ _ _ _ _ _ _ _ _ _ _ rfl rfl R1 rfl ?_; intro w4 hw4 huw4)
      refine bodyPost_ret (v := .agg _) (res_whole Tryz.results17 _ _ (w.heap.size + 1 + 1) rfl _ _ hw4 Tryz.underlying25 rfl feeSize) rfl ⟨rfl, ?_⟩
      exact (F3.out.trans ((HR2.out.trans ((below_drewN13 wq nq).mono hz2)).mono (by omega))).trans (huw4.below (by omega) (by simp; omega))
    · subst hcc hLL
      go_wp2_with fail
      go_quiet (fail)
      have R1 := (KEEPB.out _ (HR2.out.trans ((below_drewN13 wq nq).mono hz2))).thr
      go_wp2_with (with_reducible refine gate ?_; refine wp_store_fee rfl _ _ rfl (w.heap.size + 1 + 1) _ _ _ _ _ _ _ _ _ _ _ rfl rfl R1 rfl ?_; intro w4 hw4 huw4)
      refine bodyPost_ret (v := .agg _) (res_whole Tryz.results17 _ _ (w.heap.size + 1 + 1) rfl _ _ hw4 Tryz.underlying25 rfl feeSize) rfl ⟨rfl, ?_⟩
      exact (F3.out.trans ((HR2.out.trans ((below_drewN13 wq nq).mono hz2)).mono (by omega))).trans (huw4.below (by omega) (by simp; omega))
    · have hway : ∃ X : Bool, Op.bytesLess (kF a) (kF b) = X ∧ L = if X = true then (.agg #[.slice P2 b.path.length p2, .string (S b.id), .string (S b.title), .string (S b.link), .int .i64 b.upd, .slice E2 b.ents.length e2] : Value) else .agg #[.slice P1 a.path.length p1, .string (S a.id), .string (S a.title), .string (S a.link), .int .i64 a.upd, .slice E1 a.ents.length e1] := by
        by_cases h : cmpB (kF a) (kF b) = -1
        · exact ⟨true, less_yes h, by rw [hLL, if_pos h]; rfl⟩
        · exact ⟨false, less_no h, by rw [hLL, if_neg h]; rfl⟩
      obtain ⟨X, hX, hr⟩ := hway
      subst hcc
      clear hLL
      clear a0 a1 a2 a3 a4 a5 b0 b1 b2 b3 b4 b5
      generalize kF a = ka at *
      generalize kF b = kb at *
      have hw0 : Below w.heap.size w wq := F3.out.trans (HR2.out.mono (by omega))
      have HW0 := Lib.hid hw0
      clear hw0
      cases X
      all_goals
        have HRL := Lib.hid hr
        clear hr
        go_wp2_with fail
        go_region_held3 (fun x => (x.cell? ⟨w.heap.size, 0, none⟩ = some (.slice P1 a.path.length p1) ∧ x.cell? ⟨w.heap.size, 1, none⟩ = some (.string (S a.id)) ∧ x.cell? ⟨w.heap.size, 2, none⟩ = some (.string (S a.title)) ∧ x.cell? ⟨w.heap.size, 3, none⟩ = some (.string (S a.link)) ∧ x.cell? ⟨w.heap.size, 4, none⟩ = some (.int .i64 a.upd) ∧ x.cell? ⟨w.heap.size, 5, none⟩ = some (.slice E1 a.ents.length e1)) ∧ (x.cell? ⟨w.heap.size + 1, 0, none⟩ = some (.slice P2 b.path.length p2) ∧ x.cell? ⟨w.heap.size + 1, 1, none⟩ = some (.string (S b.id)) ∧ x.cell? ⟨w.heap.size + 1, 2, none⟩ = some (.string (S b.title)) ∧ x.cell? ⟨w.heap.size + 1, 3, none⟩ = some (.string (S b.link)) ∧ x.cell? ⟨w.heap.size + 1, 4, none⟩ = some (.int .i64 b.upd) ∧ x.cell? ⟨w.heap.size + 1, 5, none⟩ = some (.slice E2 b.ents.length e2)))
          (first | exact KEEP.out _ r4 | exact KEEP.out _ r3 | exact KEEP.out _ HR2.out.drew)
          (first
            | ((go_at_call 19; (with_reducible refine (HKA.out _ (F3.out.trans (r3.mono (by omega)))).mono ?_); rintro x w4 ⟨rfl, hb4⟩; have r4 := r3.trans (hb4.mono hz3); have hz4 : w.heap.size + 3 ≤ w4.heap.size := (by have := r4.size; simpa using this); clear hb4))
            | ((go_at_call 19; (with_reducible refine (HKB.out _ (F3.out.trans (r3.mono (by omega)))).mono ?_); rintro x w4 ⟨rfl, hb4⟩; have r4 := r3.trans (hb4.mono hz3); have hz4 : w.heap.size + 3 ≤ w4.heap.size := (by have := r4.size; simpa using this); clear hb4))
            | ((go_at_call 19; (with_reducible refine (HKA.out _ HW0.out.drew).mono ?_); rintro x w3 ⟨rfl, hb3⟩; have r3 := HR2.out.drew.trans (hb3.mono (by simpa using hz2)); have hz3 : w.heap.size + 3 ≤ w3.heap.size := (by have := r3.size; simpa using this); clear hb3))
            | ((go_at_call 19; (with_reducible refine (HKB.out _ HW0.out.drew).mono ?_); rintro x w3 ⟨rfl, hb3⟩; have r3 := HR2.out.drew.trans (hb3.mono (by simpa using hz2)); have hz3 : w.heap.size + 3 ≤ w3.heap.size := (by have := r3.size; simpa using this); clear hb3)))
        all_goals
          have R4 := (KEEPB.out _ r4).thr
          have HR4 := Lib.hid r4
          clear r3 r4
          go_wp2_with (with_reducible refine gate ?_; refine wp_store_fee rfl _ _ rfl (w.heap.size + 1 + 1) _ _ _ _ _ _ _ _ _ _ _ rfl rfl R4 rfl ?_; intro w5 hw5 huw5)
          refine bodyPost_ret (v := .agg _) (res_whole Tryz.results17 _ _ (w.heap.size + 1 + 1) rfl _ _ hw5 Tryz.underlying25 rfl feeSize) rfl ⟨by rw [HRL.out]; rfl, ?_⟩
          exact (F3.out.trans (HR4.out.mono (by omega))).trans (huw5.below (by omega) (by omega))
end Go.Proofs.YtadkgjbidhfefaaGreatDoor
set_option linter.unusedVariables false
set_option linter.unusedSimpArgs false
namespace Go.Proofs.YtadkgjbidhfefaaGreatDoor
open Go.RowKit

set_option maxHeartbeats 1000000 in
set_option maxRecDepth 100000 in
theorem cloneS_any (l : List Bytes) (u : Value) (w : World) (p : Nat → Prop) (hp : ∀ k, p k → k < w.heap.size) (h : ElsP strE w p u l) (hl : l.length ≤ 1000000000) :
    Calls Tryz.prog 20 #[u] w fun e w' => ∃ v', e = .returned v' ∧ ElRow strE w' w.heap.size p v' l ∧ Below w.heap.size w w' := by
  obtain ⟨A, cap, rfl, hcap, hh⟩ := id h
  cases A with
  | none =>
    have hn : l = [] := by
      rcases hh with h | ⟨b, off, hA, _⟩
      · exact h
      · cases hA
    subst hn
    have HN := Lib.hid (ElRow.nil strE w w.heap.size p)
    have q : ∀ (W : World) (n c : Nat), (binOp .eql 22 (.slice none n c) (.slice none 0 0)).run Tryz.prog W = .ok (.bool true) W := fun W n c => Lib.run_eql_slice_nil W _ _ _ n c 0 0 Tryz.underlying22
    clear h hh
    go_enter Tryz.func20, Tryz.ntmps20
    go_wp2
    go_ret
    exact ⟨_, rfl, HN.out, Below.refl _ _⟩
  | some ad =>
    have hF := ElRow.fresh strE w w.heap.size p (Nat.le_refl _)
    have hE := h.keep strE_ok (w' := w.alloc (.cells #[] strE.T)) (fun k hk => Below.heap_alloc _ _ _ (hp k hk)) (fun _ h => h)
    have HF := Lib.hid hF
    have HE := Lib.hid hE
    have hlen : ([] : List Bytes).length + l.length < 10000000000 := by simp; omega
    have HB : Hid (∀ j, p j → (Value.slice (some ⟨w.heap.size, 0, none⟩) 0 0).ownBlock ≠ some j) := fun j hj e => by
      have := hp j hj
      simp [Value.ownBlock] at e
      omega
    have HB2 : Hid (∀ j, p j → j < (w.alloc (.cells #[] strE.T)).heap.size) := fun j hj => by have := hp j hj; simp; omega
    have q : ∀ (W : World) (n c : Nat), (binOp .eql 22 (.slice (some ad) n c) (.slice none 0 0)).run Tryz.prog W = .ok (.bool false) W := fun W n c => Lib.run_eql_slice_nil W _ _ _ n c 0 0 Tryz.underlying22
    clear h hh hF hE
    go_enter Tryz.func20, Tryz.ntmps20
    go_wp2_with (with_reducible refine gate ?_; refine els_append_all strE_ok rfl _ _ rfl _ w.heap.size p (.slice (some ⟨w.heap.size, 0, none⟩) 0 0) [] rfl HF.out (some ad) l.length cap l rfl HE.out (by simp) hlen HB.out HB2.out ?_; intro v' w' hrow hgr hb hat)
    have HR := Lib.hid hrow
    have HBE := Lib.hid hb
    clear hrow hgr hb hat
    go_ret
    exact ⟨_, rfl, HR.out, ((Below.refl _ w).alloc (Nat.le_refl _) _).trans HBE.out⟩

/-- What LaterFeed returns: the later one without entries, its path in a slice of the call's own. -/
def LatR (B : Nat) (X : Fe) (w' : World) (e : Ending) : Prop :=
  ∃ A c, e = .returned (.agg #[.slice A X.path.length c, .string (S X.id), .string (S X.title), .string (S X.link), .int .i64 X.upd, .slice none 0 0]) ∧ ElRow strE w' B (fun _ => False) (.slice A X.path.length c) X.path
theorem strRow_free {w : World} {base : Nat} {p : Nat → Prop} {v : Value} {l : List Bytes} (h : ElRow strE w base p v l) : ElRow strE w base (fun _ => False) v l := by
  obtain ⟨css, h1, h2, h3⟩ := h
  exact ⟨css, h1, h2, h3⟩
theorem set2_heap {w : World} {g k : Nat} {o : Obj} (u v : Value) (h : w.heap[k]? = some o) (hne : k ≠ g) : ((w.setCell ⟨g, 0, none⟩ u).setCell ⟨g, 5, none⟩ v).heap[k]? = some o := by
  have hk := heap_lt h
  rw [(Upd.set_ g 5 _ _).block _ (by simp; omega) hne, (Upd.set_ g 0 _ _).block _ hk hne]
  exact h
theorem els_all (l : List Bytes) {w : World} {p q : Nat → Prop} {v : Value} (h : ElsP strE w p v l) (hp : ∀ k, p k → q k) : ElsP strE w q v l := h.keep strE_ok (fun _ _ => rfl) hp

set_option maxHeartbeats 8000000 in
set_option maxRecDepth 100000 in
theorem laterFeed_any (a b : Fe) (P1 E1 P2 E2 : Option Addr) (p1 e1 p2 e2 : Nat) (w : World) (hT : TabJ w) (hf : FFit a) (hg : FFit b) (hs : FSz a) (ht : FSz b) (hu : FeeV w (· < w.heap.size) a (.agg #[.slice P1 a.path.length p1, .string (S a.id), .string (S a.title), .string (S a.link), .int .i64 a.upd, .slice E1 a.ents.length e1])) (hv : FeeV w (· < w.heap.size) b (.agg #[.slice P2 b.path.length p2, .string (S b.id), .string (S b.title), .string (S b.link), .int .i64 b.upd, .slice E2 b.ents.length e2])) :
    Calls Tryz.prog 6 #[.agg #[.slice P1 a.path.length p1, .string (S a.id), .string (S a.title), .string (S a.link), .int .i64 a.upd, .slice E1 a.ents.length e1], .agg #[.slice P2 b.path.length p2, .string (S b.id), .string (S b.title), .string (S b.link), .int .i64 b.upd, .slice E2 b.ents.length e2]] w fun x w' => LatR w.heap.size (lat3 cmpKF a b) w' x ∧ Below w.heap.size w w' := by
  have E0 := Lib.hid (Box3F.new w (feeBox a P1 p1 E1 e1) (feeBox b P2 p2 E2 e2) zFeeO)
  have F3 : Hid (Below w.heap.size w (((w.alloc (feeBox a P1 p1 E1 e1)).alloc (feeBox b P2 p2 E2 e2)).alloc zFeeO)) := (((Below.refl _ _).alloc (Nat.le_refl _) _).alloc (by simp) _).alloc (by simp; omega) _
  have kp : ∀ {a : Fe} {x : Value} (W : World), Below w.heap.size w W → FeeV w (· < w.heap.size) a x → FeeV W (· < W.heap.size) a x := fun W hW hx => hx.keep hW.block (fun k hk => Nat.lt_of_lt_of_le hk hW.size)
  have hla := laterF_any a b P1 E1 P2 E2 p1 e1 p2 e2 (((w.alloc (feeBox a P1 p1 E1 e1)).alloc (feeBox b P2 p2 E2 e2)).alloc zFeeO) (hT.next F3.out) hf hg hs ht (kp _ F3.out hu) (kp _ F3.out hv)
  have hX : ∃ (X : Fe) (P E : Option Addr) (p e : Nat), lat3 cmpKF a b = X ∧ (if cmpKF a b = -1 then (.agg #[.slice P2 b.path.length p2, .string (S b.id), .string (S b.title), .string (S b.link), .int .i64 b.upd, .slice E2 b.ents.length e2] : Value) else .agg #[.slice P1 a.path.length p1, .string (S a.id), .string (S a.title), .string (S a.link), .int .i64 a.upd, .slice E1 a.ents.length e1]) = .agg #[.slice P X.path.length p, .string (S X.id), .string (S X.title), .string (S X.link), .int .i64 X.upd, .slice E X.ents.length e] ∧ FeeV w (· < w.heap.size) X (.agg #[.slice P X.path.length p, .string (S X.id), .string (S X.title), .string (S X.link), .int .i64 X.upd, .slice E X.ents.length e]) ∧ FSz X := by
    by_cases h : cmpKF a b = -1
    · exact ⟨b, P2, E2, p2, e2, by unfold lat3; rw [if_pos h], by rw [if_pos h], hv, ht⟩
    · exact ⟨a, P1, E1, p1, e1, by unfold lat3; rw [if_neg h], by rw [if_neg h], hu, hs⟩
  obtain ⟨X, P, E, p, e, hXe, hval, hXv, hXs⟩ := hX
  rw [hval] at hla
  rw [hXe]
  have hclo := fun (W : World) (hW : Below w.heap.size w W) => cloneS_any X.path (.slice P X.path.length p) W (· < w.heap.size) (fun k hk => Nat.lt_of_lt_of_le hk hW.size) (by
    obtain ⟨P', p', E', e', hv', hpp, _, _, _⟩ := hXv.open_
    cases hv'
    exact hpp.keep strE_ok hW.block (fun _ h => h)) (by have := hXs.path; omega)
  have HLA := Lib.hid hla
  have HCL := Lib.hid hclo
  have E0' := E0.out
  obtain ⟨⟨a0, a1, a2, a3, a4, a5⟩, b0, b1, b2, b3, b4, b5⟩ := (And.intro (cells6 E0'.one) (cells6 E0'.two))
  clear E0' hla hclo kp hT hf hg hs ht hu hv hXe hval hXv hXs
  go_enter Tryz.func6, Tryz.ntmps6
  go_wp2_with (first
    | (go_at_call 17; (with_reducible refine HLA.out.mono ?_); rintro x w1 ⟨rfl, hb1⟩; have HB1 := Lib.hid (F3.out.trans (hb1.mono F3.out.size)); have E1' := Lib.hid (E0.out.next hb1); clear hb1; obtain ⟨x0, x1, x2, x3, x4, x5⟩ := cells6 (heap_alloc_new w1 (feeBox X P p E e)))
    | (go_at_call 20; (with_reducible refine (HCL.out _ (HB1.out.alloc HB1.out.size (feeBox X P p E e))).mono ?_); rintro x w2 ⟨v', rfl, hrow, hb2⟩; obtain ⟨A', c', rfl, hc'⟩ := hrow.slice; have hg2 := (hb2.block w1.heap.size (by simp)).trans (heap_alloc_new w1 (feeBox X P p E e)); obtain ⟨x0, x1, x2, x3, x4, x5⟩ := cells6 hg2; have f0 : w2.frozen? ⟨w1.heap.size, 0, none⟩ = false := Lib.frozen_of_heap hg2 0; have f5 : w2.frozen? ⟨w1.heap.size, 5, none⟩ = false := Lib.frozen_of_heap hg2 5; have hz2 := E1'.out.thr; have hl2 := heap_lt hz2; have HZ2 := Lib.hid ((hb2.block (w.heap.size + 1 + 1) (by simp; omega)).trans ((Below.heap_alloc w1 (feeBox X P p E e) _ hl2).trans hz2)); have hs2 := hb2.size; have HB2 := Lib.hid ((HB1.out.alloc HB1.out.size (feeBox X P p E e)).trans (hb2.mono (HB1.out.alloc HB1.out.size (feeBox X P p E e)).size)); have HROW := Lib.hid (strRow_free hrow); have R1 := set2_heap (g := w1.heap.size) (.slice A' X.path.length c') (.slice none 0 0) HZ2.out (by omega); clear hb2 hrow hg2 hz2)
    | (with_reducible refine gate ?_; refine wp_store_fee rfl _ _ rfl (w.heap.size + 1 + 1) _ _ _ _ _ _ _ _ _ _ _ rfl rfl R1 rfl ?_; intro w4 hw4 hu4))
  have hsz1 := HB1.out.size
  have hne : w.heap.size + 1 + 1 ≠ w1.heap.size := by omega
  have hs2' : w1.heap.size + 1 ≤ w2.heap.size := by simpa using hs2
  refine bodyPost_ret (v := .agg _) (res_whole Tryz.results6 _ _ (w.heap.size + 1 + 1) rfl _ _ hw4 Tryz.underlying25 rfl feeSize) rfl ⟨⟨A', c', rfl, ?_⟩, ?_⟩
  · have hlt := HROW.out.lt
    refine (HROW.out.heap strE_ok (w' := w4) (fun k hk => ?_) (fun k hk => hk.elim)).base_ (by simp; omega)
    have hk2 := hlt k hk
    have hk3 : w1.heap.size + 1 ≤ k := by simpa using hk2.1
    rw [hu4.block k (by simp; omega) (by omega), (Upd.set_ w1.heap.size 5 _ _).block _ (by simp; omega) (by omega), (Upd.set_ w1.heap.size 0 _ _).block _ (by omega) (by omega)]
  · exact ((HB2.out.setCell (p := ⟨w1.heap.size, 0, none⟩) (by simpa using hsz1) _).setCell (p := ⟨w1.heap.size, 5, none⟩) (by simpa using hsz1) _).trans (hu4.below (by omega) (by simp; omega))
end Go.Proofs.YtadkgjbidhfefaaGreatDoor
set_option linter.unusedVariables false
set_option linter.unusedSimpArgs false
namespace Go.Proofs.YtadkgjbidhfefaaGreatDoor
open Go.RowKit

/-- The four blocks of the reference's LaterFeed. -/
structure Fee4 (w : World) (B : Nat) (x y z t : Obj) : Prop where
  one : w.heap[B]? = some x
  two : w.heap[B + 1]? = some y
  thr : w.heap[B + 1 + 1]? = some z
  fou : w.heap[B + 1 + 1 + 1]? = some t
theorem Fee4.new (w : World) (x y z t : Obj) : Fee4 ((((w.alloc x).alloc y).alloc z).alloc t) w.heap.size x y z t := by
  have h := Box3F.new w x y z
  refine ⟨?_, ?_, ?_, ?_⟩
  · exact (Below.heap_alloc _ _ _ (heap_lt h.one)).trans h.one
  · exact (Below.heap_alloc _ _ _ (heap_lt h.two)).trans h.two
  · exact (Below.heap_alloc _ _ _ (heap_lt h.thr)).trans h.thr
  · have := heap_alloc_new (((w.alloc x).alloc y).alloc z) t
    simpa using this
theorem Fee4.next {w w' : World} {B : Nat} {x y z t : Obj} (h : Fee4 w B x y z t) (hb : Below w.heap.size w w') : Fee4 w' B x y z t :=
  ⟨(hb.block _ (heap_lt h.one)).trans h.one, (hb.block _ (heap_lt h.two)).trans h.two, (hb.block _ (heap_lt h.thr)).trans h.thr, (hb.block _ (heap_lt h.fou)).trans h.fou⟩

set_option maxHeartbeats 16000000 in
set_option maxRecDepth 100000 in
theorem refLaterFeed_any (a b : Fe) (P1 E1 P2 E2 : Option Addr) (p1 e1 p2 e2 : Nat) (w : World) (hf : FFit a) (hg : FFit b) (hs : FSz a) (ht : FSz b) (hu : FeeV w (· < w.heap.size) a (.agg #[.slice P1 a.path.length p1, .string (S a.id), .string (S a.title), .string (S a.link), .int .i64 a.upd, .slice E1 a.ents.length e1])) (hv : FeeV w (· < w.heap.size) b (.agg #[.slice P2 b.path.length p2, .string (S b.id), .string (S b.title), .string (S b.link), .int .i64 b.upd, .slice E2 b.ents.length e2])) :
    Calls Tryz.prog 8 #[.agg #[.slice P1 a.path.length p1, .string (S a.id), .string (S a.title), .string (S a.link), .int .i64 a.upd, .slice E1 a.ents.length e1], .agg #[.slice P2 b.path.length p2, .string (S b.id), .string (S b.title), .string (S b.link), .int .i64 b.upd, .slice E2 b.ents.length e2]] w fun x w' => LatR w.heap.size (lat3 cmpKF a b) w' x ∧ Below w.heap.size w w' := by
  have kp : ∀ {a : Fe} {x : Value} (W : World), Below w.heap.size w W → FeeV w (· < w.heap.size) a x → FeeV W (· < W.heap.size) a x := fun W hW hx => hx.keep hW.block (fun k hk => Nat.lt_of_lt_of_le hk hW.size)
  have E0 := Lib.hid (Fee4.new w (feeBox a P1 p1 E1 e1) (feeBox b P2 p2 E2 e2) zFeeO (feeBox a P1 p1 E1 e1))
  have F4 : Hid (Below w.heap.size w ((((w.alloc (feeBox a P1 p1 E1 e1)).alloc (feeBox b P2 p2 E2 e2)).alloc zFeeO).alloc (feeBox a P1 p1 E1 e1))) := ((((Below.refl _ _).alloc (Nat.le_refl _) _).alloc (by simp) _).alloc (by simp; omega) _).alloc (by simp; omega) _
  have hka := fun W => fun (hW : Below w.heap.size w W) => refFeedKey_any a _ W hf.1 hs (kp W hW hu)
  have hkb := fun W => fun (hW : Below w.heap.size w W) => refFeedKey_any b _ W hg.1 ht (kp W hW hv)
  rw [show keyOf (feeVal a) = kF a from rfl] at hka
  rw [show keyOf (feeVal b) = kF b from rfl] at hkb
  have hpa : ElsP strE w (· < w.heap.size) (.slice P1 a.path.length p1) a.path := by
    obtain ⟨P', p', E', e', hv', hpp, _, _, _⟩ := hu.open_
    cases hv'
    exact hpp
  have hpb : ElsP strE w (· < w.heap.size) (.slice P2 b.path.length p2) b.path := by
    obtain ⟨P', p', E', e', hv', hpp, _, _, _⟩ := hv.open_
    cases hv'
    exact hpp
  have HPA := Lib.hid hpa
  have HPB := Lib.hid hpb
  have hways : (a.upd < b.upd ∧ lat3 cmpKF a b = b) ∨ (b.upd < a.upd ∧ lat3 cmpKF a b = a) ∨ (a.upd = b.upd ∧ ∃ X Y : Bool, Op.bytesLess (kF b) (kF a) = X ∧ (kF b == kF a) = Y ∧ lat3 cmpKF a b = if (!(X || Y)) = true then b else a) := by
    by_cases h1 : a.upd < b.upd
    · exact .inl ⟨h1, by unfold lat3 cmpKF lex3 cmpI; simp only [if_pos h1]; simp⟩
    by_cases h2 : b.upd < a.upd
    · exact .inr (.inl ⟨h2, by unfold lat3 cmpKF lex3 cmpI; simp only [if_neg h1, if_pos h2]; simp⟩)
    · have hl : lat3 cmpKF a b = if cmpB (kF a) (kF b) = -1 then b else a := by unfold lat3 cmpKF lex3 cmpI; simp only [if_neg h1, if_neg h2]; simp
      refine .inr (.inr ⟨by omega, ?_⟩)
      have := ordB.anti (kF a) (kF b)
      rcases ordB.rng (kF a) (kF b) with h | h | h
      · exact ⟨false, false, less_no (by omega), ne_of_cmp (by omega), by rw [hl, if_pos h]; rfl⟩
      · have e := cmpB_eq h
        exact ⟨false, true, less_no (by omega), by rw [e]; simp, by rw [hl, if_neg (by omega)]; rfl⟩
      · exact ⟨true, false, less_yes (by omega), ne_of_cmp (by omega), by rw [hl, if_neg (by omega)]; rfl⟩
  have hla : a.path.length ≤ 100000 := hs.path
  have hlb : b.path.length ≤ 100000 := ht.path
  generalize lat3 cmpKF a b = L at *
  generalize kF a = ka at *
  generalize kF b = kb at *
  have HKA := Lib.hid hka
  have HKB := Lib.hid hkb
  have KEEPB : Hid (∀ W, Below (w.heap.size + 4) ((((w.alloc (feeBox a P1 p1 E1 e1)).alloc (feeBox b P2 p2 E2 e2)).alloc zFeeO).alloc (feeBox a P1 p1 E1 e1)) W → Fee4 W w.heap.size (feeBox a P1 p1 E1 e1) (feeBox b P2 p2 E2 e2) zFeeO (feeBox a P1 p1 E1 e1)) := fun W hW => E0.out.next (by simpa using hW)
  have KEEP : Hid (∀ W, Below (w.heap.size + 4) ((((w.alloc (feeBox a P1 p1 E1 e1)).alloc (feeBox b P2 p2 E2 e2)).alloc zFeeO).alloc (feeBox a P1 p1 E1 e1)) W → (W.cell? ⟨w.heap.size, 0, none⟩ = some (.slice P1 a.path.length p1) ∧ W.cell? ⟨w.heap.size, 1, none⟩ = some (.string (S a.id)) ∧ W.cell? ⟨w.heap.size, 2, none⟩ = some (.string (S a.title)) ∧ W.cell? ⟨w.heap.size, 3, none⟩ = some (.string (S a.link)) ∧ W.cell? ⟨w.heap.size, 4, none⟩ = some (.int .i64 a.upd) ∧ W.cell? ⟨w.heap.size, 5, none⟩ = some (.slice E1 a.ents.length e1)) ∧ (W.cell? ⟨w.heap.size + 1, 0, none⟩ = some (.slice P2 b.path.length p2) ∧ W.cell? ⟨w.heap.size + 1, 1, none⟩ = some (.string (S b.id)) ∧ W.cell? ⟨w.heap.size + 1, 2, none⟩ = some (.string (S b.title)) ∧ W.cell? ⟨w.heap.size + 1, 3, none⟩ = some (.string (S b.link)) ∧ W.cell? ⟨w.heap.size + 1, 4, none⟩ = some (.int .i64 b.upd) ∧ W.cell? ⟨w.heap.size + 1, 5, none⟩ = some (.slice E2 b.ents.length e2))) := fun W hW => ⟨cells6 (KEEPB.out W hW).one, cells6 (KEEPB.out W hW).two⟩
  have TAIL : ∀ (f : Fe) (P E : Option Addr) (p e : Nat), f = L → f.path.length ≤ 100000 → ElsP strE w (· < w.heap.size) (.slice P f.path.length p) f.path → True := fun _ _ _ _ _ _ _ _ => trivial
  clear TAIL hka hkb hf hg hs ht hu hv kp hpa hpb
  have E0' := E0.out
  obtain ⟨⟨a0, a1, a2, a3, a4, a5⟩, b0, b1, b2, b3, b4, b5⟩ := (And.intro (cells6 E0'.one) (cells6 E0'.two))
  clear E0'
  go_enter Tryz.func8, Tryz.ntmps8
  go_wp2_with fail
  go_cut [25] (fun s25 wx => ∃ t : Bool, s25 = .bool t ∧ L = (if t = true then b else a) ∧ Below (w.heap.size + 4) ((((w.alloc (feeBox a P1 p1 E1 e1)).alloc (feeBox b P2 p2 E2 e2)).alloc zFeeO).alloc (feeBox a P1 p1 E1 e1)) wx)
  case first =>
    rcases hways with ⟨h1, hL⟩ | ⟨h1, hL⟩ | ⟨h1, X, Y, hX, hY, hL⟩
    · have q1 : decide (a.upd < b.upd) = true := decide_eq_true h1
      have HL := Lib.hid hL
      clear hL
      go_quiet (fail)
      go_wp2_with fail
      go_meet
      exact ⟨true, rfl, HL.out, (below_drewN13 ((((w.alloc (feeBox a P1 p1 E1 e1)).alloc (feeBox b P2 p2 E2 e2)).alloc zFeeO).alloc (feeBox a P1 p1 E1 e1)) nq).mono (by simp)⟩
    · have q1 : decide (a.upd < b.upd) = false := decide_eq_false (by omega)
      have q2 : (b.upd == a.upd) = false := by rw [beq_eq_false_iff_ne]; omega
      have HL := Lib.hid hL
      clear hL
      go_quiet (fail)
      go_wp2_with fail
      go_meet
      exact ⟨false, rfl, HL.out, (below_drewN13 ((((w.alloc (feeBox a P1 p1 E1 e1)).alloc (feeBox b P2 p2 E2 e2)).alloc zFeeO).alloc (feeBox a P1 p1 E1 e1)) nq).mono (by simp)⟩
    · have q1 : decide (a.upd < b.upd) = false := decide_eq_false (by omega)
      have q2 : (b.upd == a.upd) = true := by rw [h1]; exact beq_self_eq_true _
      have HL := Lib.hid hL
      have H1 := Lib.hid h1
      clear hL h1
      clear a0 a1 a2 a3 a4 a5 b0 b1 b2 b3 b4 b5
      cases X <;> cases Y
      all_goals
        go_region_held3 (fun x => (x.cell? ⟨w.heap.size, 0, none⟩ = some (.slice P1 a.path.length p1) ∧ x.cell? ⟨w.heap.size, 1, none⟩ = some (.string (S a.id)) ∧ x.cell? ⟨w.heap.size, 2, none⟩ = some (.string (S a.title)) ∧ x.cell? ⟨w.heap.size, 3, none⟩ = some (.string (S a.link)) ∧ x.cell? ⟨w.heap.size, 4, none⟩ = some (.int .i64 a.upd) ∧ x.cell? ⟨w.heap.size, 5, none⟩ = some (.slice E1 a.ents.length e1)) ∧ (x.cell? ⟨w.heap.size + 1, 0, none⟩ = some (.slice P2 b.path.length p2) ∧ x.cell? ⟨w.heap.size + 1, 1, none⟩ = some (.string (S b.id)) ∧ x.cell? ⟨w.heap.size + 1, 2, none⟩ = some (.string (S b.title)) ∧ x.cell? ⟨w.heap.size + 1, 3, none⟩ = some (.string (S b.link)) ∧ x.cell? ⟨w.heap.size + 1, 4, none⟩ = some (.int .i64 b.upd) ∧ x.cell? ⟨w.heap.size + 1, 5, none⟩ = some (.slice E2 b.ents.length e2)))
          (first | exact KEEP.out _ r2 | exact KEEP.out _ r1 | exact KEEP.out _ (Below.refl _ _).drew)
          (first
            | ((go_at_call 22; (with_reducible refine (HKA.out _ (F4.out.trans (r1.mono (by omega)))).mono ?_); rintro x w2 ⟨rfl, hb2⟩; have r2 := r1.trans (hb2.mono hz1); have hz2 : w.heap.size + 4 ≤ w2.heap.size := (by have := r2.size; simpa using this); clear hb2))
            | ((go_at_call 22; (with_reducible refine (HKB.out _ (F4.out.trans (r1.mono (by omega)))).mono ?_); rintro x w2 ⟨rfl, hb2⟩; have r2 := r1.trans (hb2.mono hz1); have hz2 : w.heap.size + 4 ≤ w2.heap.size := (by have := r2.size; simpa using this); clear hb2))
            | ((go_at_call 22; (with_reducible refine (HKA.out _ F4.out.drew).mono ?_); rintro x w1 ⟨rfl, hb1⟩; have r1 := (Below.refl (w.heap.size + 4) ((((w.alloc (feeBox a P1 p1 E1 e1)).alloc (feeBox b P2 p2 E2 e2)).alloc zFeeO).alloc (feeBox a P1 p1 E1 e1))).drew.trans (hb1.mono (by simp)); have hz1 : w.heap.size + 4 ≤ w1.heap.size := (by have := r1.size; simpa using this); clear hb1))
            | ((go_at_call 22; (with_reducible refine (HKB.out _ F4.out.drew).mono ?_); rintro x w1 ⟨rfl, hb1⟩; have r1 := (Below.refl (w.heap.size + 4) ((((w.alloc (feeBox a P1 p1 E1 e1)).alloc (feeBox b P2 p2 E2 e2)).alloc zFeeO).alloc (feeBox a P1 p1 E1 e1))).drew.trans (hb1.mono (by simp)); have hz1 : w.heap.size + 4 ≤ w1.heap.size := (by have := r1.size; simpa using this); clear hb1)))
        all_goals
          go_wp2_with fail
          go_meet
          first
            | exact ⟨true, rfl, HL.out, r2⟩
            | exact ⟨false, rfl, HL.out, r2⟩
  case rest =>
    clear a0 a1 a2 a3 a4 a5 b0 b1 b2 b3 b4 b5
    obtain ⟨t, rfl, hL, hbc⟩ := hcut
    have HX := KEEPB.out _ hbc
    obtain ⟨⟨a0, a1, a2, a3, a4, a5⟩, b0, b1, b2, b3, b4, b5⟩ := KEEP.out _ hbc
    have HW := Lib.hid (F4.out.trans (hbc.mono (by omega)))
    have R1 := HX.fou
    have R2 := HX.thr
    clear hways HKA HKB KEEP KEEPB E0 F4 hbc HX
    cases t with
    | true =>
      obtain rfl : L = b := hL
      go_wp2_with (first
        | (with_reducible refine gate ?_; refine wp_store_fee rfl _ _ rfl (w.heap.size + 1 + 1 + 1) _ _ _ _ _ _ _ _ _ _ _ rfl rfl R1 rfl ?_; intro wt hR1 hu2; have hR2 := (hu2.block _ (heap_lt R2) (by omega)).trans R2; have hbx := HW.out.trans (hu2.below (by omega) HW.out.size); have hpx := HPB.out; have hlx := hlb; clear hu2 R1 R2; obtain ⟨x0, x1, x2, x3, x4, x5⟩ := cells6 hR1; have hsz := hbx.size; have hl1 := heap_lt hR1; have hl2 := heap_lt hR2; have HBX := Lib.hid hbx; have HF := Lib.hid (ElRow.fresh strE wt wt.heap.size (fun k => k < w.heap.size) (Nat.le_refl _)); have HE := Lib.hid (hpx.keep strE_ok (w' := wt.alloc (.cells #[] strE.T)) (fun k hk => (Below.heap_alloc wt _ _ (by omega)).trans (hbx.block k hk)) (fun _ h => h)); have hlen : ([] : List Bytes).length + L.path.length < 10000000000 := (by simp; omega); have HB := Lib.hid (show ∀ j, j < w.heap.size → (Value.slice (some ⟨wt.heap.size, 0, none⟩) 0 0).ownBlock ≠ some j from fun j hj e => by simp [Value.ownBlock] at e; omega); have HB2 := Lib.hid (show ∀ j, j < w.heap.size → j < (wt.alloc (.cells #[] strE.T)).heap.size from fun j hj => by simp; omega); have HR1 := Lib.hid hR1; have HR2 := Lib.hid hR2; have y0 : (wt.alloc (.cells #[] 9)).cell? ⟨w.heap.size + 1 + 1 + 1, 0, none⟩ = some (.slice P2 L.path.length p2) := (cells6 ((Below.heap_alloc wt (.cells #[] 9) _ hl1).trans hR1)).1; clear hpx hbx hR1 hR2)
        | (with_reducible refine gate ?_; refine els_append_all strE_ok rfl _ _ rfl _ wt.heap.size (fun k => k < w.heap.size) (.slice (some ⟨wt.heap.size, 0, none⟩) 0 0) [] rfl HF.out P2 L.path.length p2 L.path rfl HE.out (by simp) hlen HB.out HB2.out ?_; intro v' w2 hrow hgr hb2 hat; obtain ⟨A', c', rfl, hc'⟩ := hrow.slice; have hb2' := ((Below.refl wt.heap.size wt).alloc (Nat.le_refl _) (.cells #[] 9)).trans hb2; have hg2 := (hb2'.block _ hl1).trans HR1.out; have HZ2 := Lib.hid ((hb2'.block _ hl2).trans HR2.out); obtain ⟨x0, x1, x2, x3, x4, x5⟩ := cells6 hg2; have f0 : w2.frozen? ⟨w.heap.size + 1 + 1 + 1, 0, none⟩ = false := Lib.frozen_of_heap hg2 0; have f5 : w2.frozen? ⟨w.heap.size + 1 + 1 + 1, 5, none⟩ = false := Lib.frozen_of_heap hg2 5; have HG2 := Lib.hid hb2'; have hsz2 := hb2'.size; have HROW := Lib.hid (strRow_free hrow); have R1 := set2_heap (g := w.heap.size + 1 + 1 + 1) (.slice A' L.path.length c') (.slice none 0 0) HZ2.out (by omega); clear hrow hgr hb2 hat hb2' hg2)
        | (with_reducible refine gate ?_; refine wp_store_fee rfl _ _ rfl (w.heap.size + 1 + 1) _ _ _ _ _ _ _ _ _ _ _ rfl rfl R1 rfl ?_; intro w4 hw4 hu4))
      refine bodyPost_ret (v := .agg _) (res_whole Tryz.results8 _ _ (w.heap.size + 1 + 1) rfl _ _ hw4 Tryz.underlying25 rfl feeSize) rfl ⟨⟨A', c', rfl, ?_⟩, ?_⟩
      · have hlt := HROW.out.lt
        refine (HROW.out.heap strE_ok (w' := w4) (fun k hk => ?_) (fun k hk => hk.elim)).base_ (by omega)
        have hk2 := hlt k hk
        rw [hu4.block k (by simp; omega) (by omega), (Upd.set_ (w.heap.size + 1 + 1 + 1) 5 _ _).block _ (by simp; omega) (by omega), (Upd.set_ (w.heap.size + 1 + 1 + 1) 0 _ _).block _ (by omega) (by omega)]
      · exact (((HBX.out.trans (HG2.out.mono hsz)).setCell (p := ⟨w.heap.size + 1 + 1 + 1, 0, none⟩) (by simp; omega) _).setCell (p := ⟨w.heap.size + 1 + 1 + 1, 5, none⟩) (by simp; omega) _).trans (hu4.below (by omega) (by simp; omega))
    | false =>
      obtain rfl : L = a := hL
      obtain ⟨wt, ewt⟩ : ∃ x, x = wc := ⟨_, rfl⟩
      subst ewt
      have hR1 := R1
      have hR2 := R2
      have hbx := HW.out
      have hpx := HPA.out
      have hlx := hla
      clear R1 R2
      clear a0 a1 a2 a3 a4 a5 b0 b1 b2 b3 b4 b5
      obtain ⟨x0, x1, x2, x3, x4, x5⟩ := cells6 hR1
      have hsz := hbx.size
      have hl1 := heap_lt hR1
      have hl2 := heap_lt hR2
      have HBX := Lib.hid hbx
      have HF := Lib.hid (ElRow.fresh strE wt wt.heap.size (fun k => k < w.heap.size) (Nat.le_refl _))
      have HE := Lib.hid (hpx.keep strE_ok (w' := wt.alloc (.cells #[] strE.T)) (fun k hk => (Below.heap_alloc wt _ _ (by omega)).trans (hbx.block k hk)) (fun _ h => h))
      have hlen : ([] : List Bytes).length + L.path.length < 10000000000 := (by simp; omega)
      have HB := Lib.hid (show ∀ j, j < w.heap.size → (Value.slice (some ⟨wt.heap.size, 0, none⟩) 0 0).ownBlock ≠ some j from fun j hj e => by simp [Value.ownBlock] at e; omega)
      have HB2 := Lib.hid (show ∀ j, j < w.heap.size → j < (wt.alloc (.cells #[] strE.T)).heap.size from fun j hj => by simp; omega)
      have HR1 := Lib.hid hR1
      have HR2 := Lib.hid hR2
      have y0 : (wt.alloc (.cells #[] 9)).cell? ⟨w.heap.size + 1 + 1 + 1, 0, none⟩ = some (.slice P1 L.path.length p1) := (cells6 ((Below.heap_alloc wt (.cells #[] 9) _ hl1).trans hR1)).1
      clear hpx hbx hR1 hR2
      go_wp2_with (first
        | (with_reducible refine gate ?_; refine els_append_all strE_ok rfl _ _ rfl _ wt.heap.size (fun k => k < w.heap.size) (.slice (some ⟨wt.heap.size, 0, none⟩) 0 0) [] rfl HF.out P1 L.path.length p1 L.path rfl HE.out (by simp) hlen HB.out HB2.out ?_; intro v' w2 hrow hgr hb2 hat; obtain ⟨A', c', rfl, hc'⟩ := hrow.slice; have hb2' := ((Below.refl wt.heap.size wt).alloc (Nat.le_refl _) (.cells #[] 9)).trans hb2; have hg2 := (hb2'.block _ hl1).trans HR1.out; have HZ2 := Lib.hid ((hb2'.block _ hl2).trans HR2.out); obtain ⟨x0, x1, x2, x3, x4, x5⟩ := cells6 hg2; have f0 : w2.frozen? ⟨w.heap.size + 1 + 1 + 1, 0, none⟩ = false := Lib.frozen_of_heap hg2 0; have f5 : w2.frozen? ⟨w.heap.size + 1 + 1 + 1, 5, none⟩ = false := Lib.frozen_of_heap hg2 5; have HG2 := Lib.hid hb2'; have hsz2 := hb2'.size; have HROW := Lib.hid (strRow_free hrow); have R1 := set2_heap (g := w.heap.size + 1 + 1 + 1) (.slice A' L.path.length c') (.slice none 0 0) HZ2.out (by omega); clear hrow hgr hb2 hat hb2' hg2)
        | (with_reducible refine gate ?_; refine wp_store_fee rfl _ _ rfl (w.heap.size + 1 + 1) _ _ _ _ _ _ _ _ _ _ _ rfl rfl R1 rfl ?_; intro w4 hw4 hu4))
      refine bodyPost_ret (v := .agg _) (res_whole Tryz.results8 _ _ (w.heap.size + 1 + 1) rfl _ _ hw4 Tryz.underlying25 rfl feeSize) rfl ⟨⟨A', c', rfl, ?_⟩, ?_⟩
      · have hlt := HROW.out.lt
        refine (HROW.out.heap strE_ok (w' := w4) (fun k hk => ?_) (fun k hk => hk.elim)).base_ (by omega)
        have hk2 := hlt k hk
        rw [hu4.block k (by simp; omega) (by omega), (Upd.set_ (w.heap.size + 1 + 1 + 1) 5 _ _).block _ (by simp; omega) (by omega), (Upd.set_ (w.heap.size + 1 + 1 + 1) 0 _ _).block _ (by omega) (by omega)]
      · exact (((HBX.out.trans (HG2.out.mono hsz)).setCell (p := ⟨w.heap.size + 1 + 1 + 1, 0, none⟩) (by simp; omega) _).setCell (p := ⟨w.heap.size + 1 + 1 + 1, 5, none⟩) (by simp; omega) _).trans (hu4.below (by omega) (by simp; omega))
end Go.Proofs.YtadkgjbidhfefaaGreatDoor
set_option linter.unusedVariables false
namespace Go.Proofs.YtadkgjbidhfefaaGreatDoor
open Go.RowKit

def eqEs : List En → List En → Bool
  | [], [] => true
  | a :: l, b :: r => enEq a b && eqEs l r
  | _, _ => false
theorem eqEs_iff : ∀ {l r : List En}, eqEs l r = true ↔ l = r
  | [], [] => by simp [eqEs]
  | [], b :: r => by simp [eqEs]
  | a :: l, [] => by simp [eqEs]
  | a :: l, b :: r => by rw [eqEs, Bool.and_eq_true, enEq_iff, eqEs_iff, List.cons.injEq]
theorem eqEs_len {l r : List En} (h : l.length ≠ r.length) : eqEs l r = false := by
  cases hq : eqEs l r with
  | false => rfl
  | true => exact absurd (congrArg List.length (eqEs_iff.1 hq)) h
theorem eqEs_step {l r : List En} {i : Nat} (h1 : i < l.length) (h2 : i < r.length) : eqEs (l.drop i) (r.drop i) = (enEq l[i] r[i] && eqEs (l.drop (i + 1)) (r.drop (i + 1))) := by
  rw [List.drop_eq_getElem_cons h1, List.drop_eq_getElem_cons h2]; rfl
theorem eqPs_step {l r : List Bytes} {i : Nat} (h1 : i < l.length) (h2 : i < r.length) : (l.drop i == r.drop i) = (l[i] == r[i] && (l.drop (i + 1) == r.drop (i + 1))) := by
  rw [List.drop_eq_getElem_cons h1, List.drop_eq_getElem_cons h2]; rfl
theorem eqPs_len {l r : List Bytes} (h : l.length ≠ r.length) : (l == r) = false := by
  rw [beq_eq_false_iff_ne]; exact fun e => h (congrArg List.length e)
/-- Equal feeds. -/
def sameF (f g : Fe) : Bool := (f.path == g.path) && ((f.id == g.id) && ((f.title == g.title) && ((f.link == g.link) && ((f.upd == g.upd) && eqEs f.ents g.ents))))

end Go.Proofs.YtadkgjbidhfefaaGreatDoor
set_option linter.unusedVariables false
set_option linter.unusedSimpArgs false
namespace Go.Proofs.YtadkgjbidhfefaaGreatDoor
open Go.RowKit

set_option maxHeartbeats 16000000 in
set_option maxRecDepth 100000 in
theorem refSameFeed_any (f g : Fe) (u v : Value) (w : World) (hu : FeeV w (· < w.heap.size) f u) (hv : FeeV w (· < w.heap.size) g v) (hf : f.path.length ≤ 1000000000000 ∧ f.ents.length ≤ 1000000000000) (hg : g.path.length ≤ 1000000000000 ∧ g.ents.length ≤ 1000000000000) :
    Calls Tryz.prog 7 #[u, v] w fun x w' => x = .returned (.bool (sameF f g)) ∧ Below w.heap.size w w' := by
  obtain ⟨PA, pc, EA, ec, rfl, hp, he, hpc, hec⟩ := hu.open_
  obtain ⟨PB, pd, EB, ed, rfl, hq, hd, hpd, hed⟩ := hv.open_
  have HA : Hid (Below w.heap.size w ((w.alloc (feeBox f PA pc EA ec)).alloc (feeBox g PB pd EB ed))) := ((Below.refl _ _).alloc (Nat.le_refl _) _).alloc (by simp) _
  have hx : ∀ W, Below ((w.alloc (feeBox f PA pc EA ec)).alloc (feeBox g PB pd EB ed)).heap.size ((w.alloc (feeBox f PA pc EA ec)).alloc (feeBox g PB pd EB ed)) W → (W.cell? ⟨w.heap.size, 0, none⟩ = some (.slice PA f.path.length pc) ∧ W.cell? ⟨w.heap.size, 1, none⟩ = some (.string (S f.id)) ∧ W.cell? ⟨w.heap.size, 2, none⟩ = some (.string (S f.title)) ∧ W.cell? ⟨w.heap.size, 3, none⟩ = some (.string (S f.link)) ∧ W.cell? ⟨w.heap.size, 4, none⟩ = some (.int .i64 f.upd) ∧ W.cell? ⟨w.heap.size, 5, none⟩ = some (.slice EA f.ents.length ec)) ∧ (W.cell? ⟨w.heap.size + 1, 0, none⟩ = some (.slice PB g.path.length pd) ∧ W.cell? ⟨w.heap.size + 1, 1, none⟩ = some (.string (S g.id)) ∧ W.cell? ⟨w.heap.size + 1, 2, none⟩ = some (.string (S g.title)) ∧ W.cell? ⟨w.heap.size + 1, 3, none⟩ = some (.string (S g.link)) ∧ W.cell? ⟨w.heap.size + 1, 4, none⟩ = some (.int .i64 g.upd) ∧ W.cell? ⟨w.heap.size + 1, 5, none⟩ = some (.slice EB g.ents.length ed)) := fun W hW => by
    have e1 := (hW.block w.heap.size (by simp; omega)).trans ((Below.heap_alloc _ _ _ (by simp)).trans (heap_alloc_new w (feeBox f PA pc EA ec)))
    have e2 : W.heap[w.heap.size + 1]? = some (feeBox g PB pd EB ed) := (hW.block (w.heap.size + 1) (by simp)).trans (by have := heap_alloc_new (w.alloc (feeBox f PA pc EA ec)) (feeBox g PB pd EB ed); simpa using this)
    exact ⟨cells6 e1, cells6 e2⟩
  have KEEP := Lib.hid hx
  have h1 := fun W => fun (hW : Below w.heap.size w W) => refCmpPaths_any f.path g.path _ _ W (hp.keep strE_ok hW.block (fun k hk => Nat.lt_of_lt_of_le hk hW.size)) (hq.keep strE_ok hW.block (fun k hk => Nat.lt_of_lt_of_le hk hW.size)) hf.1 hg.1
  have t0 : (cmpP f.path g.path != 0) = !(f.path == g.path) := by
    have : (cmpP f.path g.path == 0) = (f.path == g.path) := by
      rw [Bool.eq_iff_iff, beq_iff_eq, beq_iff_eq]
      exact cmpP_zero
    rw [bne, this]
  unfold sameF
  obtain ⟨q0, hq0⟩ : ∃ q, (f.path == g.path) = q := ⟨_, rfl⟩
  rw [hq0] at t0
  rw [hq0]
  obtain ⟨q1, hq1⟩ : ∃ q, (f.id == g.id) = q := ⟨_, rfl⟩
  have t1 : (f.id != g.id) = !q1 := by rw [bne, hq1]
  obtain ⟨q2, hq2⟩ : ∃ q, (f.title == g.title) = q := ⟨_, rfl⟩
  have t2 : (f.title != g.title) = !q2 := by rw [bne, hq2]
  obtain ⟨q3, hq3⟩ : ∃ q, (f.link == g.link) = q := ⟨_, rfl⟩
  have t3 : (f.link != g.link) = !q3 := by rw [bne, hq3]
  obtain ⟨q4, hq4⟩ : ∃ q, (f.upd == g.upd) = q := ⟨_, rfl⟩
  have t4 : (f.upd != g.upd) = !q4 := by rw [bne, hq4]
  rw [hq1, hq2, hq3, hq4]
  have t0' : (cmpP f.path g.path == 0) = q0 := by rw [bne] at t0; cases q0 <;> simpa using t0
  clear hq0
  generalize cmpP f.path g.path = cp at *
  have HP := Lib.hid h1
  have HF := Lib.hid he
  have HG := Lib.hid hd
  have HD := Lib.hid hg
  have hfe := hf.2
  clear h1 hx hu hv hp he hq hd hf hg
  obtain ⟨⟨a0, a1, a2, a3, a4, a5⟩, b0, b1, b2, b3, b4, b5⟩ := KEEP.out _ (Below.refl _ _)
  cases q0 with
  | false =>
    rw [Bool.false_and]
    rw [Bool.not_false] at t0
    clear HD HG HF
    go_enter Tryz.func7, Tryz.ntmps7
    go_wp2_with (go_at_call 21; (with_reducible refine (HP.out _ HA.out).mono ?_); rintro x w1 ⟨rfl, hb1⟩; have R1 := Lib.hid (HA.out.trans (hb1.mono HA.out.size)); have RB := Lib.hid hb1; obtain ⟨⟨a0, a1, a2, a3, a4, a5⟩, b0, b1, b2, b3, b4, b5⟩ := KEEP.out _ hb1; clear hb1)
    go_ret
    exact ⟨rfl, R1.out⟩
  | true =>
    rw [Bool.true_and]
    rw [Bool.not_true] at t0
    cases q1 with
    | false =>
      rw [Bool.false_and]
      rw [Bool.not_false] at t1
      clear HD HG HF
      go_enter Tryz.func7, Tryz.ntmps7
      go_wp2_with (go_at_call 21; (with_reducible refine (HP.out _ HA.out).mono ?_); rintro x w1 ⟨rfl, hb1⟩; have R1 := Lib.hid (HA.out.trans (hb1.mono HA.out.size)); have RB := Lib.hid hb1; obtain ⟨⟨a0, a1, a2, a3, a4, a5⟩, b0, b1, b2, b3, b4, b5⟩ := KEEP.out _ hb1; clear hb1)
      go_ret
      exact ⟨rfl, R1.out⟩
    | true =>
      rw [Bool.true_and]
      rw [Bool.not_true] at t1
      cases q2 with
      | false =>
        rw [Bool.false_and]
        rw [Bool.not_false] at t2
        clear HD HG HF
        go_enter Tryz.func7, Tryz.ntmps7
        go_wp2_with (go_at_call 21; (with_reducible refine (HP.out _ HA.out).mono ?_); rintro x w1 ⟨rfl, hb1⟩; have R1 := Lib.hid (HA.out.trans (hb1.mono HA.out.size)); have RB := Lib.hid hb1; obtain ⟨⟨a0, a1, a2, a3, a4, a5⟩, b0, b1, b2, b3, b4, b5⟩ := KEEP.out _ hb1; clear hb1)
        go_ret
        exact ⟨rfl, R1.out⟩
      | true =>
        rw [Bool.true_and]
        rw [Bool.not_true] at t2
        cases q3 with
        | false =>
          rw [Bool.false_and]
          rw [Bool.not_false] at t3
          clear HD HG HF
          go_enter Tryz.func7, Tryz.ntmps7
          go_wp2_with (go_at_call 21; (with_reducible refine (HP.out _ HA.out).mono ?_); rintro x w1 ⟨rfl, hb1⟩; have R1 := Lib.hid (HA.out.trans (hb1.mono HA.out.size)); have RB := Lib.hid hb1; obtain ⟨⟨a0, a1, a2, a3, a4, a5⟩, b0, b1, b2, b3, b4, b5⟩ := KEEP.out _ hb1; clear hb1)
          go_ret
          exact ⟨rfl, R1.out⟩
        | true =>
          rw [Bool.true_and]
          rw [Bool.not_true] at t3
          cases q4 with
          | false =>
            rw [Bool.false_and]
            rw [Bool.not_false] at t4
            clear HD HG HF
            go_enter Tryz.func7, Tryz.ntmps7
            go_wp2_with (go_at_call 21; (with_reducible refine (HP.out _ HA.out).mono ?_); rintro x w1 ⟨rfl, hb1⟩; have R1 := Lib.hid (HA.out.trans (hb1.mono HA.out.size)); have RB := Lib.hid hb1; obtain ⟨⟨a0, a1, a2, a3, a4, a5⟩, b0, b1, b2, b3, b4, b5⟩ := KEEP.out _ hb1; clear hb1)
            go_ret
            exact ⟨rfl, R1.out⟩
          | true =>
            rw [Bool.true_and]
            rw [Bool.not_true] at t4
            by_cases hn : f.ents.length = g.ents.length
            · have tn : ((f.ents.length : Int) != g.ents.length) = false := by rw [bne, beq_iff_eq.2 (by omega)]; rfl
              have HN := Lib.hid hn
              obtain ⟨T, hT⟩ : ∃ T, eqEs f.ents g.ents = T := ⟨_, rfl⟩
              rw [hT]
              have HT := Lib.hid hT
              clear hT hn
              go_enter Tryz.func7, Tryz.ntmps7
              go_wp2_with (go_at_call 21; (with_reducible refine (HP.out _ HA.out).mono ?_); rintro x w1 ⟨rfl, hb1⟩; have R1 := Lib.hid (HA.out.trans (hb1.mono HA.out.size)); have RB := Lib.hid hb1; obtain ⟨⟨a0, a1, a2, a3, a4, a5⟩, b0, b1, b2, b3, b4, b5⟩ := KEEP.out _ hb1; clear hb1)
              clear a0 a1 a2 a3 a4 a5 b0 b1 b2 b3 b4 b5 t0 t1 t2 t3 t4 tn hq1 hq2 hq3 hq4
              go_loopw [5] (fun i5 wr => ∃ i : Nat, i ≤ f.ents.length ∧ i5 = .int .i64 i ∧ eqEs (f.ents.drop i) (g.ents.drop i) = T ∧ Below w1.heap.size w1 wr) (fun i5 _ => f.ents.length - (intOf i5).toNat)
              case atStart => exact ⟨0, Nat.zero_le _, rfl, HT.out, Below.refl _ _⟩
              case round =>
                obtain ⟨i, hi, rfl, hres, hb⟩ := hrel
                clear HT
                have HB := Lib.hid hb
                have hsz := hb.size
                have HW := Lib.hid (R1.out.trans (hb.mono R1.out.size))
                obtain ⟨⟨a0, a1, a2, a3, a4, a5⟩, b0, b1, b2, b3, b4, b5⟩ := KEEP.out _ (RB.out.trans (hb.mono RB.out.size))
                clear hb
                by_cases hlt : i < f.ents.length
                · have hlt' : (i : Int) < f.ents.length := by omega
                  have hlr : i < g.ents.length := by have := HN.out; omega
                  have hlr2 : (i : Int) < g.ents.length := by omega
                  obtain ⟨b, off, rfl, hpb, hc1⟩ := ents_at (HF.out.keep entE_ok HW.out.block (fun _ h => h)) hlt
                  obtain ⟨b', off', rfl, hpb', hc2⟩ := ents_at (HG.out.keep entE_ok HW.out.block (fun _ h => h)) hlr
                  rw [eqEs_step hlt hlr] at hres
                  generalize f.ents[i] = x at *
                  generalize g.ents[i] = y at *
                  have hne := fun W => run_ne_ent x y W
                  have k0 := hc1 0 _ rfl
                  have k1 := hc1 1 _ rfl
                  have k2 := hc1 2 _ rfl
                  have k3 := hc1 3 _ rfl
                  have k4 := hc1 4 _ rfl
                  have j0 := hc2 0 _ rfl
                  have j1 := hc2 1 _ rfl
                  have j2 := hc2 2 _ rfl
                  have j3 := hc2 3 _ rfl
                  have j4 := hc2 4 _ rfl
                  simp only [Nat.add_zero] at k0 j0
                  cases hq : enEq x y with
                  | true =>
                    rw [hq] at hne
                    rw [hq, Bool.true_and] at hres
                    have HRES := Lib.hid hres
                    clear hres
                    go_wp2_with fail
                    go_quiet (fail)
                    go_wp2_with fail
                    go_roundw
                    case rel => exact ⟨i + 1, by omega, by go_num, HRES.out, HB.out.trans ((below_drewN13 _ _).mono hsz)⟩
                    case measure => simp [intOf]; omega
                  | false =>
                    rw [hq] at hne
                    rw [hq, Bool.false_and] at hres
                    subst hres
                    go_wp2_with fail
                    go_quiet (fail)
                    go_wp2_with fail
                    go_ret
                    exact ⟨rfl, HW.out.trans ((below_drewN13 _ _).mono HW.out.size)⟩
                · obtain rfl : i = f.ents.length := by omega
                  have e : T = true := by
                    have h1 := HN.out
                    rw [← hres, List.drop_length, List.drop_of_length_le (by omega)]; rfl
                  subst e
                  clear hres
                  go_wp2_with fail
                  go_ret
                  exact ⟨rfl, HW.out⟩
            · have tn : ((f.ents.length : Int) != g.ents.length) = true := by rw [bne_iff_ne]; omega
              rw [eqEs_len hn]
              clear hn HG HF
              go_enter Tryz.func7, Tryz.ntmps7
              go_wp2_with (go_at_call 21; (with_reducible refine (HP.out _ HA.out).mono ?_); rintro x w1 ⟨rfl, hb1⟩; have R1 := Lib.hid (HA.out.trans (hb1.mono HA.out.size)); have RB := Lib.hid hb1; obtain ⟨⟨a0, a1, a2, a3, a4, a5⟩, b0, b1, b2, b3, b4, b5⟩ := KEEP.out _ hb1; clear hb1)
              go_ret
              exact ⟨rfl, R1.out⟩
end Go.Proofs.YtadkgjbidhfefaaGreatDoor
set_option linter.unusedVariables false
namespace Go.Proofs.YtadkgjbidhfefaaGreatDoor
open Go.RowKit

theorem vgo_of_chk : ∀ (m : Nat) (l : Bytes) (i : Nat), l.length ≤ m → (chkS 0 l i).2 = 0 → Lib.validGoD m l = true
  | 0, l, i, hl, h => rfl
  | m + 1, l, i, hl, h => by
    by_cases h0 : l = []
    · rw [h0]; exact vgo_end _
    · by_cases hd : (dec l).2 = 0
      · rw [chk_bad h0 hd] at h; cases h
      · cases hc : isChar (dec l).1 with
        | false => rw [chk_char h0 hd hc] at h; cases h
        | true =>
          rw [chk_next h0 hd hc] at h
          rw [vgo_next h0 (by omega) hd]
          exact vgo_of_chk m _ _ (by rw [List.length_drop]; have := (dec_le l).1; omega) h
theorem utf8_of_vld {l : Bytes} (h : vldT l = true) : utf8J l = true := by
  unfold vldT at h
  rw [Bool.and_eq_true, beq_iff_eq] at h
  exact vgo_of_chk _ l 0 (Nat.le_refl _) h.1
theorem all_utf8_of_vld {l : List Bytes} (h : l.all vldT = true) : l.all utf8J = true := by
  rw [List.all_eq_true] at h ⊢
  exact fun x hx => utf8_of_vld (h x hx)
/-- A feed without its entries. -/
abbrev bareF (f : Fe) : Fe := ⟨f.path, f.id, f.title, f.link, f.upd, []⟩
theorem jarr_inj {o : Bool} {l r : List JV} (h : jeq o (jarr l) (jarr r) = true) : l.length = r.length ∧ jeqL o l r = true := by
  rw [jeq_form] at h
  simp only [jhEq, jarr, JV.kind, JV.b, JV.n, JV.s, JV.items, JV.mems, JV.pos, Bool.and_eq_true, beq_iff_eq] at h
  exact ⟨h.1.1.2, h.2.1⟩
theorem jstr_inj {o : Bool} {a b : Bytes} (h : jeq o (jstr a) (jstr b) = true) : a = b := by
  rw [jeq_form] at h
  simp only [jhEq, jstr, JV.kind, JV.b, JV.n, JV.s, JV.items, JV.mems, JV.pos, Bool.and_eq_true, beq_iff_eq] at h
  exact h.1.1.1.1.2
theorem jint_inj {o : Bool} {a b : Int} (h : jeq o (jint a) (jint b) = true) : a = b := by
  rw [jeq_form] at h
  simp only [jhEq, jint, JV.kind, JV.b, JV.n, JV.s, JV.items, JV.mems, JV.pos, Bool.and_eq_true, beq_iff_eq] at h
  exact h.1.1.1.1.1.2
theorem jeqL_map (o : Bool) : ∀ l r : List Bytes, l.length = r.length → jeqL o (l.map jstr) (r.map jstr) = true → l = r
  | [], [], _, _ => rfl
  | [], b :: r, h, _ => by cases h
  | a :: l, [], h, _ => by cases h
  | a :: l, b :: r, hl, h => by
    rw [List.map_cons, List.map_cons, jeqL, Bool.and_eq_true] at h
    rw [jstr_inj h.1, jeqL_map o l r (by simpa using hl) h.2]
theorem keyF_inj {a b : Fe} (ha : (a.path.all utf8J && (strsF a).all utf8J) = true) (hb : (b.path.all utf8J && (strsF b).all utf8J) = true) (h : kF a = kF b) : bareF a = bareF b := by
  unfold kF keyOf outJ at h
  rw [jvd_fee, jvd_fee, if_pos ha, if_pos hb] at h
  have h1 : jrv (feeVal a) = true := by have := jvd_fee a; rw [ha, jvd_eq, Bool.and_eq_true] at this; exact this.1
  have h2 : jrv (feeVal b) = true := by have := jvd_fee b; rw [hb, jvd_eq, Bool.and_eq_true] at this; exact this.1
  have h3 := jtx_inj h1 h2
  rw [h] at h3
  simp only [beq_self_eq_true] at h3
  have h4 := (jarr_inj h3.symm).2
  simp only [List.map_cons, List.map_nil, List.cons_append, List.nil_append] at h4
  rw [jeqL, jeqL, jeqL, jeqL, jeqL] at h4
  simp only [Bool.and_eq_true] at h4
  obtain ⟨k0, k1, k2, k3, k4, _⟩ := h4
  have k5 := jarr_inj k0
  have e0 := jeqL_map false _ _ (by simpa using k5.1) k5.2
  show (⟨a.path, a.id, a.title, a.link, a.upd, []⟩ : Fe) = ⟨b.path, b.id, b.title, b.link, b.upd, []⟩
  rw [e0, jstr_inj k1, jstr_inj k2, jstr_inj k3, jint_inj k4]
theorem vldF_utf8 {f : Fe} (h : vldF f = true) : (f.path.all utf8J && (strsF f).all utf8J) = true := by
  unfold vldF at h
  simp only [Bool.and_eq_true] at h
  rw [Bool.and_eq_true]
  exact ⟨all_utf8_of_vld h.1.1.1.1.2, all_utf8_of_vld h.1.2⟩
theorem bare_lat (a b : Fe) : bareF (lat3 cmpKF a b) = lat3 cmpKF (bareF a) (bareF b) := by
  unfold lat3
  show bareF (if cmpKF a b = -1 then b else a) = if cmpKF a b = -1 then bareF b else bareF a
  split <;> rfl
theorem bare_bare (a : Fe) : bareF (bareF a) = bareF a := rfl
/-- What the law speaks of. -/
theorem lat_assoc (a b c : Fe) : bareF (lat3 cmpKF (bareF (lat3 cmpKF a b)) c) = bareF (lat3 cmpKF a (bareF (lat3 cmpKF b c))) := by
  rw [bare_lat, bare_bare, bare_lat, bare_lat a, bare_bare, bare_lat b c]
  exact lat3_assoc ordKF _ _ _
theorem lat_same (a : Fe) : bareF (lat3 cmpKF (bareF a) (bareF a)) = bareF a := by rw [lat3_same]
theorem lat_comm {a b : Fe} (ha : vldF a = true) (hb : vldF b = true) : bareF (lat3 cmpKF b a) = bareF (lat3 cmpKF a b) := by
  rw [bare_lat, bare_lat]
  refine lat3_comm ordKF _ _ fun h => ?_
  unfold cmpKF lex3 at h
  split at h
  · exact keyF_inj (vldF_utf8 ha) (vldF_utf8 hb) (cmpB_eq h)
  · rename_i hn; exact absurd h hn
theorem sameF_self (f : Fe) : sameF f f = true := by unfold sameF; simp [eqEs_iff.2 rfl]
end Go.Proofs.YtadkgjbidhfefaaGreatDoor
set_option linter.unusedVariables false
namespace Go.Proofs.YtadkgjbidhfefaaGreatDoor
open Go.RowKit

set_option maxHeartbeats 2000000 in
set_option maxRecDepth 100000 in
theorem large13_any (f : Fe) (u : Value) (w : World) (hu : FeeV w (· < w.heap.size) f u) (hf : FLen f) :
    Calls Tryz.prog 4 #[u] w fun x w' => x = .returned (.bool (wtF 0 [f])) ∧ Below w.heap.size w w' := by
  obtain ⟨cs, rfl, hp⟩ := hu
  obtain ⟨PA, pc, EA, ec, rfl, hpp, hee, h3, h4⟩ := id hp
  have hA0 : Below w.heap.size w (w.alloc (feeBox f PA pc EA ec)) := (Below.refl _ _).alloc (Nat.le_refl _) _
  have hp1 : FeeP (w.alloc (feeBox f PA pc EA ec)) (· < w.heap.size) f _ := hp.keep hA0.block (fun _ h => h)
  have hrow := els_one feeE_ok (w := w.alloc (feeBox f PA pc EA ec)) (p := (· < w.heap.size)) (x := f) hp1 (fun k hk => by have h1 : k < w.heap.size := hk; simp; omega) (· < ((w.alloc (feeBox f PA pc EA ec)).alloc (feeBox f PA pc EA ec)).heap.size) (fun k hk => by have h1 : k < w.heap.size := hk; simp; omega) (by simp)
  have hz : (w.alloc (feeBox f PA pc EA ec)).heap.size = w.heap.size + 1 := by simp
  rw [hz] at hrow
  have htl := tooLarge13_any [f] _ ((w.alloc (feeBox f PA pc EA ec)).alloc (feeBox f PA pc EA ec)) hrow (by simp) (fun x hx => by rw [List.mem_singleton.1 hx]; exact hf)
  have k := cells6 (heap_alloc_new w (feeBox f PA pc EA ec))
  obtain ⟨k0, k1, k2, k3, k4, k5⟩ := k
  have HA0 := Lib.hid hA0
  cases hq : wtF 0 [f] with
  | true =>
    rw [hq] at htl
    simp only [if_true] at htl
    have HTL := Lib.hid htl
    clear htl hq hrow hp hp1 hpp hee hz hA0
    go_enter Tryz.func4, Tryz.ntmps4
    go_wp2_with (go_at_call 10; refine HTL.out.mono ?_; rintro x w1 ⟨rfl, hb1⟩)
    go_ret
    exact ⟨rfl, (HA0.out.alloc (by simp) _).trans (hb1.mono (by simp; omega))⟩
  | false =>
    rw [hq] at htl
    simp only [Bool.false_eq_true, if_false] at htl
    have HTL := Lib.hid htl
    clear htl hq hrow hp hp1 hpp hee hz hA0
    go_enter Tryz.func4, Tryz.ntmps4
    go_wp2_with (go_at_call 10; refine HTL.out.mono ?_; rintro x w1 ⟨rfl, hb1⟩)
    go_ret
    exact ⟨rfl, (HA0.out.alloc (by simp) _).trans (hb1.mono (by simp; omega))⟩
end Go.Proofs.YtadkgjbidhfefaaGreatDoor
set_option linter.unusedVariables false
namespace Go.Proofs.YtadkgjbidhfefaaGreatDoor
open Go.RowKit

theorem h2a (W : World) (A B : Obj) (n : Nat) (hn : W.heap.size = n) : ((W.alloc A).alloc B).heap[n]? = some A := by
  subst hn; exact (Below.heap_alloc _ _ _ (by simp)).trans (heap_alloc_new W A)
theorem h2b (W : World) (A B : Obj) (n : Nat) (hn : W.heap.size + 1 = n) : ((W.alloc A).alloc B).heap[n]? = some B := by
  subst hn; have := heap_alloc_new (W.alloc A) B; simpa using this
theorem els_one13 {W : World} {b : Nat} {s0 : Bytes} (hb : W.heap[b]? = some (.cells #[.string (S s0)] 9)) : ElsP strE W (· < W.heap.size) (.slice (some ⟨b, 0, none⟩) 1 1) [s0] :=
  ⟨_, 1, rfl, Nat.le_refl _, .inr ⟨b, 0, rfl, heap_lt hb, fun i a hi => ⟨_, rfl, fun j v hj => by
    match j, hj with
    | 0, hj =>
      simp at hj; subst hj
      rw [Lib.cell_of_heap hb]
      match i, hi with
      | 0, hi => simp at hi; subst hi; rfl
      | i + 1, hi => simp at hi
    | j + 1, hj => simp at hj⟩⟩⟩
theorem els_two13 {W : World} {b : Nat} {s0 s1 : Bytes} (hb : W.heap[b]? = some (.cells #[.string (S s0), .string (S s1)] 9)) : ElsP strE W (· < W.heap.size) (.slice (some ⟨b, 0, none⟩) 2 2) [s0, s1] :=
  ⟨_, 2, rfl, Nat.le_refl _, .inr ⟨b, 0, rfl, heap_lt hb, fun i a hi => ⟨_, rfl, fun j v hj => by
    match j, hj with
    | 0, hj =>
      simp at hj; subst hj
      rw [Lib.cell_of_heap hb]
      match i, hi with
      | 0, hi => simp at hi; subst hi; rfl
      | 1, hi => simp at hi; subst hi; rfl
      | i + 2, hi => simp at hi
    | j + 1, hj => simp at hj⟩⟩⟩
def xE : En := ⟨[120], [], [], [], 7⟩
def aE : En := ⟨[97], [], [], [], 0⟩
def bE : En := ⟨[98], [], [], [], 0⟩
def zE : En := ⟨[], [], [], [], 0⟩
def fF : Fe := ⟨[], [102], [], [], 0, []⟩
theorem dec_one_dig (n : Nat) (h : n < 10) : Lib.itoa (n : Int) = [UInt8.ofNat (48 + n)] := by
  unfold Lib.itoa
  rw [if_neg (by omega)]
  exact Lib.decDigits_one h
theorem xE_key : keyOf (entVal xE) = [91, 34, 120, 34, 44, 34, 34, 44, 34, 34, 44, 34, 34, 44, 55, 93] := by
  rw [key_ent, show Lib.itoa xE.upd = [55] from dec_one_dig 7 (by decide)]
  decide +kernel
theorem later_ab : lat3 cmpK aE bE = bE := by
  have ha : kE aE = [91, 34, 97, 34, 44, 34, 34, 44, 34, 34, 44, 34, 34, 44, 48, 93] := by
    unfold kE
    rw [key_ent, show Lib.itoa aE.upd = [48] from dec_one_dig 0 (by decide)]
    decide +kernel
  have hb : kE bE = [91, 34, 98, 34, 44, 34, 34, 44, 34, 34, 44, 34, 34, 44, 48, 93] := by
    unfold kE
    rw [key_ent, show Lib.itoa bE.upd = [48] from dec_one_dig 0 (by decide)]
    decide +kernel
  unfold lat3 cmpK lex3
  simp only [ha, hb]
  rw [show cmpI aE.upd bE.upd = 0 from rfl]
  rfl
theorem fF_ok : ordFs [fF] = true := by decide +kernel
theorem zE_no : vldE zE = false := rfl

set_option maxHeartbeats 4000000 in
set_option maxRecDepth 100000 in
theorem alive13_any (w : World) (hT : TabJ w) : Calls Tryz.prog 5 #[] w fun e w' => e = .returned (.bool true) ∧ Below w.heap.size w w' := by
  have h1 : ∀ (W : World) (a b : Nat), W.heap[a]? = some (.cells #[.string ⟨#[97]⟩, .string ⟨#[98]⟩] 9) → W.heap[b]? = some (.cells #[.string ⟨#[97]⟩, .string ⟨#[98]⟩, .string ⟨#[99]⟩] 9) →
      Calls Tryz.prog 11 #[.slice (some ⟨a, 0, none⟩) 2 2, .slice (some ⟨b, 0, none⟩) 3 3] W fun e w' => e = .returned (.int .i64 (-1)) ∧ w' = W := fun W a b ha hb =>
    cmpPaths_any [[97], [98]] [[97], [98], [99]] _ _ W _ (els_two13 ha) (els_three hb) (by decide) (by decide)
  have h2 : ∀ (W : World) (a b : Nat), W.heap[a]? = some (.cells #[.string ⟨#[97]⟩, .string ⟨#[98]⟩, .string ⟨#[99]⟩] 9) → W.heap[b]? = some (.cells #[.string ⟨#[98]⟩] 9) →
      Calls Tryz.prog 11 #[.slice (some ⟨a, 0, none⟩) 3 3, .slice (some ⟨b, 0, none⟩) 1 1] W fun e w' => e = .returned (.int .i64 (-1)) ∧ w' = W := fun W a b ha hb =>
    cmpPaths_any [[97], [98], [99]] [[98]] _ _ W _ (els_three ha) (els_one13 hb) (by decide) (by decide)
  have h3 : ∀ W : World, Calls Tryz.prog 12 #[.agg #[.string ⟨#[]⟩, .string ⟨#[]⟩, .string ⟨#[]⟩, .string ⟨#[]⟩, .int .i64 5], .agg #[.string ⟨#[]⟩, .string ⟨#[]⟩, .string ⟨#[]⟩, .string ⟨#[]⟩, .int .i64 4]] W fun e w' => e = .returned (.int .i64 (-1)) ∧ Below W.heap.size W w' := fun W =>
    cmpEntries_any ⟨[], [], [], [], 5⟩ ⟨[], [], [], [], 4⟩ W
  have h4 : ∀ W : World, Below w.heap.size w W → Calls Tryz.prog 13 #[.agg #[.string ⟨#[120]⟩, .string ⟨#[]⟩, .string ⟨#[]⟩, .string ⟨#[]⟩, .int .i64 7]] W fun e w' => e = .returned (.string ⟨#[91, 34, 120, 34, 44, 34, 34, 44, 34, 34, 44, 34, 34, 44, 55, 93]⟩) ∧ Below W.heap.size W w' := fun W hW => by
    have := entryKey_any xE W (hT.next hW) (by constructor <;> decide) (by decide)
    rw [xE_key] at this
    exact this
  have h5 : ∀ (W : World) (b : Nat), Below w.heap.size w W → W.heap[b]? = some (.cells #[.slice none 0 0, .string ⟨#[102]⟩, .string ⟨#[]⟩, .string ⟨#[]⟩, .int .i64 0, .slice none 0 0] 25) →
      Calls Tryz.prog 14 #[.agg #[.slice (some ⟨b, 0, none⟩) 1 1]] W fun e w' => e = .returned (.int .i64 0) ∧ Below W.heap.size W w' := fun W b hW hb => by
    have := checkA_any [fF] (.slice (some ⟨b, 0, none⟩) 1 1) W (hT.next hW) ⟨_, 1, rfl, Nat.le_refl _, .inr ⟨b, 0, rfl, heap_lt hb, fun i a hi => by
      match i, hi with
      | 0, hi =>
        simp at hi; subst hi
        exact ⟨_, ⟨none, 0, none, 0, rfl, ElsP.nil _ _ _, ElsP.nil _ _ _, Nat.le_refl _, Nat.le_refl _⟩, (show W.rangeAt b (0 + 0 * 6) _ from range_of_heap hb)⟩
      | i + 1, hi => simp at hi⟩⟩ (by decide) (fun f hf => by
        rw [List.mem_singleton.1 hf]
        exact ⟨by decide, by decide, by decide, (fun e he => by cases he), by decide⟩)
    rw [fF_ok] at this
    exact this
  have h6 : ∀ W : World, Below w.heap.size w W → Calls Tryz.prog 15 #[.agg #[.string ⟨#[]⟩, .string ⟨#[]⟩, .string ⟨#[]⟩, .string ⟨#[]⟩, .int .i64 0]] W fun e w' => e = .returned (.int .i64 22) ∧ Below W.heap.size W w' := fun W hW =>
    checkEntry_any zE W (hT.next hW) (by decide)
  have h7 : ∀ W : World, Below w.heap.size w W → Calls Tryz.prog 16 #[.agg #[.string ⟨#[97]⟩, .string ⟨#[]⟩, .string ⟨#[]⟩, .string ⟨#[]⟩, .int .i64 0], .agg #[.string ⟨#[98]⟩, .string ⟨#[]⟩, .string ⟨#[]⟩, .string ⟨#[]⟩, .int .i64 0]] W fun e w' => e = .returned (.agg #[.string ⟨#[98]⟩, .string ⟨#[]⟩, .string ⟨#[]⟩, .string ⟨#[]⟩, .int .i64 0]) ∧ Below W.heap.size W w' := fun W hW => by
    have := laterEntry_any aE bE W (hT.next hW) (by constructor <;> decide) (by constructor <;> decide) (by decide) (by decide)
    rw [later_ab] at this
    exact this
  have hfld : ∀ W : World, (Instr.field 39 (.agg #[.string ⟨#[98]⟩, .string ⟨#[]⟩, .string ⟨#[]⟩, .string ⟨#[]⟩, .int .i64 0]) 0).run Tryz.prog W = .ok (.string ⟨#[98]⟩) W := fun W => by kernel_rfl
  have H1 := Lib.hid h1
  have H2 := Lib.hid h2
  have H3 := Lib.hid h3
  have H4 := Lib.hid h4
  have H5 := Lib.hid h5
  have H6 := Lib.hid h6
  have H7 := Lib.hid h7
  clear h1 h2 h3 h4 h5 h6 h7 hT
  go_enter Tryz.func5, Tryz.ntmps5
  go_wp2_with fail
  refine (H1.out _ _ _ ?_ ?_).mono ?_
  · exact h2a _ _ _ _ (by simp)
  · exact h2b _ _ _ _ (by simp)
  rintro e w1 ⟨rfl, rfl⟩
  go_wp2_with fail
  refine (H2.out _ _ _ ?_ ?_).mono ?_
  · exact h2a _ _ _ _ (by simp)
  · exact h2b _ _ _ _ (by simp)
  rintro e w2 ⟨rfl, rfl⟩
  have B2 : ∀ A B C D : Obj, Below w.heap.size w ((((w.alloc A).alloc B).alloc C).alloc D) := fun A B C D => ((((Below.refl _ _).alloc (Nat.le_refl _) A).alloc (by simp) B).alloc (by simp; omega) C).alloc (by simp; omega) D
  have HB2 := Lib.hid B2
  clear B2
  go_wp2_with fail
  refine (H3.out _).mono ?_
  rintro e w3 ⟨rfl, hb3⟩
  have B3 := Lib.hid ((HB2.out _ _ _ _).trans (hb3.mono (by simp; omega)))
  clear hb3
  go_wp2_with fail
  refine (H4.out _ B3.out).mono ?_
  rintro e w4 ⟨rfl, hb4⟩
  have B4 := Lib.hid (B3.out.trans (hb4.mono B3.out.size))
  clear hb4
  go_wp2_with fail
  refine (H5.out _ _ (B4.out.alloc B4.out.size _) (heap_alloc_new w4 _)).mono ?_
  rintro e w5 ⟨rfl, hb5⟩
  have B5 := Lib.hid ((B4.out.alloc B4.out.size _).trans (hb5.mono (by have := B4.out.size; simp; omega)))
  clear hb5
  go_wp2_with fail
  refine (H6.out _ B5.out).mono ?_
  rintro e w6 ⟨rfl, hb6⟩
  have B6 := Lib.hid (B5.out.trans (hb6.mono B5.out.size))
  clear hb6
  go_wp2_with fail
  refine (H7.out _ B6.out).mono ?_
  rintro e w7 ⟨rfl, hb7⟩
  go_wp2_with fail
  go_ret
  exact ⟨rfl, B6.out.trans (hb7.mono B6.out.size)⟩
end Go.Proofs.YtadkgjbidhfefaaGreatDoor
