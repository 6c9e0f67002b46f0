/-
  Walks of chapter 13: EntryKey and FeedKey (the reference).
-/
import Derived.Test.YtadkgjbidhfefaaDoorKeyP13
set_option linter.unusedVariables false
namespace Go.Proofs.YtadkgjbidhfefaaDoor
open Go.RowKit

theorem els_four {W : World} {b : Nat} {s0 s1 s2 s3 : Bytes} (hb : W.heap[b]? = some (.cells #[.string (S s0), .string (S s1), .string (S s2), .string (S s3)] 9)) : ElsP strE W (· < W.heap.size) (.slice (some ⟨b, 0, none⟩) 4 4) [s0, s1, s2, s3] :=
  ⟨_, 4, rfl, Nat.le_refl _, .inr ⟨b, 0, rfl, heap_lt hb, fun i a hi => ⟨_, rfl, fun j v hj => by
    match j, hj with
    | 0, hj =>
      simp at hj; subst hj
      rw [Lib.cell_of_heap hb]
      match i, hi with
      | 0, hi => simp at hi; subst hi; rfl
      | 1, hi => simp at hi; subst hi; rfl
      | 2, hi => simp at hi; subst hi; rfl
      | 3, hi => simp at hi; subst hi; rfl
      | i + 4, hi => simp at hi
    | j + 1, hj => simp at hj⟩⟩⟩
theorem els_three {W : World} {b : Nat} {s0 s1 s2 : Bytes} (hb : W.heap[b]? = some (.cells #[.string (S s0), .string (S s1), .string (S s2)] 9)) : ElsP strE W (· < W.heap.size) (.slice (some ⟨b, 0, none⟩) 3 3) [s0, s1, s2] :=
  ⟨_, 3, rfl, Nat.le_refl _, .inr ⟨b, 0, rfl, heap_lt hb, fun i a hi => ⟨_, rfl, fun j v hj => by
    match j, hj with
    | 0, hj =>
      simp at hj; subst hj
      rw [Lib.cell_of_heap hb]
      match i, hi with
      | 0, hi => simp at hi; subst hi; rfl
      | 1, hi => simp at hi; subst hi; rfl
      | 2, hi => simp at hi; subst hi; rfl
      | i + 3, hi => simp at hi
    | j + 1, hj => simp at hj⟩⟩⟩

set_option maxHeartbeats 4000000 in
set_option maxRecDepth 100000 in
theorem refEntryKey_any (e : En) (w : World) (hf : EFit e) (hs : e.id.length + e.title.length + e.link.length + e.content.length ≤ 100000) :
    Calls Tryd.prog 42 #[entV e] w fun x w' => x = .returned (.string (S (keyOf (entVal e)))) ∧ Below w.heap.size w w' := by
  rw [key_ent]
  have hq := fun (W : World) (b : Nat) (hb : W.heap[b]? = some (.cells #[.string (S e.id), .string (S e.title), .string (S e.link), .string (S e.content)] 9)) => refQuoteL_any (strsE e) _ W (els_four hb) (by simp [strsE]) (by simp [strsE]; omega)
  have hd := fun W => decimal_any e.upd hf.1 hf.2 W
  have hil := itoa_len e.upd hf.1 hf.2
  have hql : (quoL (strsE e)).length ≤ 900000 := by
    have := jtxL_jstr_len true (strsE e)
    unfold quoL
    split
    · simp only [strsE, List.map_cons, List.map_nil, List.sum_cons, List.sum_nil, List.length_cons, List.length_nil] at this ⊢; omega
    · simp
  have hnew : ((w.alloc (entBox e)).alloc (.cells #[.string (S e.id), .string (S e.title), .string (S e.link), .string (S e.content)] 9)).heap[w.heap.size + 1]? = some (.cells #[.string (S e.id), .string (S e.title), .string (S e.link), .string (S e.content)] 9) := by
    have := heap_alloc_new (w.alloc (entBox e)) (.cells #[.string (S e.id), .string (S e.title), .string (S e.link), .string (S e.content)] 9)
    simpa using this
  have hx : ∀ W, Below (w.heap.size + 1) (w.alloc (entBox e)) W → W.cell? ⟨w.heap.size, 0, none⟩ = some (.string (S e.id)) ∧ W.cell? ⟨w.heap.size, 1, none⟩ = some (.string (S e.title)) ∧ W.cell? ⟨w.heap.size, 2, none⟩ = some (.string (S e.link)) ∧ W.cell? ⟨w.heap.size, 3, none⟩ = some (.string (S e.content)) ∧ W.cell? ⟨w.heap.size, 4, none⟩ = some (.int .i64 e.upd) := fun W hW =>
    cells5 ((hW.block w.heap.size (by omega)).trans (heap_alloc_new w (entBox e)))
  have KEEP := Lib.hid hx
  have HNEW := Lib.hid hnew
  have HA0 := Lib.hid (show Below w.heap.size w (w.alloc (entBox e)) from (Below.refl _ _).alloc (Nat.le_refl _) _)
  have HD := Lib.hid hd
  generalize quoL (strsE e) = Q at *
  generalize Lib.itoa e.upd = N at *
  have HQ := Lib.hid hq
  clear hx hnew hd hq hf
  by_cases hQ : Q = []
  · subst hQ
    rw [if_pos rfl]
    go_enter Tryd.func42, Tryd.ntmps42
    go_wp2_with (go_at_call 77; refine (HQ.out _ _ HNEW.out).mono ?_; rintro x w1 ⟨rfl, hb1⟩)
    go_ret
    exact ⟨rfl, (HA0.out.alloc (by simp) _).trans (hb1.mono (by simp; omega))⟩
  · rw [if_neg hQ]
    have t : Q.isEmpty = false := by cases Q with | nil => exact absurd rfl hQ | cons _ _ => rfl
    have t2 : (Q == []) = false := by rw [beq_eq_false_iff_ne]; exact hQ
    obtain ⟨L1, e1⟩ : ∃ L1 : Bytes, L1 = [91] ++ Q := ⟨_, rfl⟩
    obtain ⟨L2, e2⟩ : ∃ L2 : Bytes, L2 = L1 ++ [44] := ⟨_, rfl⟩
    obtain ⟨L3, e3⟩ : ∃ L3 : Bytes, L3 = L2 ++ N := ⟨_, rfl⟩
    obtain ⟨L4, e4⟩ : ∃ L4 : Bytes, L4 = L3 ++ [93] := ⟨_, rfl⟩
    have g1 : ∀ W : World, (Op.stringOp .add ⟨#[91]⟩ (S Q)).run Tryd.prog W = .ok (.string (S L1)) W := run_catJ [91] Q L1 e1 (by simp only [List.length_cons, List.length_nil]; omega)
    have g2 : ∀ W : World, (Op.stringOp .add (S L1) ⟨#[44]⟩).run Tryd.prog W = .ok (.string (S L2)) W := run_catJ L1 [44] L2 e2 (by rw [e1]; simp only [List.length_append, List.length_cons, List.length_nil]; omega)
    have g3 : ∀ W : World, (Op.stringOp .add (S L2) (S N)).run Tryd.prog W = .ok (.string (S L3)) W := run_catJ L2 N L3 e3 (by rw [e2, e1]; simp only [List.length_append, List.length_cons, List.length_nil]; omega)
    have g4 : ∀ W : World, (Op.stringOp .add (S L3) ⟨#[93]⟩).run Tryd.prog W = .ok (.string (S L4)) W := run_catJ L3 [93] L4 e4 (by rw [e3, e2, e1]; simp only [List.length_append, List.length_cons, List.length_nil]; omega)
    have he : L4 = [91] ++ Q ++ [44] ++ N ++ [93] := by rw [e4, e3, e2, e1]
    rw [← he]
    clear e1 e2 e3 e4 he hQ
    go_enter Tryd.func42, Tryd.ntmps42
    go_wp2_with (first
      | (go_at_call 77; refine (HQ.out _ _ HNEW.out).mono ?_; rintro x w1 ⟨rfl, hb1⟩; have r1 := ((Below.refl (w.heap.size + 1) (w.alloc (entBox e))).alloc (by simp) (.cells #[.string (S e.id), .string (S e.title), .string (S e.link), .string (S e.content)] 9)).trans (hb1.mono (by simp)); obtain ⟨k0, k1, k2, k3, k4⟩ := KEEP.out _ r1)
      | (go_at_call 78; refine (HD.out _).mono ?_; rintro x w2 ⟨rfl, hb2⟩))
    go_ret
    exact ⟨rfl, HA0.out.trans ((r1.trans (hb2.mono (by have := r1.size; simpa using this))).mono (Nat.le_succ _))⟩
end Go.Proofs.YtadkgjbidhfefaaDoor
