/-
  Several texts in one file, in build order:
  - Walk of chapter 12: which values are valid (the program).
  - Chapter 12, plain: two valid values with the same canonical text are equal apart from offsets, and the other way round. No function of the program.
-/
import Derived.Test.YthlppbpccldikaaDoorH11
import Derived.Laws.EntriesVeiled
import Derived.Test.YthlppbpccldikaaDoorH4
set_option linter.unusedVariables false
namespace Go.Proofs.YthlppbpccldikaaDoor
open Go.RowKit

theorem jbox_cells {w : World} {b : Nat} {n : JV} {IA : Option Addr} {ic : Nat} {MA : Option Addr} {mc : Nat} (h : w.heap[b]? = some (valBox n IA ic MA mc)) :
    w.cell? ⟨b, 0, none⟩ = some (.int .i64 n.kind) ∧ w.cell? ⟨b, 1, none⟩ = some (.bool n.b) ∧ w.cell? ⟨b, 2, none⟩ = some (.int .i64 n.n) ∧ w.cell? ⟨b, 3, none⟩ = some (.string (S n.s)) ∧
    w.cell? ⟨b, 4, none⟩ = some (.slice IA n.items.length ic) ∧ w.cell? ⟨b, 5, none⟩ = some (.slice MA n.mems.length mc) ∧ w.cell? ⟨b, 6, none⟩ = some (.int .i64 n.pos) := by
  refine ⟨?_, ?_, ?_, ?_, ?_, ?_, ?_⟩ <;> (rw [Lib.cell_of_heap h]; rfl)
theorem mbox_cells {w : World} {b : Nat} {m : JM} {IA : Option Addr} {ic : Nat} {MA : Option Addr} {mc : Nat} (h : w.heap[b]? = some (memBox m IA ic MA mc)) :
    w.cell? ⟨b, 0, none⟩ = some (.string (S m.key)) ∧ w.cell? ⟨b, 1, none⟩ = some (.int .i64 m.val.kind) ∧ w.cell? ⟨b, 2, none⟩ = some (.bool m.val.b) ∧ w.cell? ⟨b, 3, none⟩ = some (.int .i64 m.val.n) ∧ w.cell? ⟨b, 4, none⟩ = some (.string (S m.val.s)) ∧
    w.cell? ⟨b, 5, none⟩ = some (.slice IA m.val.items.length ic) ∧ w.cell? ⟨b, 6, none⟩ = some (.slice MA m.val.mems.length mc) ∧ w.cell? ⟨b, 7, none⟩ = some (.int .i64 m.val.pos) ∧ w.cell? ⟨b, 8, none⟩ = some (.int .i64 m.pos) := by
  refine ⟨?_, ?_, ?_, ?_, ?_, ?_, ?_, ?_, ?_⟩ <;> (rw [Lib.cell_of_heap h]; rfl)
theorem jvdL_step {l : List JV} {i d : Nat} (h : i < l.length) : jvdL (l.drop i) d = (jvd l[i] d && jvdL (l.drop (i + 1)) d) := by
  rw [List.drop_eq_getElem_cons h, jvdL]
theorem jvdM_step {l : List JM} {i d : Nat} {q : List Bytes} (h : i < l.length) : jvdM q (l.drop i) d = (!(q.contains l[i].key) && utf8J l[i].key && jvd l[i].val d && jvdM (q ++ [l[i].key]) (l.drop (i + 1)) d) := by
  rw [List.drop_eq_getElem_cons h]
  cases hx : l[i] with
  | mk k v p => rw [jvdM]; rfl

end Go.Proofs.YthlppbpccldikaaDoor
set_option linter.unusedVariables false
set_option linter.unusedSimpArgs false
namespace Go.Proofs.YthlppbpccldikaaDoor

theorem jhOk_form {v : JV} (h : jhOk v = true) : 0 ≤ v.kind ∧ v.kind ≤ 5 ∧ (v.kind = 1 ∨ v.b = false) ∧ (v.kind = 2 ∨ v.n = 0) ∧ (v.kind = 3 ∨ v.s = []) ∧ (v.kind = 4 ∨ v.items = []) ∧ (v.kind = 5 ∨ v.mems = []) ∧ utf8J v.s = true := by
  unfold jhOk at h
  simp only [Bool.and_eq_true, Bool.or_eq_true, decide_eq_true_eq, beq_iff_eq, List.isEmpty_iff, Bool.not_eq_true'] at h
  obtain ⟨⟨⟨⟨⟨⟨⟨h1, h2⟩, h3⟩, h4⟩, h5⟩, h6⟩, h7⟩, h8⟩ := h
  exact ⟨h1, h2, h3, h4, h5, h6, h7, h8⟩
/-- The kind that a first byte tells. -/
def clsJ (c : UInt8) : Int := if c = 110 then 0 else if c = 116 ∨ c = 102 then 1 else if c = 34 then 3 else if c = 91 then 4 else if c = 123 then 5 else 2
set_option maxRecDepth 100000 in
theorem cls_dg : ∀ n < 256, (UInt8.ofNat n = 45 ∨ isDg (UInt8.ofNat n) = true) → clsJ (UInt8.ofNat n) = 2 ∧ UInt8.ofNat n ≠ 93 ∧ UInt8.ofNat n ≠ 44 ∧ UInt8.ofNat n ≠ 125 := by decide
theorem jtx_head (v : JV) (h0 : 0 ≤ v.kind) (h5 : v.kind ≤ 5) : ∃ c l, jtx v = c :: l ∧ clsJ c = v.kind ∧ c ≠ 93 ∧ c ≠ 44 ∧ c ≠ 125 := by
  rw [jtx_form]
  have hk : v.kind = 0 ∨ v.kind = 1 ∨ v.kind = 2 ∨ v.kind = 3 ∨ v.kind = 4 ∨ v.kind = 5 := by omega
  rcases hk with h | h | h | h | h | h <;> rw [h]
  · exact ⟨_, _, rfl, rfl, by decide, by decide, by decide⟩
  · cases v.b
    · exact ⟨_, _, rfl, rfl, by decide, by decide, by decide⟩
    · exact ⟨_, _, rfl, rfl, by decide, by decide, by decide⟩
  · obtain ⟨c, l, hc, hd⟩ := itoa_head v.n
    have := cls_dg c.toNat (UInt8.toNat_lt c) (by rw [UInt8.ofNat_toNat]; exact hd)
    rw [UInt8.ofNat_toNat] at this
    exact ⟨c, l, hc, this.1, this.2⟩
  · exact ⟨_, _, rfl, rfl, by decide, by decide, by decide⟩
  · exact ⟨_, _, rfl, rfl, by decide, by decide, by decide⟩
  · exact ⟨_, _, rfl, rfl, by decide, by decide, by decide⟩
def InjA (v : JV) : Prop := ∀ u r r', jrv v = true → jrv u = true → stopJ r = true → stopJ r' = true → jtx v ++ r = jtx u ++ r' → jeq false v u = true ∧ r = r'
theorem jrv_ok {v : JV} (h : jrv v = true) : jhOk v = true ∧ jrvL v.items = true ∧ jrvM [] v.mems = true := by
  rw [jrv_form] at h
  simp only [Bool.and_eq_true] at h
  exact h
theorem comma_head {v : JV} (h : jrv v = true) (f : Bool) : ∃ c l, (∀ x, ((if f = true then [] else [44]) ++ (jtx v ++ x) : Bytes) = c :: (l ++ x)) ∧ c ≠ 93 ∧ c ≠ 125 := by
  have hf := jhOk_form (jrv_ok h).1
  obtain ⟨c, l, hc, _, h1, h2, h3⟩ := jtx_head v hf.1 hf.2.1
  cases f with
  | true => exact ⟨c, l, fun x => by rw [hc]; rfl, h1, h3⟩
  | false => exact ⟨44, jtx v, fun x => rfl, by decide, by decide⟩
theorem stopL (l : List JV) (r : Bytes) : stopJ (jtxL false l ++ 93 :: r) = true := by
  cases l with
  | nil => rw [jtxL]; rfl
  | cons v l => rw [jtxL]; rfl
theorem stopM (l : List JM) (r : Bytes) : stopJ (jtxM false l ++ 125 :: r) = true := by
  cases l with
  | nil => rw [jtxM]; rfl
  | cons v l => obtain ⟨k, v, p⟩ := v; rw [jtxM]; rfl
theorem injL : ∀ {l l' : List JV} {f : Bool} {r r' : Bytes}, (∀ v ∈ l, InjA v) → jrvL l = true → jrvL l' = true → jtxL f l ++ 93 :: r = jtxL f l' ++ 93 :: r' → l.length = l'.length ∧ jeqL false l l' = true ∧ r = r'
  | [], [], f, r, r', _, _, _, h => by
    rw [jtxL] at h
    simp only [List.nil_append, List.cons.injEq, true_and] at h
    exact ⟨rfl, by rw [jeqL], h⟩
  | [], u :: l', f, r, r', _, _, h2, h => by
    rw [jrvL, Bool.and_eq_true] at h2
    rw [jtxL, jtxL] at h
    obtain ⟨c, x, hc, h93, _⟩ := comma_head h2.1 f
    simp only [List.append_assoc] at h
    rw [hc] at h
    simp only [List.nil_append, List.cons.injEq] at h
    exact (h93 h.1.symm).elim
  | v :: l, [], f, r, r', _, h1, _, h => by
    rw [jrvL, Bool.and_eq_true] at h1
    rw [jtxL, jtxL] at h
    obtain ⟨c, x, hc, h93, _⟩ := comma_head h1.1 f
    simp only [List.append_assoc] at h
    rw [hc] at h
    simp only [List.nil_append, List.cons_append, List.cons.injEq] at h
    exact (h93 h.1).elim
  | v :: l, u :: l', f, r, r', hA, h1, h2, h => by
    rw [jrvL, Bool.and_eq_true] at h1 h2
    rw [jtxL, jtxL] at h
    simp only [List.append_assoc] at h
    have h := List.append_cancel_left h
    obtain ⟨e1, e2⟩ := hA v (by simp) u _ _ h1.1 h2.1 (stopL l r) (stopL l' r') h
    obtain ⟨e3, e4, e5⟩ := injL (fun x hx => hA x (by simp [hx])) h1.2 h2.2 e2
    exact ⟨by simp [e3], by rw [jeqL, e1, e4]; rfl, e5⟩
theorem injM : ∀ {l l' : List JM} {f : Bool} {r r' : Bytes} {q q' : List Bytes}, (∀ m ∈ l, InjA m.val) → jrvM q l = true → jrvM q' l' = true → jtxM f l ++ 125 :: r = jtxM f l' ++ 125 :: r' → l.length = l'.length ∧ jeqM false l l' = true ∧ r = r'
  | [], [], f, r, r', q, q', _, _, _, h => by
    rw [jtxM] at h
    simp only [List.nil_append, List.cons.injEq, true_and] at h
    exact ⟨rfl, by rw [jeqM], h⟩
  | [], .mk k u p :: l', f, r, r', q, q', _, _, h2, h => by
    rw [jtxM, jtxM] at h
    cases f
    · simp at h
    · simp [jq] at h
  | .mk k v p :: l, [], f, r, r', q, q', _, h1, _, h => by
    rw [jtxM, jtxM] at h
    cases f
    · simp at h
    · simp [jq] at h
  | .mk k v p :: l, .mk k' u p' :: l', f, r, r', q, q', hA, h1, h2, h => by
    rw [jrvM] at h1 h2
    simp only [Bool.and_eq_true] at h1 h2
    rw [jtxM, jtxM] at h
    simp only [List.append_assoc, List.cons_append] at h
    have h := List.append_cancel_left h
    obtain ⟨e0, h⟩ := jq_split h
    simp only [List.cons.injEq, true_and] at h
    obtain ⟨e1, e2⟩ := hA (.mk k v p) (by simp) u _ _ h1.1.1.1 h2.1.1.1 (stopM l r) (stopM l' r') h
    obtain ⟨e3, e4, e5⟩ := injM (fun x hx => hA x (by simp [hx])) h1.2 h2.2 e2
    simp only [JM.val] at e1
    exact ⟨by simp [e3], by rw [jeqM, e4]; simp [JM.key, JM.val, e0, e1], e5⟩
theorem injA (m : Nat) : ∀ v : JV, jsz v ≤ m → InjA v := by
  induction m with
  | zero => intro v h; have := jsz_pos v; omega
  | succ m ih =>
    intro v hm u r r' hv hu hr hr' h
    obtain ⟨o1, l1, m1⟩ := jrv_ok hv
    obtain ⟨o2, l2, m2⟩ := jrv_ok hu
    obtain ⟨a0, a5, ab, an, ass, ai, am, _⟩ := jhOk_form o1
    obtain ⟨b0, b5, bb, bn, bs, bi, bm, _⟩ := jhOk_form o2
    have hk : v.kind = u.kind := by
      obtain ⟨c, x, hc, e, _⟩ := jtx_head v a0 a5
      obtain ⟨d, y, hd, e', _⟩ := jtx_head u b0 b5
      rw [hc, hd] at h
      simp only [List.cons_append, List.cons.injEq] at h
      rw [← e, ← e', h.1]
    have hA : ∀ x ∈ v.items, InjA x := fun x hx => ih x (by have := jsz_item hx; omega)
    have hB : ∀ x ∈ v.mems, InjA x.val := fun x hx => ih x.val (by have := jsz_mem hx; omega)
    rw [jtx_form, jtx_form] at h
    rw [← hk] at h b0 b5 bb bn bs bi bm
    rw [jeq_form, jhEq]
    have hk' : v.kind = 0 ∨ v.kind = 1 ∨ v.kind = 2 ∨ v.kind = 3 ∨ v.kind = 4 ∨ v.kind = 5 := by omega
    rcases hk' with e | e | e | e | e | e
    all_goals
      rw [e] at h ab an ass ai am bb bn bs bi bm
      simp at h ab an ass ai am bb bn bs bi bm
    · rw [hk, ab, bb, an, bn, ass, bs, ai, bi, am, bm]
      exact ⟨by simp [jeqL, jeqM], h⟩
    · have hb : v.b = u.b ∧ r = r' := by
        cases hvb : v.b <;> cases hub : u.b <;> rw [hvb, hub] at h <;> simp at h
        · exact ⟨rfl, h⟩
        · exact ⟨rfl, h⟩
      rw [hk, hb.1, an, bn, ass, bs, ai, bi, am, bm]
      exact ⟨by simp [jeqL, jeqM], hb.2⟩
    · obtain ⟨e1, e2⟩ := itoa_split hr hr' h
      rw [hk, ab, bb, e1, ass, bs, ai, bi, am, bm]
      exact ⟨by simp [jeqL, jeqM], e2⟩
    · obtain ⟨e1, e2⟩ := jq_split h
      rw [hk, ab, bb, an, bn, e1, ai, bi, am, bm]
      exact ⟨by simp [jeqL, jeqM], e2⟩
    · obtain ⟨e1, e2, e3⟩ := injL hA l1 l2 h
      rw [hk, ab, bb, an, bn, ass, bs, am, bm]
      exact ⟨by simp [e1, e2, jeqM], e3⟩
    · obtain ⟨e1, e2, e3⟩ := injM hB m1 m2 h
      rw [hk, ab, bb, an, bn, ass, bs, ai, bi]
      exact ⟨by simp [e1, e2, jeqL], e3⟩
theorem eqT (m : Nat) : ∀ v u : JV, jsz v ≤ m → jeq false v u = true → jtx v = jtx u := by
  induction m with
  | zero => intro v u h; have := jsz_pos v; omega
  | succ m ih =>
    intro v u hm h
    rw [jeq_form, jhEq] at h
    simp only [Bool.and_eq_true, beq_iff_eq] at h
    obtain ⟨⟨⟨⟨⟨⟨⟨h1, h2⟩, h3⟩, h4⟩, _⟩, h6⟩, h7⟩, h8, h9⟩ := h
    have hL : ∀ (l l' : List JV) (f : Bool), (∀ x ∈ l, jsz x ≤ m) → l.length = l'.length → jeqL false l l' = true → jtxL f l = jtxL f l' := by
      intro l
      induction l with
      | nil =>
        intro l' f _ hl _
        cases l' with
        | nil => rfl
        | cons a b => cases hl
      | cons x l ihl =>
        intro l' f hs hl he
        cases l' with
        | nil => cases hl
        | cons y l' =>
          rw [jeqL, Bool.and_eq_true] at he
          rw [jtxL, jtxL, ih x y (hs x (by simp)) he.1, ihl l' false (fun z hz => hs z (by simp [hz])) (by simpa using hl) he.2]
    have hM : ∀ (l l' : List JM) (f : Bool), (∀ x ∈ l, jsz x.val ≤ m) → l.length = l'.length → jeqM false l l' = true → jtxM f l = jtxM f l' := by
      intro l
      induction l with
      | nil =>
        intro l' f _ hl _
        cases l' with
        | nil => rfl
        | cons a b => cases hl
      | cons x l ihl =>
        intro l' f hs hl he
        cases l' with
        | nil => cases hl
        | cons y l' =>
          obtain ⟨k, x, p⟩ := x
          obtain ⟨k', y, p'⟩ := y
          rw [jeqM] at he
          simp only [Bool.and_eq_true, beq_iff_eq, JM.key, JM.val] at he
          rw [jtxM, jtxM, he.1.1.1, ih x y (hs (.mk k x p) (by simp)) he.1.2, ihl l' false (fun z hz => hs z (by simp [hz])) (by simpa using hl) he.2]
    rw [jtx_form, jtx_form, h1, h2, h3, h4, hL _ _ true (fun x hx => by have := jsz_item hx; omega) h6 h8, hM _ _ true (fun x hx => by have := jsz_mem hx; omega) h7 h9]
/-- Two valid values have the same text exactly if they are equal apart from offsets. -/
theorem jtx_inj {v u : JV} (hv : jrv v = true) (hu : jrv u = true) : (jtx v == jtx u) = jeq false v u := by
  rw [Bool.eq_iff_iff, beq_iff_eq]
  constructor
  · intro h
    exact (injA _ v (Nat.le_refl _) u [] [] hv hu rfl rfl (by rw [h])).1
  · exact eqT _ v u (Nat.le_refl _)
end Go.Proofs.YthlppbpccldikaaDoor
