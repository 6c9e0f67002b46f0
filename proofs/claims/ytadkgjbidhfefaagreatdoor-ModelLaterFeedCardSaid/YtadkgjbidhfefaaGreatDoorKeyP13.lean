/-
  Chapter 13, plain: what the canonical bytes of an entry and of a feed are; they identify it.
-/
import Derived.Test.YtadkgjbidhfefaaGreatDoorKeyR13
import Derived.Test.YtadkgjbidhfefaaGreatDoorInj12
set_option linter.unusedVariables false
namespace Go.Proofs.YtadkgjbidhfefaaGreatDoor

theorem jrv_jstr (s : Bytes) : jrv (jstr s) = utf8J s := by unfold jstr; rw [jrv, jrvL, jrvM]; simp [jhOk, JV.kind, JV.b, JV.n, JV.s, JV.items, JV.mems]
theorem jrv_jint (n : Int) : jrv (jint n) = true := by
  unfold jint; rw [jrv, jrvL, jrvM]
  have : utf8J [] = true := by unfold utf8J; rfl
  simp [jhOk, JV.kind, JV.b, JV.n, JV.s, JV.items, JV.mems, this]
theorem jrv_jarr (l : List JV) : jrv (jarr l) = jrvL l := by
  unfold jarr; rw [jrv, jrvM]
  have : utf8J [] = true := by unfold utf8J; rfl
  simp [jhOk, JV.kind, JV.b, JV.n, JV.s, JV.items, JV.mems, this]
theorem jrvL_app : ∀ l r : List JV, jrvL (l ++ r) = (jrvL l && jrvL r)
  | [], r => by rw [List.nil_append, jrvL, Bool.true_and]
  | a :: l, r => by rw [List.cons_append, jrvL, jrvL, jrvL_app l r, Bool.and_assoc]
theorem jrvL_jstr : ∀ l : List Bytes, jrvL (l.map jstr) = l.all utf8J
  | [] => by rw [List.map_nil, jrvL]; rfl
  | a :: l => by rw [List.map_cons, jrvL, jrv_jstr, jrvL_jstr l, List.all_cons]
theorem jdep_jstr (s : Bytes) : jdep (jstr s) = 1 := by unfold jstr; rw [jdep]; simp
theorem jdep_jint (n : Int) : jdep (jint n) = 1 := by unfold jint; rw [jdep]; simp
theorem jdep_jarr (l : List JV) : jdep (jarr l) = jdepL l + 1 := by unfold jarr; rw [jdep]; simp
theorem jdepL_app : ∀ l r : List JV, jdepL (l ++ r) = max (jdepL l) (jdepL r)
  | [], r => by rw [List.nil_append, jdepL]; omega
  | a :: l, r => by rw [List.cons_append, jdepL, jdepL, jdepL_app l r]; omega
theorem jdepL_jstr : ∀ l : List Bytes, jdepL (l.map jstr) ≤ 1
  | [] => by rw [List.map_nil, jdepL]; omega
  | a :: l => by rw [List.map_cons, jdepL, jdep_jstr]; have := jdepL_jstr l; omega
theorem jtxL_app : ∀ (f : Bool) (l r : List JV), jtxL f (l ++ r) = jtxL f l ++ jtxL (f && l.isEmpty) r
  | f, [], r => by rw [List.nil_append, jtxL_nil]; simp
  | f, a :: l, r => by
    rw [List.cons_append, jtxL_cons, jtxL_cons, jtxL_app false l r]
    simp
theorem jtx_jint (n : Int) : jtx (jint n) = Lib.itoa n := by unfold jint; rw [jtx]; simp
theorem jtx_jarr (l : List JV) : jtx (jarr l) = 91 :: (jtxL true l ++ [93]) := by unfold jarr; rw [jtx]; simp
theorem quoL_ne {l : List Bytes} (hl : l ≠ []) (h : l.all utf8J = true) : quoL l ≠ [] := by
  unfold quoL
  rw [if_pos h]
  cases l with
  | nil => exact absurd rfl hl
  | cons a l => rw [List.map_cons, jtxL_cons, jtx_jstr]; unfold jq; simp
theorem quoL_no {l : List Bytes} (h : l.all utf8J = false) : quoL l = [] := by unfold quoL; rw [if_neg (by rw [h]; decide)]
/-- The strings of an entry. -/
def strsE (e : En) : List Bytes := [e.id, e.title, e.link, e.content]
theorem jvd_ent (e : En) : jvd (entVal e) 1 = (strsE e).all utf8J := by
  unfold entVal
  rw [jvd_eq, jrv_jarr, jrvL_app, jrvL_jstr, jrvL, jrvL, jrv_jint, jdep_jarr, jdepL_app, jdepL, jdepL, jdep_jint]
  have := jdepL_jstr [e.id, e.title, e.link, e.content]
  rw [decide_eq_true (by omega)]
  simp [strsE]
theorem key_ent (e : En) : keyOf (entVal e) = if quoL (strsE e) = [] then [] else [91] ++ quoL (strsE e) ++ [44] ++ Lib.itoa e.upd ++ [93] := by
  unfold keyOf outJ
  rw [jvd_ent]
  cases h : (strsE e).all utf8J with
  | false => rw [quoL_no h]; simp
  | true =>
    rw [if_pos rfl, if_neg (quoL_ne (by simp [strsE]) h)]
    unfold quoL
    rw [if_pos h]
    unfold entVal
    rw [jtx_jarr, jtxL_app, jtxL_cons, jtx_jint, jtxL_nil]
    simp [strsE]
def strsF (f : Fe) : List Bytes := [f.id, f.title, f.link]
theorem jvd_fee (f : Fe) : jvd (feeVal f) 1 = (f.path.all utf8J && (strsF f).all utf8J) := by
  unfold feeVal
  rw [List.cons_append, jvd_eq, jrv_jarr, jrvL, jrv_jarr, jrvL_jstr, jrvL_app, jrvL_jstr, jrvL, jrvL, jrv_jint, jdep_jarr, jdepL, jdep_jarr, jdepL_app, jdepL, jdepL, jdep_jint]
  have h1 := jdepL_jstr [f.id, f.title, f.link]
  have h2 := jdepL_jstr f.path
  rw [decide_eq_true (by omega)]
  simp [strsF]
theorem key_fee (f : Fe) : keyOf (feeVal f) = if quoL (strsF f) = [] ∨ (quoL f.path = [] ∧ 0 < f.path.length) then [] else [91, 91] ++ quoL f.path ++ [93, 44] ++ quoL (strsF f) ++ [44] ++ Lib.itoa f.upd ++ [93] := by
  unfold keyOf outJ
  rw [jvd_fee]
  cases h : (strsF f).all utf8J with
  | false => rw [quoL_no h]; simp
  | true =>
    cases hp : f.path.all utf8J with
    | false =>
      rw [if_neg (by simp), if_pos]
      refine .inr ⟨quoL_no hp, ?_⟩
      cases hn : f.path with
      | nil => rw [hn] at hp; simp at hp
      | cons a l => simp
    | true =>
      rw [if_pos (show (true && true) = true from rfl), if_neg]
      · have e1 : quoL f.path = jtxL true (f.path.map jstr) := by unfold quoL; rw [if_pos hp]
        have e2 : quoL (strsF f) = jtxL true ((strsF f).map jstr) := by unfold quoL; rw [if_pos h]
        rw [e1, e2]
        unfold feeVal
        rw [List.cons_append, jtx_jarr, jtxL_cons, jtx_jarr, jtxL_app, jtxL_cons, jtx_jint, jtxL_nil]
        simp only [strsF, List.map_cons, List.map_nil, jtxL_cons, jtxL_nil]
        simp
      · rintro (h1 | ⟨h1, h2⟩)
        · exact quoL_ne (by simp [strsF]) h h1
        · exact quoL_ne (by intro e; rw [e] at h2; simp at h2) hp h1
/-- Valid strings, the same bytes: the same entry. -/
theorem key_inj {a b : En} (ha : (strsE a).all utf8J = true) (hb : (strsE b).all utf8J = true) (h : keyOf (entVal a) = keyOf (entVal b)) : a = b := by
  unfold keyOf outJ at h
  rw [jvd_ent, jvd_ent, if_pos ha, if_pos hb] at h
  have h1 : jrv (entVal a) = true := by have := jvd_ent a; rw [ha, jvd_eq, Bool.and_eq_true] at this; exact this.1
  have h2 : jrv (entVal b) = true := by have := jvd_ent b; rw [hb, jvd_eq, Bool.and_eq_true] at this; exact this.1
  have h3 := jtx_inj h1 h2
  rw [h] at h3
  simp only [beq_self_eq_true] at h3
  have h4 := h3.symm
  unfold entVal jarr jstr jint at h4
  simp [jeq, jeqL, jeqM, jhEq, JV.kind, JV.b, JV.n, JV.s, JV.items, JV.mems, JV.pos] at h4
  cases a
  cases b
  simp_all
theorem key_empty {e : En} : keyOf (entVal e) = [] ↔ (strsE e).all utf8J = false := by
  rw [key_ent]
  cases h : (strsE e).all utf8J with
  | false => rw [quoL_no h]; simp
  | true => rw [if_neg (quoL_ne (by simp [strsE]) h)]; simp
end Go.Proofs.YtadkgjbidhfefaaGreatDoor
