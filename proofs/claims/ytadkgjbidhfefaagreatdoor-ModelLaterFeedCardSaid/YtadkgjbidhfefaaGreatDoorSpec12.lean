/-
  Chapters 11 and 12, plain: sizes, depth, weight, equality and validity of JSON values; their canonical text. No function of the program.
-/
import Derived.Test.YtadkgjbidhfefaaGreatDoorJval
import Derived.Lib.ValidU
set_option linter.unusedVariables false
namespace Go.Proofs.YtadkgjbidhfefaaGreatDoor

theorem JM.eta : ∀ m : JM, JM.mk m.key m.val m.pos = m | .mk _ _ _ => rfl
theorem JV.eta : ∀ v : JV, JV.mk v.kind v.b v.n v.s v.items v.mems v.pos = v | .mk _ _ _ _ _ _ _ => rfl
mutual
/-- A number that every part has less of. -/
def jsz : JV → Nat
  | .mk _ _ _ _ is ms _ => 1 + (jszL is + jszM ms)
def jszL : List JV → Nat
  | [] => 0
  | v :: l => jsz v + jszL l
def jszM : List JM → Nat
  | [] => 0
  | .mk _ v _ :: l => jsz v + jszM l
end
theorem jsz_pos (v : JV) : 1 ≤ jsz v := by cases v; rw [jsz]; omega
theorem jszL_mem : ∀ {l : List JV} {v : JV}, v ∈ l → jsz v ≤ jszL l
  | x :: l, v, h => by
    rw [jszL]
    rcases List.mem_cons.1 h with rfl | h
    · omega
    · have := jszL_mem h; omega
theorem jszM_mem : ∀ {l : List JM} {m : JM}, m ∈ l → jsz m.val ≤ jszM l
  | .mk k v p :: l, m, h => by
    rw [jszM]
    rcases List.mem_cons.1 h with rfl | h
    · simp only [JM.val]; omega
    · have := jszM_mem h; omega
theorem jsz_item {v x : JV} (h : x ∈ v.items) : jsz x < jsz v := by
  cases v with
  | mk a b c d is ms e => rw [jsz]; have := jszL_mem h; simp only [JV.items] at this; omega
theorem jsz_mem {v : JV} {m : JM} (h : m ∈ v.mems) : jsz m.val < jsz v := by
  cases v with
  | mk a b c d is ms e => rw [jsz]; have := jszM_mem h; simp only [JV.mems] at this; omega

/-! Weights. -/
def c9 (n : Nat) : Nat := min n 9000
theorem c9_le (n : Nat) : c9 n ≤ 9000 := Nat.min_le_right _ _
mutual
/-- What weight returns. -/
def jwt : JV → Nat → Nat
  | .mk _ _ _ s is ms _, t => jwtM ms (jwtL is (t + (1 + c9 s.length)))
def jwtL : List JV → Nat → Nat
  | [], t => t
  | v :: l, t => if 9000 < t then t else jwtL l (jwt v t)
def jwtM : List JM → Nat → Nat
  | [], t => t
  | .mk k v _ :: l, t => if 9000 < t then t else jwtM l (jwt v (t + c9 k.length))
end
mutual
theorem jwt_le : ∀ (v : JV) (t : Nat), t ≤ 18000 → jwt v t ≤ 45001
  | .mk _ _ _ s is ms _, t, h => by
    rw [jwt]
    have := c9_le s.length
    exact jwtM_le ms _ (jwtL_le is _ (by omega))
theorem jwtL_le : ∀ (l : List JV) (t : Nat), t ≤ 45001 → jwtL l t ≤ 45001
  | [], t, h => by rw [jwtL]; exact h
  | v :: l, t, h => by
    rw [jwtL]
    split
    · exact h
    · exact jwtL_le l _ (jwt_le v t (by omega))
theorem jwtM_le : ∀ (l : List JM) (t : Nat), t ≤ 45001 → jwtM l t ≤ 45001
  | [], t, h => by rw [jwtM]; exact h
  | .mk k v _ :: l, t, h => by
    rw [jwtM]
    split
    · exact h
    · have := c9_le k.length
      exact jwtM_le l _ (jwt_le v _ (by omega))
end
mutual
/-- The whole size of a value. -/
def jful : JV → Nat
  | .mk _ _ _ s is ms _ => 1 + s.length + (jfulL is + jfulM ms)
def jfulL : List JV → Nat
  | [] => 0
  | v :: l => jful v + jfulL l
def jfulM : List JM → Nat
  | [] => 0
  | .mk k v _ :: l => k.length + jful v + jfulM l
end
theorem c9_small {n : Nat} (h : c9 n < 9000) : c9 n = n := by unfold c9 at h ⊢; omega
mutual
theorem jful_le : ∀ (v : JV) (t : Nat), jwt v t ≤ 5000 → t + jful v ≤ jwt v t
  | .mk _ _ _ s is ms _, t, h => by
    rw [jwt] at h ⊢
    rw [jful]
    have h2 := jfulM_le ms _ h
    have h1 := jfulL_le is (t + (1 + c9 s.length)) (by omega)
    have := c9_small (n := s.length) (by omega)
    omega
theorem jfulL_le : ∀ (l : List JV) (t : Nat), jwtL l t ≤ 5000 → t + jfulL l ≤ jwtL l t
  | [], t, h => by rw [jwtL, jfulL]; omega
  | v :: l, t, h => by
    rw [jwtL] at h ⊢
    rw [jfulL]
    split at h
    · omega
    · rename_i hn
      rw [if_neg hn]
      have h2 := jfulL_le l _ h
      have h3 := jful_le v t (by omega)
      omega
theorem jfulM_le : ∀ (l : List JM) (t : Nat), jwtM l t ≤ 5000 → t + jfulM l ≤ jwtM l t
  | [], t, h => by rw [jwtM, jfulM]; omega
  | .mk k v _ :: l, t, h => by
    rw [jwtM] at h ⊢
    rw [jfulM]
    split at h
    · omega
    · rename_i hn
      rw [if_neg hn]
      have h2 := jfulM_le l _ h
      have h3 := jful_le v _ (by omega : jwt v (t + c9 k.length) ≤ 5000)
      have := c9_small (n := k.length) (by omega)
      omega
end
theorem jful_form (v : JV) : jful v = 1 + v.s.length + (jfulL v.items + jfulM v.mems) := by cases v; rw [jful]; rfl
theorem jfulL_mem : ∀ {l : List JV} {v : JV}, v ∈ l → jful v ≤ jfulL l
  | x :: l, v, h => by
    rw [jfulL]
    rcases List.mem_cons.1 h with rfl | h
    · omega
    · have := jfulL_mem h; omega
theorem jfulM_mem : ∀ {l : List JM} {m : JM}, m ∈ l → m.key.length + jful m.val ≤ jfulM l
  | .mk k v p :: l, m, h => by
    rw [jfulM]
    rcases List.mem_cons.1 h with rfl | h
    · simp only [JM.val, JM.key]; omega
    · have := jfulM_mem h; omega
theorem jful_pos (v : JV) : 1 ≤ jful v := by cases v; rw [jful]; omega
theorem jfulL_len : ∀ l : List JV, l.length ≤ jfulL l
  | [] => by simp
  | v :: l => by rw [jfulL]; have := jful_pos v; have := jfulL_len l; simp only [List.length_cons]; omega
theorem jfulM_len : ∀ l : List JM, l.length ≤ jfulM l
  | [] => by simp
  | .mk k v p :: l => by rw [jfulM]; have := jful_pos v; have := jfulM_len l; simp only [List.length_cons]; omega
mutual
/-- No slice of the value is longer than memory allows. -/
def JFit : JV → Prop
  | .mk _ _ n _ is ms _ => (is.length ≤ 2600000000000 ∧ ms.length ≤ 2600000000000 ∧ -9223372036854775808 ≤ n ∧ n ≤ 9223372036854775807) ∧ JFitL is ∧ JFitM ms
def JFitL : List JV → Prop
  | [] => True
  | v :: l => JFit v ∧ JFitL l
def JFitM : List JM → Prop
  | [] => True
  | .mk _ v _ :: l => JFit v ∧ JFitM l
end
theorem JFitL.mem : ∀ {l : List JV}, JFitL l → ∀ {v : JV}, v ∈ l → JFit v
  | x :: l, h, v, hv => by
    rw [JFitL] at h
    rcases List.mem_cons.1 hv with rfl | hv
    · exact h.1
    · exact JFitL.mem h.2 hv
theorem JFitM.mem : ∀ {l : List JM}, JFitM l → ∀ {m : JM}, m ∈ l → JFit m.val
  | .mk k v p :: l, h, m, hm => by
    rw [JFitM] at h
    rcases List.mem_cons.1 hm with rfl | hm
    · exact h.1
    · exact JFitM.mem h.2 hm
theorem JFit.form {v : JV} (h : JFit v) : (v.items.length ≤ 2600000000000 ∧ v.mems.length ≤ 2600000000000 ∧ -9223372036854775808 ≤ v.n ∧ v.n ≤ 9223372036854775807) ∧ (∀ x ∈ v.items, JFit x) ∧ ∀ m ∈ v.mems, JFit m.val := by
  cases v with
  | mk a b c d is ms e => rw [JFit] at h; exact ⟨h.1, fun x hx => h.2.1.mem hx, fun m hm => h.2.2.mem hm⟩
theorem JFitL.of : ∀ {l : List JV}, (∀ v ∈ l, JFit v) → JFitL l
  | [], _ => by rw [JFitL]; trivial
  | v :: l, h => by rw [JFitL]; exact ⟨h v (by simp), JFitL.of fun x hx => h x (by simp [hx])⟩
theorem JFitM.of : ∀ {l : List JM}, (∀ m ∈ l, JFit m.val) → JFitM l
  | [], _ => by rw [JFitM]; trivial
  | .mk k v p :: l, h => by rw [JFitM]; exact ⟨h (.mk k v p) (by simp), JFitM.of fun x hx => h x (by simp [hx])⟩
theorem JFit.of_form {v : JV} (h : v.items.length ≤ 2600000000000 ∧ v.mems.length ≤ 2600000000000 ∧ -9223372036854775808 ≤ v.n ∧ v.n ≤ 9223372036854775807) (h3 : ∀ x ∈ v.items, JFit x) (h4 : ∀ m ∈ v.mems, JFit m.val) : JFit v := by
  cases v with
  | mk a b c d is ms e => rw [JFit]; exact ⟨h, JFitL.of h3, JFitM.of h4⟩

/-! Depth, equality. -/
mutual
def jdep : JV → Nat
  | .mk k _ _ _ is ms _ => max (if k = 4 then jdepL is else 0) (if k = 5 then jdepM ms else 0) + 1
def jdepL : List JV → Nat
  | [] => 0
  | v :: l => max (jdep v) (jdepL l)
def jdepM : List JM → Nat
  | [] => 0
  | .mk _ v _ :: l => max (jdep v) (jdepM l)
end
def jhEq (o : Bool) (v u : JV) : Bool :=
  (v.kind == u.kind) && (v.b == u.b) && (v.n == u.n) && (v.s == u.s) && (!o || v.pos == u.pos) && (v.items.length == u.items.length) && (v.mems.length == u.mems.length)
mutual
def jeq (o : Bool) : JV → JV → Bool
  | .mk k b n s is ms p, u => jhEq o (.mk k b n s is ms p) u && (jeqL o is u.items && jeqM o ms u.mems)
def jeqL (o : Bool) : List JV → List JV → Bool
  | [], _ => true
  | _ :: _, [] => true
  | v :: l, u :: r => jeq o v u && jeqL o l r
def jeqM (o : Bool) : List JM → List JM → Bool
  | [], _ => true
  | _ :: _, [] => true
  | .mk k v p :: l, u :: r => (k == u.key) && (!o || p == u.pos) && jeq o v u.val && jeqM o l r
end
theorem jeq_form (o : Bool) (v u : JV) : jeq o v u = (jhEq o v u && (jeqL o v.items u.items && jeqM o v.mems u.mems)) := by cases v; rw [jeq]; rfl
theorem jeqL_nil (o : Bool) (l : List JV) : jeqL o [] l = true := by rw [jeqL]
theorem jeqM_nil (o : Bool) (l : List JM) : jeqM o [] l = true := by rw [jeqM]
theorem jeqL_step {o : Bool} {l r : List JV} {i : Nat} (h1 : i < l.length) (h2 : i < r.length) : jeqL o (l.drop i) (r.drop i) = (jeq o l[i] r[i] && jeqL o (l.drop (i + 1)) (r.drop (i + 1))) := by
  rw [List.drop_eq_getElem_cons h1, List.drop_eq_getElem_cons h2, jeqL]
theorem jeqM_step {o : Bool} {l r : List JM} {i : Nat} (h1 : i < l.length) (h2 : i < r.length) : jeqM o (l.drop i) (r.drop i) = ((l[i].key == r[i].key) && (!o || l[i].pos == r[i].pos) && jeq o l[i].val r[i].val && jeqM o (l.drop (i + 1)) (r.drop (i + 1))) := by
  rw [List.drop_eq_getElem_cons h1, List.drop_eq_getElem_cons h2]
  cases hx : l[i] with
  | mk k v p => rw [jeqM]; rfl

/-! Validity. -/
def utf8J (l : Bytes) : Bool := Lib.validD l
def jhOk (v : JV) : Bool :=
  decide (0 ≤ v.kind) && decide (v.kind ≤ 5) && (v.kind == 1 || !v.b) && (v.kind == 2 || v.n == 0) && (v.kind == 3 || v.s.isEmpty) && (v.kind == 4 || v.items.isEmpty) && (v.kind == 5 || v.mems.isEmpty) && utf8J v.s
/-- What unused returns. -/
def jun (v : JV) : Bool := (v.kind == 1 || !v.b) && (v.kind == 2 || v.n == 0) && (v.kind == 3 || v.s.isEmpty) && (v.kind == 4 || v.items.isEmpty) && (v.kind == 5 || v.mems.isEmpty)
theorem jhOk_jun (v : JV) : jhOk v = (decide (0 ≤ v.kind) && decide (v.kind ≤ 5) && jun v && utf8J v.s) := by unfold jhOk jun; simp only [Bool.and_assoc]
mutual
/-- What the program takes for valid, at a depth. -/
def jvd : JV → Nat → Bool
  | .mk k b n s is ms p, d => jhOk (.mk k b n s is ms p) && decide (d ≤ 100) && (jvdL is (d + 1) && jvdM [] ms (d + 1))
def jvdL : List JV → Nat → Bool
  | [], _ => true
  | v :: l, d => jvd v d && jvdL l d
def jvdM : List Bytes → List JM → Nat → Bool
  | _, [], _ => true
  | seen, .mk k v _ :: l, d => !(seen.contains k) && utf8J k && jvd v d && jvdM (seen ++ [k]) l d
end
mutual
/-- What the reference takes for valid, apart from its depth. -/
def jrv : JV → Bool
  | .mk k b n s is ms p => jhOk (.mk k b n s is ms p) && (jrvL is && jrvM [] ms)
def jrvL : List JV → Bool
  | [] => true
  | v :: l => jrv v && jrvL l
def jrvM : List Bytes → List JM → Bool
  | _, [] => true
  | seen, .mk k v _ :: l => jrv v && utf8J k && !(seen.contains k) && jrvM (seen ++ [k]) l
end
theorem jvd_form (v : JV) (d : Nat) : jvd v d = (jhOk v && decide (d ≤ 100) && (jvdL v.items (d + 1) && jvdM [] v.mems (d + 1))) := by cases v; rw [jvd]; rfl
theorem jrv_form (v : JV) : jrv v = (jhOk v && (jrvL v.items && jrvM [] v.mems)) := by cases v; rw [jrv]; rfl
theorem jdep_form (v : JV) : jdep v = max (if v.kind = 4 then jdepL v.items else 0) (if v.kind = 5 then jdepM v.mems else 0) + 1 := by cases v; rw [jdep]; rfl
mutual
theorem jvd_eq : ∀ (v : JV) (d : Nat), jvd v d = (jrv v && decide (jdep v + d ≤ 101))
  | .mk k b n s is ms p, d => by
    rw [jvd, jrv, jdep, jvdL_eq is (d + 1), jvdM_eq [] ms (d + 1)]
    cases hh : jhOk (.mk k b n s is ms p) with
    | false => simp
    | true =>
      have h4 : k = 4 ∨ is = [] := by
        simp only [jhOk, JV.kind, JV.items, Bool.and_eq_true, Bool.or_eq_true, beq_iff_eq, List.isEmpty_iff] at hh
        exact hh.1.1.2
      have h5 : k = 5 ∨ ms = [] := by
        simp only [jhOk, JV.kind, JV.mems, Bool.and_eq_true, Bool.or_eq_true, beq_iff_eq, List.isEmpty_iff] at hh
        exact hh.1.2
      rw [Bool.eq_iff_iff]
      simp only [Bool.true_and, Bool.and_eq_true, decide_eq_true_eq]
      have e4 : (if k = 4 then jdepL is else 0) = jdepL is := by
        rcases h4 with h | h
        · rw [if_pos h]
        · subst h; rw [jdepL]; simp
      have e5 : (if k = 5 then jdepM ms else 0) = jdepM ms := by
        rcases h5 with h | h
        · rw [if_pos h]
        · subst h; rw [jdepM]; simp
      rw [e4, e5]
      constructor
      · rintro ⟨h1, ⟨h2, h3⟩, h6, h7⟩
        have q3 : jdepL is + (d + 1) ≤ 101 ∨ jdepL is = 0 := h3.imp id fun h => by rw [h, jdepL]
        have q7 : jdepM ms + (d + 1) ≤ 101 ∨ jdepM ms = 0 := h7.imp id fun h => by rw [h, jdepM]
        exact ⟨⟨h2, h6⟩, by omega⟩
      · rintro ⟨⟨h2, h6⟩, h7⟩
        exact ⟨by omega, ⟨h2, .inl (by omega)⟩, h6, .inl (by omega)⟩
theorem jvdL_eq : ∀ (l : List JV) (d : Nat), jvdL l d = (jrvL l && decide (jdepL l + d ≤ 101 ∨ l = []))
  | [], d => by simp [jvdL, jrvL]
  | v :: l, d => by
    rw [jvdL, jrvL, jdepL, jvd_eq v d, jvdL_eq l d]
    have h0 : l = [] → jdepL l = 0 := fun h => by subst h; rw [jdepL]
    have h1 : 1 ≤ jdep v := by rw [jdep_form]; omega
    rw [Bool.eq_iff_iff]
    simp only [Bool.and_eq_true, decide_eq_true_eq]
    constructor
    · rintro ⟨⟨h2, h3⟩, h4, h5⟩
      refine ⟨⟨h2, h4⟩, .inl ?_⟩
      rcases h5 with h5 | h5
      · omega
      · have := h0 h5; omega
    · rintro ⟨⟨h2, h4⟩, h5⟩
      rcases h5 with h5 | h5
      · exact ⟨⟨h2, by omega⟩, h4, .inl (by omega)⟩
      · cases h5
theorem jvdM_eq : ∀ (seen : List Bytes) (l : List JM) (d : Nat), jvdM seen l d = (jrvM seen l && decide (jdepM l + d ≤ 101 ∨ l = []))
  | _, [], d => by simp [jvdM, jrvM]
  | seen, .mk k v p :: l, d => by
    rw [jvdM, jrvM, jdepM, jvd_eq v d, jvdM_eq (seen ++ [k]) l d]
    have h0 : l = [] → jdepM l = 0 := fun h => by subst h; rw [jdepM]
    have h1 : 1 ≤ jdep v := by rw [jdep_form]; omega
    rw [Bool.eq_iff_iff]
    simp only [Bool.and_eq_true, decide_eq_true_eq]
    constructor
    · rintro ⟨⟨⟨h6, h7⟩, h2, h3⟩, h4, h5⟩
      refine ⟨⟨⟨⟨h2, h7⟩, h6⟩, h4⟩, .inl ?_⟩
      rcases h5 with h5 | h5
      · omega
      · have := h0 h5; omega
    · rintro ⟨⟨⟨⟨h2, h7⟩, h6⟩, h4⟩, h5⟩
      rcases h5 with h5 | h5
      · exact ⟨⟨⟨h6, h7⟩, h2, by omega⟩, h4, .inl (by omega)⟩
      · cases h5
end
end Go.Proofs.YtadkgjbidhfefaaGreatDoor
