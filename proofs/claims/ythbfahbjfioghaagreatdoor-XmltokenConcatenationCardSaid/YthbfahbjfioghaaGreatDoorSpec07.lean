/-
  Plain functions of chapter 7 (xmltree) and of its statements: sizes, depths, equality of trees. No program.
-/
import Derived.Test.YthbfahbjfioghaaGreatDoorTree
set_option linter.unusedVariables false
namespace Go.Proofs.YthbfahbjfioghaaGreatDoor

mutual
/-- A number that every kid has less of. -/
def nsz : Node → Nat
  | .mk _ _ _ _ ks _ _ => 1 + nszL ks
def nszL : List Node → Nat
  | [] => 0
  | k :: ks => nsz k + nszL ks
end
theorem nsz_kid : ∀ {ks : List Node} {k : Node}, k ∈ ks → nsz k ≤ nszL ks
  | x :: ks, k, h => by
    rw [nszL]
    rcases List.mem_cons.1 h with rfl | h
    · omega
    · have := nsz_kid h; omega
theorem nsz_lt (n : Node) {k : Node} (h : k ∈ n.kids) : nsz k < nsz n := by
  cases n with
  | mk a b c d ks e f =>
    rw [nsz]
    have := nsz_kid h
    simp only [Node.kids] at this
    omega
theorem nsz_get (n : Node) {i : Nat} (h : i < n.kids.length) : nsz n.kids[i] < nsz n := nsz_lt n (List.getElem_mem h)

/-- A length, at most 9000. -/
def cl9 (n : Nat) : Nat := min n 9000
theorem cl9_le (n : Nat) : cl9 n ≤ 9000 := Nat.min_le_right _ _
def attW (a : Att) : Nat := 1 + cl9 a.space.length + cl9 a.name.length + cl9 a.value.length
def attsW : List Att → Nat
  | [] => 0
  | a :: l => attW a + attsW l
theorem attsW_append (a b : List Att) : attsW (a ++ b) = attsW a + attsW b := by
  induction a with
  | nil => simp [attsW]
  | cons x a ih => simp only [List.cons_append, attsW, ih]; omega
theorem attsW_take {l : List Att} {i : Nat} (h : i < l.length) : attsW (l.take (i + 1)) = attsW (l.take i) + attW l[i] := by
  rw [List.take_succ_eq_append_getElem h, attsW_append]; simp [attsW]
theorem attW_le (a : Att) : attW a ≤ 27001 := by
  have := cl9_le a.space.length; have := cl9_le a.name.length; have := cl9_le a.value.length
  unfold attW; omega
theorem attsW_le (l : List Att) : attsW l ≤ l.length * 27001 := by
  induction l with
  | nil => simp [attsW]
  | cons x a ih => have := attW_le x; simp only [attsW, List.length_cons]; omega
mutual
/-- What weight returns. -/
def wgt : Node → Nat → Nat
  | .mk _ s n ats ks t _, tot => wgtL ks (tot + (1 + cl9 s.length + cl9 n.length + cl9 t.length) + attsW ats)
def wgtL : List Node → Nat → Nat
  | [], tot => tot
  | k :: ks, tot => if 9000 < tot then tot else wgtL ks (wgt k tot)
end
mutual
/-- No slice of the tree is longer than memory allows. -/
def Fit : Node → Prop
  | .mk _ s n ats ks t _ => ats.length ≤ 2600000000000 ∧ ks.length ≤ 2600000000000 ∧ FitL ks
def FitL : List Node → Prop
  | [] => True
  | k :: ks => Fit k ∧ FitL ks
end
theorem FitL.mem : ∀ {ks : List Node}, FitL ks → ∀ {k : Node}, k ∈ ks → Fit k
  | x :: ks, h, k, hk => by
    rw [FitL] at h
    rcases List.mem_cons.1 hk with rfl | hk
    · exact h.1
    · exact FitL.mem h.2 hk
theorem Fit.form {n : Node} (h : Fit n) : n.attrs.length ≤ 2600000000000 ∧ n.kids.length ≤ 2600000000000 ∧ ∀ k ∈ n.kids, Fit k := by
  cases n with
  | mk a b c d ks e f => rw [Fit] at h; exact ⟨h.1, h.2.1, fun k hk => FitL.mem h.2.2 hk⟩
theorem Fit.of_form {n : Node} (h1 : n.attrs.length ≤ 2600000000000) (h2 : n.kids.length ≤ 2600000000000) (h3 : ∀ k ∈ n.kids, Fit k) : Fit n := by
  cases n with
  | mk a b c d ks e f =>
    rw [Fit]
    refine ⟨h1, h2, ?_⟩
    simp only [Node.kids] at h3
    clear h1 h2
    induction ks with
    | nil => rw [FitL]; trivial
    | cons x ks ih => rw [FitL]; exact ⟨h3 x (by simp), ih fun k hk => h3 k (by simp [hk])⟩
def most : Nat := 70202600000036001
theorem wgt_eq (n : Node) (tot : Nat) : wgt n tot = wgtL n.kids (tot + (1 + cl9 n.space.length + cl9 n.name.length + cl9 n.text.length) + attsW n.attrs) := by
  cases n; rw [wgt]; rfl
theorem head_le (n : Node) (h : Fit n) (tot : Nat) (ht : tot ≤ 9000) : tot + (1 + cl9 n.space.length + cl9 n.name.length + cl9 n.text.length) + attsW n.attrs ≤ most := by
  have h1 := h.form.1
  have := cl9_le n.space.length; have := cl9_le n.name.length; have := cl9_le n.text.length; have := attsW_le n.attrs
  unfold most; omega
theorem wgtL_bound : ∀ ks : List Node, (∀ k ∈ ks, ∀ t, t ≤ 9000 → wgt k t ≤ most) → ∀ tot, tot ≤ most → wgtL ks tot ≤ most
  | [], _, tot, h => by rw [wgtL]; exact h
  | k :: ks, hk, tot, h => by
    rw [wgtL]
    split
    · exact h
    · exact wgtL_bound ks (fun x hx => hk x (by simp [hx])) _ (hk k (by simp) tot (by omega))
theorem wgt_bound (m : Nat) : ∀ n, nsz n ≤ m → Fit n → ∀ tot, tot ≤ 9000 → wgt n tot ≤ most := by
  induction m with
  | zero => intro n h; cases n; rw [nsz] at h; omega
  | succ m ih =>
    intro n h hf tot ht
    rw [wgt_eq]
    exact wgtL_bound _ (fun k hk t htt => ih k (by have := nsz_lt n hk; omega) (hf.form.2.2 k hk) t htt) _ (head_le n hf tot ht)
/-- After i kids without an early end. -/
theorem wgtL_step {ks : List Node} {i : Nat} {a : Nat} (hi : i < ks.length) (ha : ¬ 9000 < a) : wgtL (ks.drop i) a = wgtL (ks.drop (i + 1)) (wgt ks[i] a) := by
  rw [List.drop_eq_getElem_cons hi, wgtL, if_neg ha]
theorem wgtL_stop {ks : List Node} {i : Nat} {a : Nat} (hi : i < ks.length) (ha : 9000 < a) : wgtL (ks.drop i) a = a := by
  rw [List.drop_eq_getElem_cons hi, wgtL, if_pos ha]

/-! A tree that is not too large is small in every part. -/
def attF (a : Att) : Nat := 1 + a.space.length + a.name.length + a.value.length
def attsF : List Att → Nat
  | [] => 0
  | a :: l => attF a + attsF l
mutual
def full : Node → Nat
  | .mk _ s n ats ks t _ => 1 + s.length + n.length + t.length + attsF ats + fullL ks
def fullL : List Node → Nat
  | [] => 0
  | k :: ks => full k + fullL ks
end
theorem cl9_small {n : Nat} (h : cl9 n < 9000) : cl9 n = n := by unfold cl9 at h ⊢; omega
theorem attsF_small : ∀ l : List Att, attsW l < 9000 → attsF l = attsW l
  | [], _ => rfl
  | a :: l, h => by
    simp only [attsW, attsF] at h ⊢
    rw [attsF_small l (by omega)]
    unfold attW attF at *
    rw [cl9_small (by omega : cl9 a.space.length < 9000), cl9_small (by omega : cl9 a.name.length < 9000), cl9_small (by omega : cl9 a.value.length < 9000)]
mutual
theorem full_le : ∀ (n : Node) (tot : Nat), wgt n tot ≤ 5000 → tot + full n ≤ wgt n tot
  | .mk k s n ats ks t p, tot, h => by
    rw [wgt] at h ⊢
    rw [full]
    have h2 := fullL_le ks _ h
    have h3 := attsF_small ats (by omega)
    have e1 := cl9_small (n := s.length) (by omega)
    have e2 := cl9_small (n := n.length) (by omega)
    have e3 := cl9_small (n := t.length) (by omega)
    omega
theorem fullL_le : ∀ (ks : List Node) (tot : Nat), wgtL ks tot ≤ 5000 → tot + fullL ks ≤ wgtL ks tot
  | [], tot, h => by rw [wgtL, fullL]; omega
  | k :: ks, tot, h => by
    rw [wgtL] at h ⊢
    rw [fullL]
    split at h
    · omega
    · rename_i hn
      rw [if_neg hn]
      have h2 := fullL_le ks _ h
      have h3 := full_le k tot (by omega)
      omega
end
theorem small_of {n : Node} (h : wgt n 0 ≤ 5000) : full n ≤ 5000 := by have := full_le n 0 h; omega
theorem full_form (n : Node) : full n = 1 + n.space.length + n.name.length + n.text.length + attsF n.attrs + fullL n.kids := by cases n; rw [full]; rfl
theorem fullL_mem : ∀ {ks : List Node} {k : Node}, k ∈ ks → full k ≤ fullL ks
  | x :: ks, k, h => by
    rw [fullL]
    rcases List.mem_cons.1 h with rfl | h
    · omega
    · have := fullL_mem h; omega
theorem attsF_mem : ∀ {l : List Att} {a : Att}, a ∈ l → attF a ≤ attsF l
  | x :: l, a, h => by
    simp only [attsF]
    rcases List.mem_cons.1 h with rfl | h
    · omega
    · have := attsF_mem h; omega
theorem attsF_len : ∀ l : List Att, l.length ≤ attsF l
  | [] => by simp [attsF]
  | a :: l => by have := attsF_len l; simp only [attsF, attF, List.length_cons]; omega
theorem full_pos (n : Node) : 1 ≤ full n := by rw [full_form]; omega
theorem fullL_len : ∀ l : List Node, l.length ≤ fullL l
  | [] => by simp
  | k :: l => by have := fullL_len l; have := full_pos k; rw [fullL]; simp only [List.length_cons]; omega
/-- What is small is small in every part. -/
structure Parts (n : Node) (N : Nat) : Prop where
  space : n.space.length < N
  name : n.name.length < N
  text : n.text.length < N
  attrs : n.attrs.length < N
  kids : n.kids.length < N
  att : ∀ a ∈ n.attrs, a.space.length < N ∧ a.name.length < N ∧ a.value.length < N
  kid : ∀ k ∈ n.kids, full k < N
theorem parts (n : Node) {N : Nat} (h : full n ≤ N) : Parts n N := by
  rw [full_form] at h
  have h1 := attsF_len n.attrs
  have h2 := fullL_len n.kids
  refine ⟨by omega, by omega, by omega, by omega, by omega, fun a ha => ?_, fun k hk => ?_⟩
  · have := attsF_mem ha; unfold attF at this; omega
  · have := fullL_mem hk; omega
theorem full_fit (m : Nat) : ∀ n : Node, nsz n ≤ m → full n ≤ 2600000000000 → Fit n := by
  induction m with
  | zero => intro n h; cases n; rw [nsz] at h; omega
  | succ m ih =>
    intro n h hf
    have hp := parts n hf
    exact Fit.of_form (by have := hp.attrs; omega) (by have := hp.kids; omega) (fun k hk => ih k (by have := nsz_lt n hk; omega) (by have := hp.kid k hk; omega))

mutual
/-- The nesting of elements. -/
def depth : Node → Nat
  | .mk k _ _ _ ks _ _ => if k = 1 then 0 else depthL ks 0 + 1
def depthL : List Node → Nat → Nat
  | [], a => a
  | k :: ks, a => depthL ks (max a (depth k))
end
theorem depth_eq (n : Node) : depth n = if n.kind = 1 then 0 else depthL n.kids 0 + 1 := by cases n; rw [depth]; rfl
theorem depthL_step {ks : List Node} {i a : Nat} (hi : i < ks.length) : depthL (ks.drop i) a = depthL (ks.drop (i + 1)) (max a (depth ks[i])) := by
  rw [List.drop_eq_getElem_cons hi, depthL]
theorem depthL_le : ∀ (ks : List Node) (a N : Nat), a ≤ N → (∀ k ∈ ks, depth k ≤ N) → depthL ks a ≤ N
  | [], a, N, h, _ => by rw [depthL]; exact h
  | k :: ks, a, N, h, hk => by
    rw [depthL]
    exact depthL_le ks _ N (Nat.max_le.2 ⟨h, hk k (by simp)⟩) (fun x hx => hk x (by simp [hx]))
theorem depthL_ge : ∀ (ks : List Node) (a : Nat), a ≤ depthL ks a
  | [], a => by rw [depthL]; exact Nat.le_refl _
  | k :: ks, a => by rw [depthL]; exact Nat.le_trans (Nat.le_max_left _ _) (depthL_ge ks _)
theorem depthL_mem : ∀ (ks : List Node) (a : Nat), ∀ k ∈ ks, depth k ≤ depthL ks a
  | x :: ks, a, k, h => by
    rw [depthL]
    rcases List.mem_cons.1 h with rfl | h
    · exact Nat.le_trans (Nat.le_max_right _ _) (depthL_ge ks _)
    · exact depthL_mem ks _ k h
theorem nszL_ge : ∀ (ks : List Node), ∀ k ∈ ks, nsz k ≤ nszL ks := fun ks k h => nsz_kid h
theorem depth_nsz (m : Nat) : ∀ n : Node, nsz n ≤ m → depth n ≤ nsz n := by
  induction m with
  | zero => intro n h; cases n; rw [nsz] at h; omega
  | succ m ih =>
    intro n h
    rw [depth_eq]
    split
    · omega
    · have : depthL n.kids 0 ≤ nsz n - 1 := depthL_le _ _ _ (by omega) (fun k hk => by
        have h1 := nsz_lt n hk
        have := ih k (by omega)
        omega)
      have : 1 ≤ nsz n := by cases n; rw [nsz]; omega
      omega
mutual
theorem nsz_full : ∀ n : Node, nsz n ≤ full n
  | .mk k s n ats ks t p => by rw [nsz, full]; have := nszL_full ks; omega
theorem nszL_full : ∀ ks : List Node, nszL ks ≤ fullL ks
  | [] => by rw [nszL, fullL]; omega
  | k :: ks => by rw [nszL, fullL]; have := nsz_full k; have := nszL_full ks; omega
end
theorem depth_full (n : Node) : depth n ≤ full n := Nat.le_trans (depth_nsz _ n (Nat.le_refl _)) (nsz_full n)

/-! Equality of trees, with or without offsets. -/
def attEqv (o : Bool) (a b : Att) : Bool := a.space == b.space && a.name == b.name && a.value == b.value && (!o || a.pos == b.pos)
def attsEqv (o : Bool) : List Att → List Att → Bool
  | a :: l, b :: r => attEqv o a b && attsEqv o l r
  | _, _ => true
/-- What is compared before attributes and kids. -/
def headEqv (o : Bool) (n m : Node) : Bool := n.kind == m.kind && n.space == m.space && n.name == m.name && n.text == m.text && (!o || n.pos == m.pos) && n.attrs.length == m.attrs.length && n.kids.length == m.kids.length
mutual
def eqv (o : Bool) : Node → Node → Bool
  | .mk k s n ats ks t p, m => headEqv o (.mk k s n ats ks t p) m && attsEqv o ats m.attrs && kidsEqv o ks m.kids
def kidsEqv (o : Bool) : List Node → List Node → Bool
  | k :: ks, ms => match ms with
    | m :: ms => eqv o k m && kidsEqv o ks ms
    | [] => true
  | [], _ => true
end
theorem eqv_eq (o : Bool) (n m : Node) : eqv o n m = (headEqv o n m && attsEqv o n.attrs m.attrs && kidsEqv o n.kids m.kids) := by cases n; rw [eqv]; rfl
theorem attsEqv_step {o : Bool} {l r : List Att} {i : Nat} (hl : i < l.length) (hr : i < r.length) : attsEqv o (l.drop i) (r.drop i) = (attEqv o l[i] r[i] && attsEqv o (l.drop (i + 1)) (r.drop (i + 1))) := by
  rw [List.drop_eq_getElem_cons hl, List.drop_eq_getElem_cons hr, attsEqv]
theorem kidsEqv_step {o : Bool} {l r : List Node} {i : Nat} (hl : i < l.length) (hr : i < r.length) : kidsEqv o (l.drop i) (r.drop i) = (eqv o l[i] r[i] && kidsEqv o (l.drop (i + 1)) (r.drop (i + 1))) := by
  rw [List.drop_eq_getElem_cons hl, List.drop_eq_getElem_cons hr, kidsEqv]
theorem attsEqv_nil (o : Bool) (r : List Att) : attsEqv o [] r = true := by rw [attsEqv]; simp
theorem kidsEqv_nil (o : Bool) (r : List Node) : kidsEqv o [] r = true := by rw [kidsEqv]
end Go.Proofs.YthbfahbjfioghaaGreatDoor
