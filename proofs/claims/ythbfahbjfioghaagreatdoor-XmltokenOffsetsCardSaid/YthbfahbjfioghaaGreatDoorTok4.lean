/-
  Plain laws of chapter 6: how many attributes a token has; where tokens and errors stand. No program.
-/
import Derived.Test.YthbfahbjfioghaaGreatDoorTok3
import Derived.Test.YthbfahbjfioghaaGreatDoorTokR7
set_option linter.unusedVariables false
namespace Go.Proofs.YthbfahbjfioghaaGreatDoor

theorem missing_le {l : Bytes} {a n : Nat} (h : a ≤ l.length) : (missing l a n).1 ≤ l.length := by
  unfold missing; split <;> simp <;> omega
theorem contS_err (v : Bool) : ∀ (l : Bytes) (k n x : Nat), contS v k l n = .error x → x ≤ n + l.length
  | [], k, n, x, h => by cases k <;> (rw [contS] at h; cases h)
  | c :: t, k + 1, n, x, h => by
    rw [contS] at h
    have := contS_err v t k (n + 1) x h
    simp only [List.length_cons]; omega
  | c :: t, 0, n, x, h => by
    rw [contS] at h
    simp only [List.length_cons]
    have em : ∀ {y : Except Nat Bytes} {g : Bytes → Bytes}, y.map g = .error x → y = .error x := by
      intro y g hy
      cases y with
      | error e => exact hy
      | ok z => cases hy
    split at h
    · split at h
      · cases h; omega
      · have := contS_err v t _ (n + 1) x (em h)
        omega
    · split at h
      · have := contS_err v t 0 (n + 1) x h
        omega
      · have := contS_err v t 0 (n + 1) x (em h)
        omega
theorem cont_err {v : Bool} {l : Bytes} {a b x : Nat} (hab : a ≤ b) (hb : b ≤ l.length) (h : cont v l a b = .error x) : x ≤ l.length := by
  unfold cont at h
  have := contS_err v _ 0 a x h
  rw [List.length_drop, List.length_take] at this
  omega
theorem attAt_errpos {l : Bytes} {a n : Nat} {q : Nat × Nat} (ha : a ≤ l.length) (hn : n ≤ l.length) (h : attAt l a n = .error q) : q.1 ≤ l.length := by
  unfold attAt at h
  have hk := nameLen_le (l.drop n)
  rw [List.length_drop] at hk
  split at h
  · cases h; exact missing_le ha
  · have s1 := spEnd_le (l := l) (n := n + nameLen (l.drop n)) (by omega)
    generalize spEnd l (n + nameLen (l.drop n)) = x at *
    split at h
    · cases h; exact missing_le ha
    · rename_i hx
      split at h
      · cases h; exact missing_le ha
      · rename_i hq
        generalize spEnd l (x + 1) = y at *
        have hy : y + 1 ≤ l.length := by
          unfold isQuote at hq
          have h4 : hasAt l y [34] = true ∨ hasAt l y [39] = true := by
            cases h5 : hasAt l y [34] <;> cases h6 : hasAt l y [39] <;> simp_all
          rcases h4 with h4 | h4
          all_goals
            have := hasAt_le h4
            simp at this; omega
        unfold valAt at h
        have v1 := valEnd_ge l (l.getD y 0) (y + 1)
        have v2 := valEnd_le (q := l.getD y 0) hy
        generalize valEnd l (l.getD y 0) (y + 1) = z at *
        split at h
        · rename_i hc
          cases h
          exact cont_err v1 v2 hc
        · split at h
          · cases h; exact ha
          · split at h
            · cases h; exact v2
            · cases h
theorem tagF_cnt {l : Bytes} {a : Nat} : ∀ {f n : Nat} {bs cs : List Att} {em : Bool} {e : Nat}, n ≤ l.length → bs.length ≤ n → tagF l a f n bs = .ok (cs, em, e) → cs.length ≤ l.length
  | 0, _, _, _, _, _, _, _, h => by cases h
  | f + 1, n, bs, cs, em, e, hn, hb, h => by
    rw [tagF] at h
    have s1 := spEnd_ge l n
    have s2 := spEnd_le hn
    generalize spEnd l n = x at *
    split at h
    · cases h; omega
    · split at h
      · cases h; omega
      · split at h
        · cases h
        · split at h
          · cases h
          · cases ha : attAt l a x with
            | error y => rw [ha] at h; cases h
            | ok p =>
              obtain ⟨b, y⟩ := p
              rw [ha] at h
              have h5 := attAt_ok s2 ha
              simp only at h
              split at h
              · cases h
              · exact tagF_cnt h5.2.1 (by simp; omega) h
theorem tagF_errpos {l : Bytes} {a : Nat} (ha : a ≤ l.length) : ∀ {f n : Nat} {bs : List Att} {q : Nat × Nat}, n ≤ l.length → tagF l a f n bs = .error q → q.1 ≤ l.length
  | 0, _, _, _, _, h => by cases h; simp
  | f + 1, n, bs, q, hn, h => by
    rw [tagF] at h
    have s2 := spEnd_le hn
    generalize spEnd l n = x at *
    split at h
    · cases h
    · split at h
      · cases h
      · split at h
        · cases h; exact missing_le ha
        · split at h
          · cases h; exact missing_le ha
          · cases hat : attAt l a x with
            | error y => rw [hat] at h; cases h; exact attAt_errpos ha s2 hat
            | ok p =>
              obtain ⟨b, y⟩ := p
              rw [hat] at h
              have h5 := attAt_ok s2 hat
              simp only at h
              split at h
              · cases h; exact s2
              · exact tagF_errpos ha h5.2.1 h
theorem startAt_facts {l : Bytes} {a : Nat} (ha : a + 1 ≤ l.length) : (∀ t k, startAt l a = .ok (t, k) → t.attrs.length ≤ l.length ∧ t.pos = a) ∧ ∀ q, startAt l a = .error q → q.1 ≤ l.length := by
  unfold startAt
  have hk := nameLen_le (l.drop (a + 1))
  rw [List.length_drop] at hk
  split
  · exact ⟨(fun t k h => by cases h), (fun q h => by cases h; exact missing_le (by omega))⟩
  · cases hs : tagS l a (a + 1 + nameLen (l.drop (a + 1))) [] with
    | error y => exact ⟨(fun t k h => by cases h), (fun q h => by cases h; exact tagF_errpos (by omega) (by omega) hs)⟩
    | ok p =>
      obtain ⟨bs, em, y⟩ := p
      exact ⟨(fun t k h => by cases h; exact ⟨tagF_cnt (by omega) (by simp) hs, rfl⟩), (fun q h => by cases h)⟩
theorem endAt_facts {l : Bytes} {a : Nat} (ha : a ≤ l.length) : (∀ t k, endAt l a = .ok (t, k) → t.attrs.length ≤ l.length ∧ t.pos = a) ∧ ∀ q, endAt l a = .error q → q.1 ≤ l.length := by
  unfold endAt
  split
  · exact ⟨(fun t k h => by cases h), (fun q h => by cases h; exact missing_le ha)⟩
  · split
    · exact ⟨(fun t k h => by cases h; exact ⟨by simp, rfl⟩), (fun q h => by cases h)⟩
    · exact ⟨(fun t k h => by cases h), (fun q h => by cases h; exact missing_le ha)⟩
/-- A construct: its attributes are few; if it is kept, it stands where it starts; an error stands within the document. -/
theorem consAt_facts {l : Bytes} {a : Nat} (ha : a < l.length) : (∀ t k, consAt l a = .ok (t, k) → t.attrs.length ≤ l.length ∧ (keepTok t = true → t.pos = a)) ∧ ∀ q, consAt l a = .error q → q.1 ≤ l.length := by
  have sk : ∀ (k : Nat) (s : Bytes) (g : Nat → Tok × Nat), (∀ e, (g e).1.attrs.length ≤ l.length ∧ (keepTok (g e).1 = true → (g e).1.pos = a)) →
      (∀ t j, (skipAt l a k s).map g = .ok (t, j) → t.attrs.length ≤ l.length ∧ (keepTok t = true → t.pos = a)) ∧ ∀ q, (skipAt l a k s).map g = .error q → q.1 ≤ l.length := by
    intro k s g hg
    unfold skipAt
    cases findS s (l.drop (a + k)) with
    | none => exact ⟨(fun t j h => by cases h), (fun q h => by cases h; simp; omega)⟩
    | some j =>
      refine ⟨fun t i h => ?_, (fun q h => by cases h)⟩
      have h2 := hg (a + k + j + s.length)
      have h3 : g (a + k + j + s.length) = (t, i) := by simpa [Except.map] using h
      rw [h3] at h2
      exact h2
  unfold consAt
  split
  · exact sk _ _ _ fun e => ⟨by simp [zTok], fun h => by simp [keepTok, zTok] at h⟩
  · split
    · exact sk _ _ _ fun e => ⟨by simp [zTok], fun h => by simp [keepTok, zTok] at h⟩
    · split
      · exact sk _ _ _ fun e => ⟨by simp, fun _ => rfl⟩
      · split
        · exact ⟨(fun t k h => by cases h), (fun q h => by cases h; simp; omega)⟩
        · split
          · exact ⟨(fun t k h => by cases h), (fun q h => by cases h; simp; omega)⟩
          · split
            · have := endAt_facts (l := l) (a := a) (by omega)
              exact ⟨fun t k h => ⟨(this.1 t k h).1, fun _ => (this.1 t k h).2⟩, this.2⟩
            · split
              · have := startAt_facts (l := l) (a := a) (by omega)
                exact ⟨fun t k h => ⟨(this.1 t k h).1, fun _ => (this.1 t k h).2⟩, this.2⟩
              · have h2 := textEnd_ge l a (by omega)
                cases hc : cont false l a (textEnd l a) with
                | error x => exact ⟨(fun t k h => by cases h), (fun q h => by cases h; exact cont_err h2.1 h2.2 hc)⟩
                | ok v => exact ⟨(fun t k h => by cases h; exact ⟨by simp, fun _ => rfl⟩), (fun q h => by cases h)⟩

/-- The offset of the token ahead of number i. -/
def prevP (ts : List Tok) (i : Nat) : Int := if i = 0 then -1 else (ts[i - 1]?.map Tok.pos).getD (-1)
/-- The offsets increase, and stay below n. -/
structure OffOk (n : Nat) (ts : List Tok) : Prop where
  inc : ∀ i (h : i < ts.length), prevP ts i < ts[i].pos
  lt : ∀ t ∈ ts, t.pos < n
  last : prevP ts ts.length < n
theorem prevP_app {ts us : List Tok} {i : Nat} (h : i ≤ ts.length) : prevP (ts ++ us) i = prevP ts i := by
  unfold prevP
  split
  · rfl
  · rw [List.getElem?_append_left (by omega)]
theorem OffOk.nil (n : Nat) : OffOk n [] := ⟨fun i h => by simp at h, (fun t h => by cases h), by simp [prevP]; omega⟩
theorem OffOk.mono {n k : Nat} {ts : List Tok} (h : OffOk n ts) (hk : n ≤ k) : OffOk k ts := ⟨h.inc, fun t ht => by have := h.lt t ht; omega, by have := h.last; omega⟩
theorem OffOk.add {n k : Nat} {ts : List Tok} {t : Tok} (h : OffOk n ts) (ht : t.pos = n) (hk : n < k) : OffOk k (ts ++ [t]) := by
  refine ⟨fun i hi => ?_, fun u hu => ?_, ?_⟩
  · by_cases h1 : i < ts.length
    · rw [prevP_app (by omega), List.getElem_append_left h1]; exact h.inc i h1
    · have h2 : i = ts.length := by simp at hi; omega
      subst h2
      rw [prevP_app (Nat.le_refl _)]
      have := h.last
      simp; omega
  · rcases List.mem_append.1 hu with h1 | h1
    · have := h.lt u h1; omega
    · simp at h1; subst h1; omega
  · unfold prevP
    rw [if_neg (by simp)]
    simp
    omega
theorem tokF_facts {l : Bytes} : ∀ (f n : Nat) (ts : List Tok), n ≤ l.length → OffOk n ts → (∀ t ∈ ts, t.attrs.length ≤ l.length) →
    (∀ ts', tokF l f n ts = .ok ts' → OffOk l.length ts' ∧ ∀ t ∈ ts', t.attrs.length ≤ l.length) ∧ ∀ q, tokF l f n ts = .error q → q.1 ≤ l.length
  | 0, _, _, _, _, _ => ⟨(fun ts' h => by cases h), (fun q h => by cases h; simp)⟩
  | f + 1, n, ts, hn, ho, ha => by
    rw [tokF]
    split
    · rename_i hlt
      have hf := consAt_facts hlt
      cases hc : consAt l n with
      | error e => exact ⟨(fun ts' h => by cases h), (fun q h => by cases h; exact hf.2 _ hc)⟩
      | ok p =>
        obtain ⟨t, e⟩ := p
        have hk := consAt_ok hlt hc
        have h1 := hf.1 t e hc
        simp only
        by_cases hkt : keepTok t = true
        · rw [if_pos hkt]
          refine tokF_facts f e (ts ++ [t]) hk.2 (ho.add (h1.2 hkt) hk.1) fun u hu => ?_
          rcases List.mem_append.1 hu with h2 | h2
          · exact ha u h2
          · simp at h2; subst h2; exact h1.1
        · rw [if_neg hkt]
          exact tokF_facts f e ts hk.2 (ho.mono (by omega)) ha
    · exact ⟨(fun ts' h => by cases h; exact ⟨ho.mono hn, ha⟩), (fun q h => by cases h)⟩
theorem chkS_le : ∀ (k : Nat) (l : Bytes) (n : Nat), (chkS k l n).1 ≤ n + l.length
  | k, [], n => by cases k <;> simp [chkS]
  | k + 1, a :: t, n => by
    have := chkS_le k t (n + 1)
    rw [chkS]; simp only [List.length_cons]; omega
  | 0, a :: t, n => by
    rw [chkS]
    simp only [List.length_cons]
    split
    · simp
    · split
      · have := chkS_le ((dec (a :: t)).2 - 1) t (n + 1); omega
      · simp
theorem check_le (l : Bytes) : (check l).1 ≤ l.length := by
  have := chkS_le 0 l 0
  unfold check; omega
theorem tokF_err {l : Bytes} : ∀ (f n : Nat) (ts : List Tok) (q : Nat × Nat), n ≤ l.length → l.length < n + f → tokF l f n ts = .error q → q.2 ≠ 0
  | 0, n, ts, q, hn, hf, h => by omega
  | f + 1, n, ts, q, hn, hf, h => by
    rw [tokF] at h
    split at h
    · rename_i hlt
      cases hc : consAt l n with
      | error e => rw [hc] at h; cases h; exact consAt_err hc
      | ok p =>
        obtain ⟨t, e⟩ := p
        have hk := consAt_ok hlt hc
        rw [hc] at h
        exact tokF_err f e _ q hk.2 (by omega) h
    · cases h
/-- What the statement on offsets asks. -/
theorem toks_facts (l : Bytes) : OffOk l.length (toks l).1 ∧ (∀ t ∈ (toks l).1, t.attrs.length ≤ l.length) ∧ (toks l).2.1 ≤ l.length ∧ ((toks l).2.2 = 0 → (toks l).2.1 = l.length) ∧ ((toks l).2.2 ≠ 0 → (toks l).1 = []) := by
  unfold toks
  split
  · rename_i h
    exact ⟨.nil _, (fun t h => by cases h), check_le l, fun h2 => absurd h2 h, fun _ => rfl⟩
  · have h0 : (if hasAt l 0 sBom = true then 3 else 0) ≤ l.length := by
      split
      · rename_i h
        have := hasAt_le h
        simp [sBom] at this; omega
      · omega
    have := tokF_facts (l := l) (l.length + 1) _ [] h0 (.nil _) (fun t h => by cases h)
    unfold tokS
    cases hq : tokF l (l.length + 1) (if hasAt l 0 sBom = true then 3 else 0) [] with
    | error e =>
      exact ⟨.nil _, (fun t h => by cases h), this.2 e hq, fun h => absurd h (tokF_err _ _ _ _ h0 (by omega) hq), fun _ => rfl⟩
    | ok ts => exact ⟨(this.1 ts hq).1, (this.1 ts hq).2, Nat.le_refl _, fun _ => rfl, fun h => absurd rfl h⟩
end Go.Proofs.YthbfahbjfioghaaGreatDoor
