/-
  Several texts in one file, in build order:
  - Plain laws of chapter 6: how many attributes a token has; where tokens and errors stand. No program.
  - Plain laws of tokens: a part of a document reads the same behind other bytes and ahead of other bytes. No program.
  - Plain laws of tokens: a document behind other bytes; the tokens of two documents in sequence. No program.
  - Plain functions of chapter 9 (xmlwrite): which trees are valid. No program.
  - Plain functions of chapter 9: the canonical form of a tree. No program.
  - Plain laws of chapter 9: the two forms of validity. No program.
  - Plain laws of chapter 9: what the canonical form tells of a tree; validity, depth and the reference's check. No program.
-/
import Derived.Test.YtclhdppppgjgfaaGreatDoorH15
import Derived.Test.YtclhdppppgjgfaaGreatDoorH12
import Derived.Test.YtclhdppppgjgfaaGreatDoorH4
import Derived.Test.YtclhdppppgjgfaaGreatDoorH2
import Derived.Test.YtclhdppppgjgfaaGreatDoorH3
set_option linter.unusedVariables false
namespace Go.Proofs.YtclhdppppgjgfaaGreatDoor

theorem missing_le {l : Bytes} {a n : Nat} (h : a ≤ l.length) : (missing l a n).1 ≤ l.length := by
  unfold missing; split <;> simp <;> omega
theorem contS_err (v : Bool) : ∀ (l : Bytes) (k n x : Nat), contS v k l n = .error x → x ≤ n + l.length
  | [], k, n, x, h => by cases k <;> (rw [contS] at h; cases h)
  | c :: t, k + 1, n, x, h => by
    rw [contS] at h
    have := contS_err v t k (n + 1) x h
    simp only [List.length_cons]; omega
  | c :: t, 0, n, x, h => by
    rw [contS] at h
    simp only [List.length_cons]
    have em : ∀ {y : Except Nat Bytes} {g : Bytes → Bytes}, y.map g = .error x → y = .error x := by
      intro y g hy
      cases y with
      | error e => exact hy
      | ok z => cases hy
    split at h
    · split at h
      · cases h; omega
      · have := contS_err v t _ (n + 1) x (em h)
        omega
    · split at h
      · have := contS_err v t 0 (n + 1) x h
        omega
      · have := contS_err v t 0 (n + 1) x (em h)
        omega
theorem cont_err {v : Bool} {l : Bytes} {a b x : Nat} (hab : a ≤ b) (hb : b ≤ l.length) (h : cont v l a b = .error x) : x ≤ l.length := by
  unfold cont at h
  have := contS_err v _ 0 a x h
  rw [List.length_drop, List.length_take] at this
  omega
theorem attAt_errpos {l : Bytes} {a n : Nat} {q : Nat × Nat} (ha : a ≤ l.length) (hn : n ≤ l.length) (h : attAt l a n = .error q) : q.1 ≤ l.length := by
  unfold attAt at h
  have hk := nameLen_le (l.drop n)
  rw [List.length_drop] at hk
  split at h
  · cases h; exact missing_le ha
  · have s1 := spEnd_le (l := l) (n := n + nameLen (l.drop n)) (by omega)
    generalize spEnd l (n + nameLen (l.drop n)) = x at *
    split at h
    · cases h; exact missing_le ha
    · rename_i hx
      split at h
      · cases h; exact missing_le ha
      · rename_i hq
        generalize spEnd l (x + 1) = y at *
        have hy : y + 1 ≤ l.length := by
          unfold isQuote at hq
          have h4 : hasAt l y [34] = true ∨ hasAt l y [39] = true := by
            cases h5 : hasAt l y [34] <;> cases h6 : hasAt l y [39] <;> simp_all
          rcases h4 with h4 | h4
          all_goals
            have := hasAt_le h4
            simp at this; omega
        unfold valAt at h
        have v1 := valEnd_ge l (l.getD y 0) (y + 1)
        have v2 := valEnd_le (q := l.getD y 0) hy
        generalize valEnd l (l.getD y 0) (y + 1) = z at *
        split at h
        · rename_i hc
          cases h
          exact cont_err v1 v2 hc
        · split at h
          · cases h; exact ha
          · split at h
            · cases h; exact v2
            · cases h
theorem tagF_cnt {l : Bytes} {a : Nat} : ∀ {f n : Nat} {bs cs : List Att} {em : Bool} {e : Nat}, n ≤ l.length → bs.length ≤ n → tagF l a f n bs = .ok (cs, em, e) → cs.length ≤ l.length
  | 0, _, _, _, _, _, _, _, h => by cases h
  | f + 1, n, bs, cs, em, e, hn, hb, h => by
    rw [tagF] at h
    have s1 := spEnd_ge l n
    have s2 := spEnd_le hn
    generalize spEnd l n = x at *
    split at h
    · cases h; omega
    · split at h
      · cases h; omega
      · split at h
        · cases h
        · split at h
          · cases h
          · cases ha : attAt l a x with
            | error y => rw [ha] at h; cases h
            | ok p =>
              obtain ⟨b, y⟩ := p
              rw [ha] at h
              have h5 := attAt_ok s2 ha
              simp only at h
              split at h
              · cases h
              · exact tagF_cnt h5.2.1 (by simp; omega) h
theorem tagF_errpos {l : Bytes} {a : Nat} (ha : a ≤ l.length) : ∀ {f n : Nat} {bs : List Att} {q : Nat × Nat}, n ≤ l.length → tagF l a f n bs = .error q → q.1 ≤ l.length
  | 0, _, _, _, _, h => by cases h; simp
  | f + 1, n, bs, q, hn, h => by
    rw [tagF] at h
    have s2 := spEnd_le hn
    generalize spEnd l n = x at *
    split at h
    · cases h
    · split at h
      · cases h
      · split at h
        · cases h; exact missing_le ha
        · split at h
          · cases h; exact missing_le ha
          · cases hat : attAt l a x with
            | error y => rw [hat] at h; cases h; exact attAt_errpos ha s2 hat
            | ok p =>
              obtain ⟨b, y⟩ := p
              rw [hat] at h
              have h5 := attAt_ok s2 hat
              simp only at h
              split at h
              · cases h; exact s2
              · exact tagF_errpos ha h5.2.1 h
theorem startAt_facts {l : Bytes} {a : Nat} (ha : a + 1 ≤ l.length) : (∀ t k, startAt l a = .ok (t, k) → t.attrs.length ≤ l.length ∧ t.pos = a) ∧ ∀ q, startAt l a = .error q → q.1 ≤ l.length := by
  unfold startAt
  have hk := nameLen_le (l.drop (a + 1))
  rw [List.length_drop] at hk
  split
  · exact ⟨(fun t k h => by cases h), (fun q h => by cases h; exact missing_le (by omega))⟩
  · cases hs : tagS l a (a + 1 + nameLen (l.drop (a + 1))) [] with
    | error y => exact ⟨(fun t k h => by cases h), (fun q h => by cases h; exact tagF_errpos (by omega) (by omega) hs)⟩
    | ok p =>
      obtain ⟨bs, em, y⟩ := p
      exact ⟨(fun t k h => by cases h; exact ⟨tagF_cnt (by omega) (by simp) hs, rfl⟩), (fun q h => by cases h)⟩
theorem endAt_facts {l : Bytes} {a : Nat} (ha : a ≤ l.length) : (∀ t k, endAt l a = .ok (t, k) → t.attrs.length ≤ l.length ∧ t.pos = a) ∧ ∀ q, endAt l a = .error q → q.1 ≤ l.length := by
  unfold endAt
  split
  · exact ⟨(fun t k h => by cases h), (fun q h => by cases h; exact missing_le ha)⟩
  · split
    · exact ⟨(fun t k h => by cases h; exact ⟨by simp, rfl⟩), (fun q h => by cases h)⟩
    · exact ⟨(fun t k h => by cases h), (fun q h => by cases h; exact missing_le ha)⟩
/-- A construct: its attributes are few; if it is kept, it stands where it starts; an error stands within the document. -/
theorem consAt_facts {l : Bytes} {a : Nat} (ha : a < l.length) : (∀ t k, consAt l a = .ok (t, k) → t.attrs.length ≤ l.length ∧ (keepTok t = true → t.pos = a)) ∧ ∀ q, consAt l a = .error q → q.1 ≤ l.length := by
  have sk : ∀ (k : Nat) (s : Bytes) (g : Nat → Tok × Nat), (∀ e, (g e).1.attrs.length ≤ l.length ∧ (keepTok (g e).1 = true → (g e).1.pos = a)) →
      (∀ t j, (skipAt l a k s).map g = .ok (t, j) → t.attrs.length ≤ l.length ∧ (keepTok t = true → t.pos = a)) ∧ ∀ q, (skipAt l a k s).map g = .error q → q.1 ≤ l.length := by
    intro k s g hg
    unfold skipAt
    cases findS s (l.drop (a + k)) with
    | none => exact ⟨(fun t j h => by cases h), (fun q h => by cases h; simp; omega)⟩
    | some j =>
      refine ⟨fun t i h => ?_, (fun q h => by cases h)⟩
      have h2 := hg (a + k + j + s.length)
      have h3 : g (a + k + j + s.length) = (t, i) := by simpa [Except.map] using h
      rw [h3] at h2
      exact h2
  unfold consAt
  split
  · exact sk _ _ _ fun e => ⟨by simp [zTok], fun h => by simp [keepTok, zTok] at h⟩
  · split
    · exact sk _ _ _ fun e => ⟨by simp [zTok], fun h => by simp [keepTok, zTok] at h⟩
    · split
      · exact sk _ _ _ fun e => ⟨by simp, fun _ => rfl⟩
      · split
        · exact ⟨(fun t k h => by cases h), (fun q h => by cases h; simp; omega)⟩
        · split
          · exact ⟨(fun t k h => by cases h), (fun q h => by cases h; simp; omega)⟩
          · split
            · have := endAt_facts (l := l) (a := a) (by omega)
              exact ⟨fun t k h => ⟨(this.1 t k h).1, fun _ => (this.1 t k h).2⟩, this.2⟩
            · split
              · have := startAt_facts (l := l) (a := a) (by omega)
                exact ⟨fun t k h => ⟨(this.1 t k h).1, fun _ => (this.1 t k h).2⟩, this.2⟩
              · have h2 := textEnd_ge l a (by omega)
                cases hc : cont false l a (textEnd l a) with
                | error x => exact ⟨(fun t k h => by cases h), (fun q h => by cases h; exact cont_err h2.1 h2.2 hc)⟩
                | ok v => exact ⟨(fun t k h => by cases h; exact ⟨by simp, fun _ => rfl⟩), (fun q h => by cases h)⟩

/-- The offset of the token ahead of number i. -/
def prevP (ts : List Tok) (i : Nat) : Int := if i = 0 then -1 else (ts[i - 1]?.map Tok.pos).getD (-1)
/-- The offsets increase, and stay below n. -/
structure OffOk (n : Nat) (ts : List Tok) : Prop where
  inc : ∀ i (h : i < ts.length), prevP ts i < ts[i].pos
  lt : ∀ t ∈ ts, t.pos < n
  last : prevP ts ts.length < n
theorem prevP_app {ts us : List Tok} {i : Nat} (h : i ≤ ts.length) : prevP (ts ++ us) i = prevP ts i := by
  unfold prevP
  split
  · rfl
  · rw [List.getElem?_append_left (by omega)]
theorem OffOk.nil (n : Nat) : OffOk n [] := ⟨fun i h => by simp at h, (fun t h => by cases h), by simp [prevP]; omega⟩
theorem OffOk.mono {n k : Nat} {ts : List Tok} (h : OffOk n ts) (hk : n ≤ k) : OffOk k ts := ⟨h.inc, fun t ht => by have := h.lt t ht; omega, by have := h.last; omega⟩
theorem OffOk.add {n k : Nat} {ts : List Tok} {t : Tok} (h : OffOk n ts) (ht : t.pos = n) (hk : n < k) : OffOk k (ts ++ [t]) := by
  refine ⟨fun i hi => ?_, fun u hu => ?_, ?_⟩
  · by_cases h1 : i < ts.length
    · rw [prevP_app (by omega), List.getElem_append_left h1]; exact h.inc i h1
    · have h2 : i = ts.length := by simp at hi; omega
      subst h2
      rw [prevP_app (Nat.le_refl _)]
      have := h.last
      simp; omega
  · rcases List.mem_append.1 hu with h1 | h1
    · have := h.lt u h1; omega
    · simp at h1; subst h1; omega
  · unfold prevP
    rw [if_neg (by simp)]
    simp
    omega
theorem tokF_facts {l : Bytes} : ∀ (f n : Nat) (ts : List Tok), n ≤ l.length → OffOk n ts → (∀ t ∈ ts, t.attrs.length ≤ l.length) →
    (∀ ts', tokF l f n ts = .ok ts' → OffOk l.length ts' ∧ ∀ t ∈ ts', t.attrs.length ≤ l.length) ∧ ∀ q, tokF l f n ts = .error q → q.1 ≤ l.length
  | 0, _, _, _, _, _ => ⟨(fun ts' h => by cases h), (fun q h => by cases h; simp)⟩
  | f + 1, n, ts, hn, ho, ha => by
    rw [tokF]
    split
    · rename_i hlt
      have hf := consAt_facts hlt
      cases hc : consAt l n with
      | error e => exact ⟨(fun ts' h => by cases h), (fun q h => by cases h; exact hf.2 _ hc)⟩
      | ok p =>
        obtain ⟨t, e⟩ := p
        have hk := consAt_ok hlt hc
        have h1 := hf.1 t e hc
        simp only
        by_cases hkt : keepTok t = true
        · rw [if_pos hkt]
          refine tokF_facts f e (ts ++ [t]) hk.2 (ho.add (h1.2 hkt) hk.1) fun u hu => ?_
          rcases List.mem_append.1 hu with h2 | h2
          · exact ha u h2
          · simp at h2; subst h2; exact h1.1
        · rw [if_neg hkt]
          exact tokF_facts f e ts hk.2 (ho.mono (by omega)) ha
    · exact ⟨(fun ts' h => by cases h; exact ⟨ho.mono hn, ha⟩), (fun q h => by cases h)⟩
theorem chkS_le : ∀ (k : Nat) (l : Bytes) (n : Nat), (chkS k l n).1 ≤ n + l.length
  | k, [], n => by cases k <;> simp [chkS]
  | k + 1, a :: t, n => by
    have := chkS_le k t (n + 1)
    rw [chkS]; simp only [List.length_cons]; omega
  | 0, a :: t, n => by
    rw [chkS]
    simp only [List.length_cons]
    split
    · simp
    · split
      · have := chkS_le ((dec (a :: t)).2 - 1) t (n + 1); omega
      · simp
theorem check_le (l : Bytes) : (check l).1 ≤ l.length := by
  have := chkS_le 0 l 0
  unfold check; omega
theorem tokF_err {l : Bytes} : ∀ (f n : Nat) (ts : List Tok) (q : Nat × Nat), n ≤ l.length → l.length < n + f → tokF l f n ts = .error q → q.2 ≠ 0
  | 0, n, ts, q, hn, hf, h => by omega
  | f + 1, n, ts, q, hn, hf, h => by
    rw [tokF] at h
    split at h
    · rename_i hlt
      cases hc : consAt l n with
      | error e => rw [hc] at h; cases h; exact consAt_err hc
      | ok p =>
        obtain ⟨t, e⟩ := p
        have hk := consAt_ok hlt hc
        rw [hc] at h
        exact tokF_err f e _ q hk.2 (by omega) h
    · cases h
/-- What the statement on offsets asks. -/
theorem toks_facts (l : Bytes) : OffOk l.length (toks l).1 ∧ (∀ t ∈ (toks l).1, t.attrs.length ≤ l.length) ∧ (toks l).2.1 ≤ l.length ∧ ((toks l).2.2 = 0 → (toks l).2.1 = l.length) ∧ ((toks l).2.2 ≠ 0 → (toks l).1 = []) := by
  unfold toks
  split
  · rename_i h
    exact ⟨.nil _, (fun t h => by cases h), check_le l, fun h2 => absurd h2 h, fun _ => rfl⟩
  · have h0 : (if hasAt l 0 sBom = true then 3 else 0) ≤ l.length := by
      split
      · rename_i h
        have := hasAt_le h
        simp [sBom] at this; omega
      · omega
    have := tokF_facts (l := l) (l.length + 1) _ [] h0 (.nil _) (fun t h => by cases h)
    unfold tokS
    cases hq : tokF l (l.length + 1) (if hasAt l 0 sBom = true then 3 else 0) [] with
    | error e =>
      exact ⟨.nil _, (fun t h => by cases h), this.2 e hq, fun h => absurd h (tokF_err _ _ _ _ h0 (by omega) hq), fun _ => rfl⟩
    | ok ts => exact ⟨(this.1 ts hq).1, (this.1 ts hq).2, Nat.le_refl _, fun _ => rfl, fun h => absurd rfl h⟩
end Go.Proofs.YtclhdppppgjgfaaGreatDoor
set_option linter.unusedVariables false
namespace Go.Proofs.YtclhdppppgjgfaaGreatDoor

theorem drop_sh (p l : Bytes) (n : Nat) : (p ++ l).drop (p.length + n) = l.drop n := by
  rw [← List.drop_drop, List.drop_left]
theorem take_sh (p l : Bytes) (n : Nat) : (p ++ l).take (p.length + n) = p ++ l.take n := by
  rw [List.take_append, List.take_of_length_le (by omega)]; simp
theorem drop_app {l : Bytes} {n : Nat} (h : n ≤ l.length) (y : Bytes) : (l ++ y).drop n = l.drop n ++ y := List.drop_append_of_le_length h
theorem dec_low {a : UInt8} (h : a.toNat < 128) (t : Bytes) : dec (a :: t) = (a.toNat, 1) := by
  simp [dec, h]
theorem dec_app {l : Bytes} (h : (dec l).2 ≠ 0) (y : Bytes) : dec (l ++ y) = dec l := by
  have h1 := dec_enc l h
  have h2 := (dec_le l).1
  have e : l ++ y = enc (dec l).1 ++ (l.drop (dec l).2 ++ y) := by rw [h1.2, ← List.append_assoc, List.take_append_drop]
  have e2 : (enc (dec l).1).length = (dec l).2 := by rw [h1.2, List.length_take]; omega
  have e3 := enc_dec h1.1 (l.drop (dec l).2 ++ y)
  rw [← e, e2] at e3
  exact e3

/-! The check of a whole. -/
theorem chkS_at : ∀ (k : Nat) (l : Bytes) (n d : Nat), chkS k l (n + d) = ((chkS k l n).1 + d, (chkS k l n).2)
  | 0, [], n, d => rfl
  | k + 1, [], n, d => rfl
  | k + 1, a :: t, n, d => by
    rw [chkS, chkS, show n + d + 1 = n + 1 + d by omega]
    exact chkS_at k t (n + 1) d
  | 0, a :: t, n, d => by
    rw [chkS, chkS]
    split
    · rfl
    · split
      · rw [show n + d + 1 = n + 1 + d by omega]
        exact chkS_at _ t (n + 1) d
      · rfl
theorem chkS_app (y : Bytes) : ∀ (k : Nat) (l : Bytes) (n : Nat), k ≤ l.length → (chkS k l n).2 = 0 → chkS k (l ++ y) n = chkS 0 y (n + l.length)
  | 0, [], n, _, _ => by simp
  | k + 1, [], n, h, _ => by simp at h
  | k + 1, a :: t, n, hk, h => by
    rw [chkS] at h
    rw [List.cons_append, chkS, chkS_app y k t (n + 1) (by simpa using hk) h, List.length_cons, show n + 1 + t.length = n + (t.length + 1) by omega]
  | 0, a :: t, n, hk, h => by
    rw [chkS] at h
    split at h
    · simp at h
    · rename_i hd
      split at h
      · rename_i hc
        have hdd := dec_app hd y
        have hl := (dec_le (a :: t)).1
        rw [List.cons_append] at hdd ⊢
        rw [chkS, hdd, if_neg hd, if_pos hc, chkS_app y _ t (n + 1) (by simp at hl; omega) h, List.length_cons, show n + 1 + t.length = n + (t.length + 1) by omega]
      · simp at h
theorem check_app {l : Bytes} (h : (check l).2 = 0) (y : Bytes) : check (l ++ y) = (l.length + (check y).1, (check y).2) := by
  unfold check at *
  rw [chkS_app y 0 l 0 (Nat.zero_le _) h]
  have := chkS_at 0 y 0 l.length
  rw [this, Nat.add_comm]
/-! Names, spaces, searches ahead of other bytes. -/
theorem nmS_app (y : Bytes) : ∀ (k : Nat) (f : Bool) (l : Bytes), k ≤ l.length → nmS k f l < l.length → (l.getD (nmS k f l) 0).toNat < 128 → nmS k f (l ++ y) = nmS k f l
  | k, f, [], _, h, _ => by simp at h
  | k + 1, f, a :: t, hk, h, hg => by
    have e : nmS (k + 1) f (a :: t) = 1 + nmS k f t := rfl
    rw [e] at h hg ⊢
    rw [List.cons_append, nmS, nmS_app y k f t (by simpa using hk) (by simp at h; omega)]
    rw [Nat.add_comm 1] at hg
    exact hg
  | 0, f, a :: t, hk, h, hg => by
    by_cases hd : (dec (a :: t)).2 = 0
    · have e : nmS 0 f (a :: t) = 0 := nm_stop (.inl hd)
      rw [e] at hg
      have := dec_low (show a.toNat < 128 from hg) t
      rw [this] at hd
      cases hd
    · have hdd := dec_app hd y
      by_cases hc : qch f (dec (a :: t)).1 = true
      · have e : nmS 0 f (a :: t) = 1 + nmS ((dec (a :: t)).2 - 1) false t := by rw [nmS, if_neg hd, if_pos hc]
        have hl := (dec_le (a :: t)).1
        rw [e] at h hg ⊢
        rw [List.cons_append] at hdd ⊢
        rw [nmS, hdd, if_neg hd, if_pos hc, nmS_app y _ false t (by simp at hl; omega) (by simp at h; omega)]
        rw [Nat.add_comm 1] at hg
        exact hg
      · have hc' : qch f (dec (a :: t)).1 = false := by simpa using hc
        rw [nm_stop (.inr hc'), nm_stop (.inr (by rw [hdd]; exact hc'))]
theorem nameLen_app {l : Bytes} {n : Nat} (y : Bytes) (h : n + nameLen (l.drop n) < l.length) (hg : (l.getD (n + nameLen (l.drop n)) 0).toNat < 128) : nameLen ((l ++ y).drop n) = nameLen (l.drop n) := by
  rw [drop_app (by omega)]
  refine nmS_app y 0 true (l.drop n) (Nat.zero_le _) (by show nameLen _ < _; rw [List.length_drop]; omega) ?_
  show ((l.drop n).getD (nameLen (l.drop n)) 0).toNat < 128
  rw [List.getD_eq_getElem?_getD, List.getElem?_drop, ← List.getD_eq_getElem?_getD]
  exact hg
theorem run_app {p : UInt8 → Bool} (y : Bytes) : ∀ {x : Bytes}, run p x < x.length → run p (x ++ y) = run p x
  | [], h => by simp at h
  | c :: x, h => by
    rw [List.cons_append, run, run]
    split
    · rename_i hc
      rw [run, if_pos hc] at h
      rw [run_app y (by simpa using h)]
    · rfl
theorem spEnd_app {l : Bytes} {n : Nat} (y : Bytes) (h : spEnd l n < l.length) : spEnd (l ++ y) n = spEnd l n := by
  have := spEnd_ge l n
  unfold spEnd at h this ⊢
  rw [drop_app (by omega), run_app y (by rw [List.length_drop]; omega)]
theorem valEnd_app {l : Bytes} {n : Nat} {q : UInt8} (y : Bytes) (h : valEnd l q n < l.length) : valEnd (l ++ y) q n = valEnd l q n := by
  have := valEnd_ge l q n
  unfold valEnd at h this ⊢
  rw [drop_app (by omega), run_app y (by rw [List.length_drop]; omega)]
theorem getD_app {l : Bytes} {n : Nat} (y : Bytes) (h : n < l.length) : (l ++ y).getD n 0 = l.getD n 0 := by
  rw [List.getD_eq_getElem?_getD, List.getD_eq_getElem?_getD, List.getElem?_append_left h]
theorem hasAt_app {l : Bytes} {n : Nat} {t : Bytes} (y : Bytes) (h : n + t.length ≤ l.length) : hasAt (l ++ y) n t = hasAt l n t := by
  rw [hasAt_take, hasAt_take, drop_app (by omega), List.take_append_of_le_length (by rw [List.length_drop]; omega)]
theorem hasAt_yes {l : Bytes} {n : Nat} {t : Bytes} (y : Bytes) (ht : t ≠ []) (h : hasAt l n t = true) : hasAt (l ++ y) n t = true := by
  rcases hasAt_le h with h1 | h1
  · rw [hasAt_app y (by omega)]; exact h
  · exact absurd h1 ht
/-- Its head is there too. -/
theorem hasAt_head {l : Bytes} {n : Nat} {s r : Bytes} (h : hasAt l n (s ++ r) = true) : hasAt l n s = true := by
  unfold hasAt at *
  rw [List.isPrefixOf_iff_prefix] at *
  exact (List.prefix_append s r).trans h
theorem findS_app {t : Bytes} (y : Bytes) : ∀ {x : Bytes} {k : Nat}, findS t x = some k → findS t (x ++ y) = some k
  | [], k, h => by
    rw [findS] at h
    split at h
    · rename_i e
      cases h; subst e
      exact findS_hit (by simp)
    · cases h
  | a :: x, k, h => by
    rw [findS] at h
    split at h
    · rename_i e
      cases h
      refine findS_hit ?_
      rw [List.isPrefixOf_iff_prefix] at *
      exact e.trans (List.prefix_append _ _)
    · rename_i e
      cases hf : findS t x with
      | none => rw [hf] at h; cases h
      | some j =>
        rw [hf] at h
        cases h
        have hle := findS_le hf
        rw [List.cons_append, findS, if_neg, findS_app y hf]
        · rfl
        · intro e2
          apply e
          rw [List.isPrefixOf_iff_prefix] at *
          exact List.prefix_of_prefix_length_le e2 (List.prefix_append (a :: x) y) (by simp; omega)
theorem cont_app {v : Bool} {l : Bytes} {a b : Nat} (y : Bytes) (h : b ≤ l.length) : cont v (l ++ y) a b = cont v l a b := by
  unfold cont
  rw [List.take_append_of_le_length h]
/-- The byte behind a name that spaces and a sign follow is a low one. -/
theorem spEnd_low {l : Bytes} {n : Nat} {c : UInt8} (hc : c.toNat < 128) (h : hasAt l (spEnd l n) [c] = true) : n < l.length ∧ (l.getD n 0).toNat < 128 := by
  obtain ⟨h1, h2⟩ := has_one.1 h
  have h3 := spEnd_ge l n
  have hn : n < l.length := by omega
  refine ⟨hn, ?_⟩
  rw [List.getD_eq_getElem?_getD, List.getElem?_eq_getElem hn]
  cases hs : isSp l[n] with
  | true =>
    unfold isSp at hs
    simp at hs ⊢
    omega
  | false =>
    have := spEnd_no hn hs
    simp only [this] at h2
    rw [h2]; exact hc
theorem spEnd_low2 {l : Bytes} {n : Nat} (hn : n ≤ l.length) (h : spEnd l n ≠ n) : n < l.length ∧ (l.getD n 0).toNat < 128 := by
  have hlt : n < l.length := by
    rcases Nat.lt_or_ge n l.length with h1 | h1
    · exact h1
    · obtain rfl : n = l.length := by omega
      exact absurd (spEnd_end l) h
  refine ⟨hlt, ?_⟩
  rw [List.getD_eq_getElem?_getD, List.getElem?_eq_getElem hlt]
  cases hs : isSp l[n] with
  | true =>
    unfold isSp at hs
    simp at hs ⊢
    omega
  | false => exact absurd (spEnd_no hlt hs) h

/-! Constructs ahead of other bytes. -/
theorem attAt_app {l : Bytes} {a n : Nat} {b : Att} {e : Nat} (y : Bytes) (hn : n ≤ l.length) (h : attAt l a n = .ok (b, e)) : attAt (l ++ y) a n = .ok (b, e) := by
  unfold attAt at h
  by_cases h1 : nameLen (l.drop n) = 0
  · rw [if_pos h1] at h; cases h
  rw [if_neg h1] at h
  by_cases h2 : hasAt l (spEnd l (n + nameLen (l.drop n))) [61] = false
  · rw [if_pos h2] at h; cases h
  rw [if_neg h2] at h
  have h2' : hasAt l (spEnd l (n + nameLen (l.drop n))) [61] = true := by simpa using h2
  have hlow := spEnd_low (by decide) h2'
  have hnm := nameLen_app y hlow.1 hlow.2
  have hx := hasAt_le h2'
  have hx' : spEnd l (n + nameLen (l.drop n)) < l.length := by simp at hx; omega
  have hsp := spEnd_app y hx'
  have hy := hasAt_app (t := [61]) y (show spEnd l (n + nameLen (l.drop n)) + 1 ≤ l.length by omega)
  unfold attAt
  rw [hnm, if_neg h1, hsp, hy, if_neg h2]
  have htk : ((l ++ y).drop n).take (nameLen (l.drop n)) = (l.drop n).take (nameLen (l.drop n)) := by
    rw [drop_app hn, List.take_append_of_le_length (nameLen_le _)]
  rw [htk]
  generalize nameLen (l.drop n) = k at *
  generalize spEnd l (n + k) = x at *
  by_cases h3 : isQuote l (spEnd l (x + 1)) = false
  · rw [if_pos h3] at h; cases h
  rw [if_neg h3] at h
  have hz : spEnd l (x + 1) < l.length := by
    unfold isQuote at h3
    have h4 : hasAt l (spEnd l (x + 1)) [34] = true ∨ hasAt l (spEnd l (x + 1)) [39] = true := by
      cases h5 : hasAt l (spEnd l (x + 1)) [34] <;> cases h6 : hasAt l (spEnd l (x + 1)) [39] <;> simp_all
    rcases h4 with h4 | h4
    all_goals
      have := hasAt_le h4
      simp at this; omega
  have hq : isQuote (l ++ y) (spEnd l (x + 1)) = isQuote l (spEnd l (x + 1)) := by
    unfold isQuote
    rw [hasAt_app (t := [34]) y (by simp; omega), hasAt_app (t := [39]) y (by simp; omega)]
  rw [spEnd_app y hz, hq, if_neg h3, getD_app y hz]
  generalize spEnd l (x + 1) = z at *
  unfold valAt at h ⊢
  have v2 := valEnd_le (q := l.getD z 0) (show z + 1 ≤ l.length by omega)
  cases hc : cont true l (z + 1) (valEnd l (l.getD z 0) (z + 1)) with
  | error e => rw [hc] at h; cases h
  | ok v =>
    rw [hc] at h
    simp only at h
    by_cases h4 : valEnd l (l.getD z 0) (z + 1) = l.length
    · rw [if_pos h4] at h; cases h
    · rw [if_neg h4] at h
      have h5 : valEnd l (l.getD z 0) (z + 1) < l.length := by omega
      rw [valEnd_app y h5, cont_app y v2, hc]
      simp only
      rw [if_neg (by rw [List.length_append]; omega), getD_app y h5]
      exact h
theorem tagF_fuel {l : Bytes} {a : Nat} : ∀ (f g n : Nat) (bs : List Att), n ≤ l.length → l.length < n + f → l.length < n + g → tagF l a f n bs = tagF l a g n bs
  | 0, _, n, bs, hn, hf, _ => by omega
  | f + 1, 0, n, bs, hn, _, hg => by omega
  | f + 1, g + 1, n, bs, hn, hf, hg => by
    rw [tagF, tagF]
    split
    · rfl
    · split
      · rfl
      · split
        · rfl
        · split
          · rfl
          · cases ha : attAt l a (spEnd l n) with
            | error e => rfl
            | ok p =>
              obtain ⟨b, e⟩ := p
              simp only
              split
              · rfl
              · have h1 := attAt_ok (spEnd_le hn) ha
                have h2 := spEnd_ge l n
                exact tagF_fuel f g e _ h1.2.1 (by omega) (by omega)
theorem tagF_app {l : Bytes} {a : Nat} (y : Bytes) : ∀ (f n : Nat) (bs : List Att) (r : List Att × Bool × Nat), n ≤ l.length → tagF l a f n bs = .ok r →
    tagF (l ++ y) a f n bs = .ok r ∧ n < l.length ∧ (l.getD n 0).toNat < 128
  | 0, _, _, _, _, h => by cases h
  | f + 1, n, bs, r, hn, h => by
    rw [tagF] at h ⊢
    have g1 := spEnd_ge l n
    by_cases h1 : hasAt l (spEnd l n) [62] = true
    · rw [if_pos h1] at h
      have hlow := spEnd_low (by decide) h1
      have hle := hasAt_le h1
      have hx : spEnd l n < l.length := by simp at hle; omega
      rw [spEnd_app y hx, if_pos (hasAt_yes y (by simp) h1)]
      exact ⟨h, hlow⟩
    rw [if_neg h1] at h
    by_cases h2 : hasAt l (spEnd l n) [47, 62] = true
    · rw [if_pos h2] at h
      have hlow := spEnd_low (c := 47) (by decide) (hasAt_head (s := [47]) (r := [62]) h2)
      have hle := hasAt_le h2
      have hx : spEnd l n + 2 ≤ l.length := by simp at hle; omega
      rw [spEnd_app y (by omega), if_neg (by rw [hasAt_app y (by simp; omega)]; exact h1), if_pos (hasAt_yes y (by simp) h2)]
      exact ⟨h, hlow⟩
    rw [if_neg h2] at h
    by_cases h3 : hasAt l (spEnd l n) [47] = true
    · rw [if_pos h3] at h; cases h
    rw [if_neg h3] at h
    by_cases h4 : spEnd l n = n
    · rw [if_pos h4] at h; cases h
    rw [if_neg h4] at h
    have hlow := spEnd_low2 hn h4
    cases ha : attAt l a (spEnd l n) with
    | error e => rw [ha] at h; cases h
    | ok p =>
      obtain ⟨b, e⟩ := p
      rw [ha] at h
      have h5 := attAt_ok (spEnd_le hn) ha
      have hx : spEnd l n < l.length := by omega
      have n3 : ¬ hasAt (l ++ y) (spEnd l n) [47] = true := by rw [hasAt_app y (by simp; omega)]; exact h3
      rw [spEnd_app y hx, if_neg (by rw [hasAt_app y (by simp; omega)]; exact h1), if_neg (fun h6 : hasAt (l ++ y) (spEnd l n) [47, 62] = true => n3 (hasAt_head (s := [47]) (r := [62]) h6)), if_neg n3, if_neg h4, attAt_app y (spEnd_le hn) ha]
      simp only at h ⊢
      by_cases h6 : bs.any (fun c => c.name == b.name) = true
      · rw [if_pos h6] at h; cases h
      · rw [if_neg h6] at h ⊢
        exact ⟨(tagF_app y f e _ r h5.2.1 h).1, hlow⟩
theorem tagF_more {l : Bytes} {a : Nat} : ∀ {f g n : Nat} {bs : List Att} {r : List Att × Bool × Nat}, tagF l a f n bs = .ok r → f ≤ g → tagF l a g n bs = .ok r
  | 0, _, _, _, _, h, _ => by cases h
  | f + 1, 0, _, _, _, _, hg => by omega
  | f + 1, g + 1, n, bs, r, h, hg => by
    rw [tagF] at h ⊢
    split
    · rename_i h1; rw [if_pos h1] at h; exact h
    · rename_i h1
      rw [if_neg h1] at h
      split
      · rename_i h2; rw [if_pos h2] at h; exact h
      · rename_i h2
        rw [if_neg h2] at h
        split
        · rename_i h3; rw [if_pos h3] at h; exact h
        · rename_i h3
          rw [if_neg h3] at h
          split
          · rename_i h4; rw [if_pos h4] at h; exact h
          · rename_i h4
            rw [if_neg h4] at h
            cases ha : attAt l a (spEnd l n) with
            | error e => rw [ha] at h; exact h
            | ok p =>
              obtain ⟨b, e⟩ := p
              rw [ha] at h
              simp only at h ⊢
              split
              · rename_i h5; rw [if_pos h5] at h; exact h
              · rename_i h5; rw [if_neg h5] at h; exact tagF_more h (by omega)
theorem startAt_app {l : Bytes} {a : Nat} {t : Tok} {e : Nat} (y : Bytes) (h : startAt l a = .ok (t, e)) : startAt (l ++ y) a = .ok (t, e) := by
  unfold startAt at h ⊢
  by_cases h1 : nameLen (l.drop (a + 1)) = 0
  · rw [if_pos h1] at h; cases h
  rw [if_neg h1] at h
  have hk := nameLen_le (l.drop (a + 1))
  rw [List.length_drop] at hk
  unfold tagS at h ⊢
  cases ht : tagF l a (l.length + 1) (a + 1 + nameLen (l.drop (a + 1))) [] with
  | error q => rw [ht] at h; cases h
  | ok r =>
    obtain ⟨bs, em, x⟩ := r
    rw [ht] at h
    have h2 := tagF_app y _ _ _ _ (by omega) ht
    have hnm := nameLen_app y h2.2.1 h2.2.2
    have h3 := tagF_more (g := (l ++ y).length + 1) h2.1 (by simp)
    rw [hnm, if_neg h1, h3, drop_app (show a + 1 ≤ l.length by omega), List.take_append_of_le_length (nameLen_le _)]
    exact h
theorem endAt_app {l : Bytes} {a : Nat} {t : Tok} {e : Nat} (y : Bytes) (h : endAt l a = .ok (t, e)) : endAt (l ++ y) a = .ok (t, e) := by
  unfold endAt at h ⊢
  by_cases h1 : nameLen (l.drop (a + 2)) = 0
  · rw [if_pos h1] at h; cases h
  rw [if_neg h1] at h
  have hk := nameLen_le (l.drop (a + 2))
  rw [List.length_drop] at hk
  by_cases h2 : hasAt l (spEnd l (a + 2 + nameLen (l.drop (a + 2)))) [62] = true
  · rw [if_pos h2] at h
    have hlow := spEnd_low (by decide) h2
    have hnm := nameLen_app y hlow.1 hlow.2
    have hle := hasAt_le h2
    rw [hnm, if_neg h1, spEnd_app y (by simp at hle; omega), if_pos (hasAt_yes y (by simp) h2), drop_app (show a + 2 ≤ l.length by omega), List.take_append_of_le_length (nameLen_le _)]
    exact h
  · rw [if_neg h2] at h; cases h
theorem skipAt_app {l : Bytes} {a k e : Nat} {s : Bytes} (y : Bytes) (hs : s ≠ []) (h : skipAt l a k s = .ok e) : skipAt (l ++ y) a k s = .ok e := by
  have h0 := skipAt_ok hs h
  unfold skipAt at h ⊢
  cases hf : findS s (l.drop (a + k)) with
  | none => rw [hf] at h; cases h
  | some j =>
    rw [hf] at h
    rw [drop_app (by omega), findS_app y hf]
    exact h
theorem consAt_else {x : Bytes} {a : Nat} (h : ¬ hasAt x a sLt = true) : consAt x a = match cont false x a (textEnd x a) with | .error q => .error (q, 12) | .ok t => .ok (⟨3, [], [], false, t, a⟩, textEnd x a) := by
  have hh : ∀ s r, s = sLt ++ r → ¬ hasAt x a s = true := fun s r hs hr => h (hasAt_head (r := r) (hs ▸ hr))
  unfold consAt
  rw [if_neg (hh sPi [63] rfl), if_neg (hh sCom [33, 45, 45] rfl), if_neg (hh sCd [33, 91, 67, 68, 65, 84, 65, 91] rfl), if_neg (hh sDoc [33, 68, 79, 67, 84, 89, 80, 69] rfl), if_neg (hh sBang [33] rfl), if_neg (hh sEnd [47] rfl), if_neg h]
  rfl
/-- A construct that a '<' opens or ends. -/
theorem consAt_app {l : Bytes} {a : Nat} {t : Tok} {e : Nat} (y : Bytes) (ha : a < l.length) (hcl : hasAt l a sLt = true ∨ ∃ j, findS sLt (l.drop a) = some j) (h : consAt l a = .ok (t, e)) : consAt (l ++ y) a = .ok (t, e) := by
  have e7 : hasAt (l ++ y) a sLt = hasAt l a sLt := hasAt_app y (by simp [sLt]; omega)
  by_cases hlt : hasAt l a sLt = true
  · have h2 : a + 2 ≤ l.length := by
      rcases Nat.lt_or_ge (a + 1) l.length with h3 | h3
      · omega
      · exfalso
        have no : ∀ s : Bytes, 2 ≤ s.length → ¬ hasAt l a s = true := fun s hs h4 => by
          rcases hasAt_le h4 with h5 | h5
          · omega
          · subst h5; simp at hs
        unfold consAt at h
        rw [if_neg (no _ (by decide)), if_neg (no _ (by decide)), if_neg (no _ (by decide)), if_neg (no _ (by decide)), if_neg (no _ (by decide)), if_neg (no _ (by decide)), if_pos hlt] at h
        unfold startAt at h
        rw [List.drop_eq_nil_of_le (by omega), if_pos (show nameLen [] = 0 from rfl)] at h
        cases h
    have e1 : hasAt (l ++ y) a sPi = hasAt l a sPi := hasAt_app y (by simp [sPi]; omega)
    have e5 : hasAt (l ++ y) a sBang = hasAt l a sBang := hasAt_app y (by simp [sBang]; omega)
    have e6 : hasAt (l ++ y) a sEnd = hasAt l a sEnd := hasAt_app y (by simp [sEnd]; omega)
    have b2 : ∀ x, hasAt x a sCom = true → hasAt x a sBang = true := fun x hx => hasAt_head (s := sBang) (r := [45, 45]) hx
    have b3 : ∀ x, hasAt x a sCd = true → hasAt x a sBang = true := fun x hx => hasAt_head (s := sBang) (r := [91, 67, 68, 65, 84, 65, 91]) hx
    have b4 : ∀ x, hasAt x a sDoc = true → hasAt x a sBang = true := fun x hx => hasAt_head (s := sBang) (r := [68, 79, 67, 84, 89, 80, 69]) hx
    unfold consAt at h ⊢
    rw [e1, e5, e6, e7]
    by_cases h1 : hasAt l a sPi = true
    · rw [if_pos h1] at h ⊢
      cases hs : skipAt l a 2 sPiEnd with
      | error q => rw [hs] at h; cases h
      | ok x => rw [hs] at h; rw [skipAt_app y (by decide) hs]; exact h
    rw [if_neg h1] at h ⊢
    by_cases h5 : hasAt l a sBang = true
    · by_cases hc : hasAt l a sCom = true
      · rw [if_pos hc] at h
        rw [if_pos (hasAt_yes y (by decide) hc)]
        cases hs : skipAt l a 4 sComEnd with
        | error q => rw [hs] at h; cases h
        | ok x => rw [hs] at h; rw [skipAt_app y (by decide) hs]; exact h
      rw [if_neg hc] at h
      by_cases hd : hasAt l a sCd = true
      · rw [if_pos hd] at h
        have hle := hasAt_le hd
        have hle9 : a + 9 ≤ l.length := by simp [sCd] at hle; omega
        rw [if_neg (by rw [hasAt_app y (by simp [sCom]; omega)]; exact hc), if_pos (hasAt_yes y (by decide) hd)]
        cases hs : skipAt l a 9 sCdEnd with
        | error q => rw [hs] at h; cases h
        | ok x =>
          rw [hs] at h
          rw [skipAt_app y (by decide) hs]
          have hx := skipAt_ok (by decide) hs
          have : ((l ++ y).drop (a + 9)).take (x - 3 - (a + 9)) = (l.drop (a + 9)).take (x - 3 - (a + 9)) := by
            rw [drop_app hle9, List.take_append_of_le_length (by rw [List.length_drop]; omega)]
          simp only [Except.map] at h ⊢
          rw [this]; exact h
      · rw [if_neg hd] at h
        by_cases hdo : hasAt l a sDoc = true
        · rw [if_pos hdo] at h; cases h
        · rw [if_neg hdo, if_pos h5] at h; cases h
    · have n2 : ¬ hasAt l a sCom = true := fun x => h5 (b2 _ x)
      have n3 : ¬ hasAt l a sCd = true := fun x => h5 (b3 _ x)
      have n4 : ¬ hasAt l a sDoc = true := fun x => h5 (b4 _ x)
      have m2 : ¬ hasAt (l ++ y) a sCom = true := fun x => h5 (e5 ▸ b2 _ x)
      have m3 : ¬ hasAt (l ++ y) a sCd = true := fun x => h5 (e5 ▸ b3 _ x)
      have m4 : ¬ hasAt (l ++ y) a sDoc = true := fun x => h5 (e5 ▸ b4 _ x)
      rw [if_neg n2, if_neg n3, if_neg n4, if_neg h5] at h
      rw [if_neg m2, if_neg m3, if_neg m4, if_neg h5]
      by_cases h6 : hasAt l a sEnd = true
      · rw [if_pos h6] at h ⊢
        exact endAt_app y h
      · rw [if_neg h6, if_pos hlt] at h
        rw [if_neg h6, if_pos hlt]
        exact startAt_app y h
  · rw [consAt_else hlt] at h
    rw [consAt_else (by rw [e7]; exact hlt)]
    rcases hcl with h1 | ⟨j, hj⟩
    · exact absurd h1 hlt
    have ht : textEnd (l ++ y) a = textEnd l a := by
      unfold textEnd
      rw [drop_app (by omega), findS_app y hj, hj]
    rw [ht, cont_app y (textEnd_ge l a (by omega)).2]
    exact h
theorem tokF_fuel {l : Bytes} : ∀ (f g n : Nat) (ts : List Tok), n ≤ l.length → l.length < n + f → l.length < n + g → tokF l f n ts = tokF l g n ts
  | 0, _, n, ts, hn, hf, _ => by omega
  | f + 1, 0, n, ts, hn, _, hg => by omega
  | f + 1, g + 1, n, ts, hn, hf, hg => by
    rw [tokF, tokF]
    split
    · rename_i hlt
      cases hc : consAt l n with
      | error e => rfl
      | ok p =>
        obtain ⟨t, e⟩ := p
        have := consAt_ok hlt hc
        exact tokF_fuel f g e _ this.2 (by omega) (by omega)
    · rfl
theorem contS_some {v : Bool} : ∀ {l : Bytes} {n : Nat}, contS v 0 l n = .ok [] → l = []
  | [], n, _ => rfl
  | c :: t, n, h => by
    exfalso
    rw [contS] at h
    split at h
    · cases hr : tailRef t with
      | none => rw [hr] at h; cases h
      | some p =>
        obtain ⟨r, m⟩ := p
        rw [hr] at h
        simp only at h
        cases hx : contS v (m + 1) t (n + 1) with
        | error q => rw [hx] at h; cases h
        | ok x =>
          rw [hx] at h
          simp only [Except.map, Except.ok.injEq, List.append_eq_nil_iff] at h
          have := (enc_len r (isChar_ok (tailRef_char hr))).1
          rw [h.1] at this
          simp at this
    · split at h
      · rename_i h1
        have := contS_some h
        rw [this] at h1
        simp at h1
      · cases hx : contS v 0 t (n + 1) with
        | error q => rw [hx] at h; cases h
        | ok x =>
          rw [hx] at h
          simp [Except.map, blanks] at h
/-- The tokens of a document that no text ends, ahead of other bytes. -/
theorem tokF_app {l : Bytes} (y : Bytes) : ∀ (f n F : Nat) (ts ls : List Tok), n ≤ l.length → tokF l f n ts = .ok ls → (∀ t, ls.getLast? = some t → t.kind ≠ 3) → (l ++ y).length < n + F →
    ∃ G, tokF (l ++ y) F n ts = tokF (l ++ y) G l.length ls ∧ (l ++ y).length < l.length + G
  | 0, _, _, _, _, _, h, _, _ => by cases h
  | f + 1, n, 0, ts, ls, hn, h, hk, hF => by simp at hF; omega
  | f + 1, n, F + 1, ts, ls, hn, h, hk, hF => by
    rw [tokF] at h
    by_cases hlt : n < l.length
    · rw [if_pos hlt] at h
      cases hc : consAt l n with
      | error q => rw [hc] at h; cases h
      | ok p =>
        obtain ⟨t, e⟩ := p
        have h1 := consAt_ok hlt hc
        rw [hc] at h
        simp only at h
        have hcl : hasAt l n sLt = true ∨ ∃ j, findS sLt (l.drop n) = some j := by
          by_cases h2 : hasAt l n sLt = true
          · exact .inl h2
          cases h3 : findS sLt (l.drop n) with
          | some j => exact .inr ⟨j, rfl⟩
          | none =>
            exfalso
            rw [consAt_else h2] at hc
            have h4 : textEnd l n = l.length := by unfold textEnd; rw [h3]
            rw [h4] at hc
            cases hx : cont false l n l.length with
            | error q => rw [hx] at hc; cases hc
            | ok x =>
              rw [hx] at hc
              simp only [Except.ok.injEq, Prod.mk.injEq] at hc
              obtain ⟨rfl, rfl⟩ := hc
              have h5 : x ≠ [] := by
                rintro rfl
                unfold cont at hx
                have := contS_some hx
                rw [List.take_length] at this
                have h6 := congrArg List.length this
                rw [List.length_drop] at h6
                simp at h6; omega
              have h6 : keepTok ⟨3, [], [], false, x, n⟩ = true := by simp [keepTok, h5]
              rw [if_pos h6] at h
              cases f with
              | zero => cases h
              | succ f =>
                rw [tokF, if_neg (by omega)] at h
                cases h
                exact hk ⟨3, [], [], false, x, (n : Nat)⟩ (by simp) rfl
        rw [tokF, if_pos (by simp; omega), consAt_app y hlt hcl hc]
        simp only
        exact tokF_app y f e F _ ls h1.2 h hk (by omega)
    · obtain rfl : n = l.length := by omega
      rw [if_neg hlt] at h
      cases h
      exact ⟨F + 1, rfl, hF⟩
end Go.Proofs.YtclhdppppgjgfaaGreatDoor
set_option linter.unusedVariables false
namespace Go.Proofs.YtclhdppppgjgfaaGreatDoor

def shQ (d : Nat) (q : Nat × Nat) : Nat × Nat := (d + q.1, q.2)
def shA (d : Nat) (b : Att) : Att := ⟨b.space, b.name, b.value, b.pos + d⟩
def shT (d : Nat) (t : Tok) : Tok := ⟨t.kind, t.name, t.attrs.map (shA d), t.empty, t.text, t.pos + d⟩
def shE (d : Nat) : Except Nat Bytes → Except Nat Bytes
  | .error x => .error (d + x)
  | .ok s => .ok s
def shAt (d : Nat) : Except (Nat × Nat) (Att × Nat) → Except (Nat × Nat) (Att × Nat)
  | .error q => .error (shQ d q)
  | .ok (b, e) => .ok (shA d b, d + e)
def shTg (d : Nat) : Except (Nat × Nat) (List Att × Bool × Nat) → Except (Nat × Nat) (List Att × Bool × Nat)
  | .error q => .error (shQ d q)
  | .ok (bs, em, e) => .ok (bs.map (shA d), em, d + e)
def shTk (d : Nat) : Except (Nat × Nat) (Tok × Nat) → Except (Nat × Nat) (Tok × Nat)
  | .error q => .error (shQ d q)
  | .ok (t, e) => .ok (shT d t, d + e)
def shN (d : Nat) : Except (Nat × Nat) Nat → Except (Nat × Nat) Nat
  | .error q => .error (shQ d q)
  | .ok e => .ok (d + e)
theorem shE_map (d : Nat) (x : Except Nat Bytes) (f : Bytes → Bytes) : shE d (x.map f) = (shE d x).map f := by cases x <;> rfl

variable (p l : Bytes)
theorem hasAt_sh (n : Nat) (t : Bytes) : hasAt (p ++ l) (p.length + n) t = hasAt l n t := by unfold hasAt; rw [drop_sh]
theorem spEnd_sh (n : Nat) : spEnd (p ++ l) (p.length + n) = p.length + spEnd l n := by unfold spEnd; rw [drop_sh, Nat.add_assoc]
theorem valEnd_sh (q : UInt8) (n : Nat) : valEnd (p ++ l) q (p.length + n) = p.length + valEnd l q n := by unfold valEnd; rw [drop_sh, Nat.add_assoc]
theorem getD_sh (n : Nat) : (p ++ l).getD (p.length + n) 0 = l.getD n 0 := by
  rw [List.getD_eq_getElem?_getD, List.getD_eq_getElem?_getD, List.getElem?_append_right (by omega), Nat.add_sub_cancel_left]
theorem missing_sh (a n : Nat) : missing (p ++ l) (p.length + a) (p.length + n) = shQ p.length (missing l a n) := by
  unfold missing
  by_cases h : l.length ≤ n
  · rw [if_pos h, if_pos (by simp; omega)]; rfl
  · rw [if_neg h, if_neg (by simp; omega)]; rfl
theorem isQuote_sh (n : Nat) : isQuote (p ++ l) (p.length + n) = isQuote l n := by unfold isQuote; rw [hasAt_sh, hasAt_sh]
theorem contS_sh (v : Bool) (d : Nat) : ∀ (k : Nat) (l : Bytes) (n : Nat), contS v k l (d + n) = shE d (contS v k l n)
  | 0, [], n => rfl
  | k + 1, [], n => rfl
  | k + 1, _ :: t, n => by
    rw [contS, contS, show d + n + 1 = d + (n + 1) by omega]
    exact contS_sh v d k t (n + 1)
  | 0, c :: t, n => by
    rw [contS, contS, show d + n + 1 = d + (n + 1) by omega]
    split
    · cases hr : tailRef t with
      | none => rfl
      | some q =>
        obtain ⟨r, m⟩ := q
        simp only
        rw [contS_sh v d, shE_map]
    · split
      · exact contS_sh v d 0 t (n + 1)
      · rw [contS_sh v d, shE_map]
theorem cont_sh (v : Bool) (a b : Nat) : cont v (p ++ l) (p.length + a) (p.length + b) = shE p.length (cont v l a b) := by
  unfold cont
  rw [take_sh, drop_sh, contS_sh]
theorem valAt_sh (a : Nat) (nm : Bytes) (x : Nat) (q : UInt8) (n : Nat) : valAt (p ++ l) (p.length + a) nm (p.length + x) q (p.length + n) = shAt p.length (valAt l a nm x q n) := by
  unfold valAt
  rw [valEnd_sh, cont_sh]
  cases cont true l n (valEnd l q n) with
  | error e => rfl
  | ok v =>
    simp only [shE]
    by_cases h : valEnd l q n = l.length
    · rw [if_pos h, if_pos (by simp; omega)]; rfl
    · rw [if_neg h, if_neg (by simp; omega), getD_sh]
      by_cases h2 : l.getD (valEnd l q n) 0 = 60
      · rw [if_pos h2, if_pos h2]; rfl
      · rw [if_neg h2, if_neg h2]
        simp only [shAt, shA]
        rw [show ((p.length + x : Nat) : Int) = (x : Int) + p.length by omega, Nat.add_assoc]
theorem attAt_sh (a n : Nat) : attAt (p ++ l) (p.length + a) (p.length + n) = shAt p.length (attAt l a n) := by
  unfold attAt
  rw [drop_sh]
  generalize hk : nameLen (l.drop n) = k
  rw [Nat.add_assoc, spEnd_sh, Nat.add_assoc, spEnd_sh, Nat.add_assoc, hasAt_sh, missing_sh, isQuote_sh, missing_sh, missing_sh, getD_sh, valAt_sh]
  by_cases h1 : k = 0
  · rw [if_pos h1, if_pos h1]; rfl
  rw [if_neg h1, if_neg h1]
  by_cases h2 : hasAt l (spEnd l (n + k)) [61] = false
  · rw [if_pos h2, if_pos h2]; rfl
  rw [if_neg h2, if_neg h2]
  by_cases h3 : isQuote l (spEnd l (spEnd l (n + k) + 1)) = false
  · rw [if_pos h3, if_pos h3]; rfl
  rw [if_neg h3, if_neg h3]
theorem tagF_sh (a : Nat) : ∀ (f n : Nat) (bs : List Att), n ≤ l.length → l.length < n + f → tagF (p ++ l) (p.length + a) f (p.length + n) (bs.map (shA p.length)) = shTg p.length (tagF l a f n bs)
  | 0, n, bs, hn, hf => by omega
  | f + 1, n, bs, hn, hf => by
    rw [tagF, tagF, spEnd_sh, hasAt_sh, hasAt_sh, hasAt_sh, attAt_sh, Nat.add_assoc, Nat.add_assoc, missing_sh, missing_sh]
    by_cases h1 : hasAt l (spEnd l n) [62] = true
    · rw [if_pos h1, if_pos h1]; rfl
    rw [if_neg h1, if_neg h1]
    by_cases h2 : hasAt l (spEnd l n) [47, 62] = true
    · rw [if_pos h2, if_pos h2]; rfl
    rw [if_neg h2, if_neg h2]
    by_cases h3 : hasAt l (spEnd l n) [47] = true
    · rw [if_pos h3, if_pos h3]; rfl
    rw [if_neg h3, if_neg h3]
    by_cases h4 : spEnd l n = n
    · rw [if_pos h4, if_pos (by omega)]; rfl
    rw [if_neg h4, if_neg (by omega)]
    cases ha : attAt l a (spEnd l n) with
    | error q => rfl
    | ok r =>
      obtain ⟨b, e⟩ := r
      have h5 := attAt_ok (spEnd_le hn) ha
      have h6 := spEnd_ge l n
      simp only [shAt]
      have hany : (bs.map (shA p.length)).any (fun c => c.name == (shA p.length b).name) = bs.any (fun c => c.name == b.name) := by rw [List.any_map]; rfl
      rw [hany]
      by_cases h7 : bs.any (fun c => c.name == b.name) = true
      · rw [if_pos h7, if_pos h7]; rfl
      · rw [if_neg h7, if_neg h7, ← tagF_sh a f e (bs ++ [b]) h5.2.1 (by omega)]
        simp
theorem tagS_sh (a m : Nat) (hm : m ≤ l.length) : tagS (p ++ l) (p.length + a) (p.length + m) [] = shTg p.length (tagS l a m []) := by
  unfold tagS
  have := tagF_sh p l a ((p ++ l).length + 1) m [] hm (by simp; omega)
  rw [tagF_fuel (l := l) _ (l.length + 1) _ _ hm (by simp; omega) (by omega)] at this
  exact this
theorem startAt_sh (a : Nat) : startAt (p ++ l) (p.length + a) = shTk p.length (startAt l a) := by
  unfold startAt
  rw [Nat.add_assoc, drop_sh, missing_sh]
  by_cases h1 : nameLen (l.drop (a + 1)) = 0
  · rw [if_pos h1, if_pos h1]; rfl
  rw [if_neg h1, if_neg h1]
  have hk := nameLen_le (l.drop (a + 1))
  rw [List.length_drop] at hk
  rw [Nat.add_assoc, tagS_sh _ _ _ _ (by omega)]
  cases tagS l a (a + 1 + nameLen (l.drop (a + 1))) [] with
  | error q => rfl
  | ok r =>
    obtain ⟨bs, em, e⟩ := r
    simp only [shTg, shTk, shT]
    rw [show ((p.length + a : Nat) : Int) = (a : Int) + p.length by omega]
theorem endAt_sh (a : Nat) : endAt (p ++ l) (p.length + a) = shTk p.length (endAt l a) := by
  unfold endAt
  rw [Nat.add_assoc, drop_sh]
  generalize hk : nameLen (l.drop (a + 2)) = k
  rw [Nat.add_assoc, spEnd_sh, hasAt_sh, missing_sh, missing_sh]
  by_cases h1 : k = 0
  · rw [if_pos h1, if_pos h1]; rfl
  rw [if_neg h1, if_neg h1]
  by_cases h2 : hasAt l (spEnd l (a + 2 + k)) [62] = true
  · rw [if_pos h2, if_pos h2]
    simp only [shTk, shT]
    rw [show ((p.length + a : Nat) : Int) = (a : Int) + p.length by omega, Nat.add_assoc]
    rfl
  · rw [if_neg h2, if_neg h2]; rfl
theorem skipAt_sh (a k : Nat) (s : Bytes) : skipAt (p ++ l) (p.length + a) k s = shN p.length (skipAt l a k s) := by
  unfold skipAt
  rw [Nat.add_assoc, drop_sh]
  cases findS s (l.drop (a + k)) with
  | none => rfl
  | some j => simp only [shN]; congr 1; omega
theorem textEnd_sh (a : Nat) : textEnd (p ++ l) (p.length + a) = p.length + textEnd l a := by
  unfold textEnd
  rw [drop_sh]
  cases findS sLt (l.drop a) with
  | none => simp
  | some j => simp only; omega
/-- A construct behind other bytes. -/
def ShC (d : Nat) (R R' : Except (Nat × Nat) (Tok × Nat)) : Prop :=
  match R with
  | .error q => R' = .error (shQ d q)
  | .ok (t, e) => ∃ t', R' = .ok (t', d + e) ∧ keepTok t' = keepTok t ∧ (keepTok t = true → t' = shT d t)
theorem ShC.of {d : Nat} {R R' : Except (Nat × Nat) (Tok × Nat)} (h : R' = shTk d R) : ShC d R R' := by
  subst h
  cases R with
  | error q => rfl
  | ok r => obtain ⟨t, e⟩ := r; exact ⟨shT d t, rfl, rfl, fun _ => rfl⟩
theorem ShC.skip {d : Nat} {R R' : Except (Nat × Nat) Nat} (h : R' = shN d R) : ShC d (R.map fun e => (zTok 3, e)) (R'.map fun e => (zTok 3, e)) := by
  subst h
  cases R with
  | error q => rfl
  | ok e => exact ⟨zTok 3, rfl, rfl, fun h => by simp [keepTok, zTok] at h⟩
theorem consAt_sh (a : Nat) : ShC p.length (consAt l a) (consAt (p ++ l) (p.length + a)) := by
  unfold consAt
  simp only [hasAt_sh]
  by_cases h1 : hasAt l a sPi = true
  · rw [if_pos h1, if_pos h1]; exact .skip (skipAt_sh p l a 2 _)
  rw [if_neg h1, if_neg h1]
  by_cases h2 : hasAt l a sCom = true
  · rw [if_pos h2, if_pos h2]; exact .skip (skipAt_sh p l a 4 _)
  rw [if_neg h2, if_neg h2]
  by_cases h3 : hasAt l a sCd = true
  · rw [if_pos h3, if_pos h3, skipAt_sh]
    refine .of ?_
    cases hs : skipAt l a 9 sCdEnd with
    | error q => rfl
    | ok e =>
      have he := skipAt_ok (by decide) hs
      simp [sCdEnd] at he
      simp only [shN, Except.map, shTk, shT]
      rw [Nat.add_assoc, drop_sh, show p.length + e - 3 - (p.length + (a + 9)) = e - 3 - (a + 9) by omega, show ((p.length + a : Nat) : Int) = (a : Int) + p.length by omega]
      rfl
  rw [if_neg h3, if_neg h3]
  by_cases h4 : hasAt l a sDoc = true
  · rw [if_pos h4, if_pos h4]; exact .of rfl
  rw [if_neg h4, if_neg h4]
  by_cases h5 : hasAt l a sBang = true
  · rw [if_pos h5, if_pos h5]; exact .of rfl
  rw [if_neg h5, if_neg h5]
  by_cases h6 : hasAt l a sEnd = true
  · rw [if_pos h6, if_pos h6]; exact .of (endAt_sh p l a)
  rw [if_neg h6, if_neg h6]
  by_cases h7 : hasAt l a sLt = true
  · rw [if_pos h7, if_pos h7]; exact .of (startAt_sh p l a)
  rw [if_neg h7, if_neg h7, textEnd_sh, cont_sh]
  refine .of ?_
  cases cont false l a (textEnd l a) with
  | error q => rfl
  | ok x =>
    simp only [shE, shTk, shT]
    rw [show ((p.length + a : Nat) : Int) = (a : Int) + p.length by omega]
    rfl
theorem tokF_sh (ts0 : List Tok) : ∀ (f n : Nat) (us : List Tok), n ≤ l.length → l.length < n + f → tokF (p ++ l) f (p.length + n) (ts0 ++ us.map (shT p.length)) =
    match tokF l f n us with
    | .error q => .error (shQ p.length q)
    | .ok ls => .ok (ts0 ++ ls.map (shT p.length))
  | 0, n, us, hn, hf => by omega
  | f + 1, n, us, hn, hf => by
    rw [tokF, tokF]
    by_cases hlt : n < l.length
    · rw [if_pos hlt, if_pos (by simp; omega)]
      have hsh := consAt_sh p l n
      cases hc : consAt l n with
      | error q =>
        rw [hc] at hsh
        rw [show consAt (p ++ l) (p.length + n) = _ from hsh]
      | ok r =>
        obtain ⟨t, e⟩ := r
        have h1 := consAt_ok hlt hc
        rw [hc] at hsh
        obtain ⟨t', h2, h3, h4⟩ := hsh
        rw [h2]
        simp only
        rw [h3, ← tokF_sh ts0 f e (if keepTok t = true then us ++ [t] else us) h1.2 (by omega)]
        by_cases hk : keepTok t = true
        · rw [if_pos hk, if_pos hk, h4 hk]; simp
        · rw [if_neg hk, if_neg hk]
    · rw [if_neg hlt, if_neg (by simp; omega)]
theorem bom_app {s t : Bytes} (hs : (check s).2 = 0) (h0 : s ≠ []) : hasAt (s ++ t) 0 sBom = hasAt s 0 sBom := by
  match s, hs, h0 with
  | [], _, h0 => exact absurd rfl h0
  | [a], hs, _ =>
    have : a ≠ 239 := by rintro rfl; revert hs; decide
    simp [hasAt, sBom, List.isPrefixOf, Ne.symm this]
  | [a, b], hs, _ =>
    have : ¬ (a = 239 ∧ b = 187) := by rintro ⟨rfl, rfl⟩; revert hs; decide
    rw [Bool.eq_iff_iff]
    simp [hasAt, sBom, List.isPrefixOf]
    intro h1 h2
    exact absurd ⟨h1.symm, h2.symm⟩ this
  | a :: b :: c :: x, _, _ => exact hasAt_app t (by simp [sBom])
/-- The tokens of two documents in sequence. -/
theorem toks_app {s t : Bytes} {ls : List Tok} (hs : toks s = (ls, s.length, 0)) (hne : ls ≠ []) (hk : ∀ t, ls.getLast? = some t → t.kind ≠ 3) (ht : hasAt t 0 sBom = false) :
    toks (s ++ t) = if (toks t).2.2 = 0 then (ls ++ (toks t).1.map (shT s.length), s.length + t.length, 0) else ([], s.length + (toks t).2.1, (toks t).2.2) := by
  unfold toks at hs
  by_cases h1 : (check s).2 = 0
  · rw [if_neg (by simp [h1])] at hs
    have hc := check_app h1 t
    cases hq : tokS s (if hasAt s 0 sBom = true then 3 else 0) [] with
    | error q =>
      rw [hq] at hs
      simp only [Prod.mk.injEq] at hs
      exact absurd hs.1.symm hne
    | ok ls' =>
      rw [hq] at hs
      simp only [Prod.mk.injEq] at hs
      obtain ⟨rfl, _⟩ := hs
      have hs0 : s ≠ [] := by
        rintro rfl
        rw [show tokS [] (if hasAt [] 0 sBom = true then 3 else 0) [] = .ok [] from rfl] at hq
        cases hq; exact hne rfl
      unfold toks
      rw [hc]
      by_cases h2 : (check t).2 = 0
      · rw [if_neg (show ¬ ((s.length + (check t).1, (check t).2) : Nat × Nat).2 ≠ 0 by simp [h2]), if_neg (show ¬ (check t).2 ≠ 0 by simp [h2]), bom_app h1 hs0, ht]
        have hz : (if hasAt s 0 sBom = true then 3 else 0) ≤ s.length := by
          split
          · rename_i h
            have := hasAt_le h
            simp [sBom] at this; omega
          · omega
        unfold tokS at hq ⊢
        obtain ⟨G, hG, hG2⟩ := tokF_app t _ _ ((s ++ t).length + 1) _ _ hz hq hk (by omega)
        rw [hG]
        have h3 := tokF_sh s t ls' G 0 [] (Nat.zero_le _) (by simp at hG2; omega)
        simp only [List.map_nil, List.append_nil, Nat.add_zero] at h3
        rw [h3, tokF_fuel (l := t) G (t.length + 1) 0 [] (Nat.zero_le _) (by simp at hG2; omega) (by omega)]
        simp only [Bool.false_eq_true, if_false]
        cases hw : tokF t (t.length + 1) 0 [] with
        | error q =>
          have := tokF_err _ _ _ _ (Nat.zero_le _) (by omega) hw
          simp only [shQ]
          rw [if_neg this]
        | ok us =>
          simp
      · rw [if_pos h2, if_pos h2]
        simp only
        rw [if_neg h2]
  · rw [if_pos h1] at hs
    simp only [Prod.mk.injEq] at hs
    exact absurd hs.1.symm hne
end Go.Proofs.YtclhdppppgjgfaaGreatDoor
set_option linter.unusedVariables false
namespace Go.Proofs.YtclhdppppgjgfaaGreatDoor

def charsOk (l : Bytes) : Bool := (check l).2 == 0
def attsOkS : List Bytes → List Att → Bool
  | _, [] => true
  | seen, a :: l => a.space == [] && !seen.contains a.name && isQName a.name && charsOk a.value && attsOkS (a.name :: seen) l
def attsOk (l : List Att) : Bool := attsOkS [] l
/-- Valid character data. -/
def dataOk (n : Node) : Bool := n.text != [] && charsOk n.text && n.space == [] && n.name == [] && n.attrs.length == 0 && n.kids.length == 0
/-- What is asked of an element itself. -/
def headOk (n : Node) : Bool := n.kind == 0 && n.space == [] && n.text == [] && isQName n.name && attsOk n.attrs
mutual
/-- A valid element; 'lim': with the nesting limit. -/
def vld (lim : Bool) : Node → Nat → Bool
  | .mk k s nm ats ks t p, d => !(lim && decide (100 < d)) && headOk (.mk k s nm ats ks t p) && vldL lim ks d false
def vldL (lim : Bool) : List Node → Nat → Bool → Bool
  | [], _, _ => true
  | k :: ks, d, data => (if k.kind == 1 then !data && dataOk k else vld lim k (d + 1)) && vldL lim ks d (k.kind == 1)
end
theorem vld_eq (lim : Bool) (n : Node) (d : Nat) : vld lim n d = (!(lim && decide (100 < d)) && headOk n && vldL lim n.kids d false) := by cases n; rw [vld]; rfl
theorem vldL_step {lim : Bool} {ks : List Node} {d i : Nat} {data : Bool} (hi : i < ks.length) :
    vldL lim (ks.drop i) d data = ((if ks[i].kind == 1 then !data && dataOk ks[i] else vld lim ks[i] (d + 1)) && vldL lim (ks.drop (i + 1)) d (ks[i].kind == 1)) := by
  rw [List.drop_eq_getElem_cons hi, vldL]
theorem attsOkS_step {l : List Att} {i : Nat} {seen : List Bytes} (hi : i < l.length) :
    attsOkS seen (l.drop i) = (l[i].space == [] && !seen.contains l[i].name && isQName l[i].name && charsOk l[i].value && attsOkS (l[i].name :: seen) (l.drop (i + 1))) := by
  rw [List.drop_eq_getElem_cons hi, attsOkS]
theorem attsOkS_perm : ∀ (l : List Att) (s1 s2 : List Bytes), (∀ x, x ∈ s1 ↔ x ∈ s2) → attsOkS s1 l = attsOkS s2 l
  | [], _, _, _ => by rw [attsOkS, attsOkS]
  | a :: l, s1, s2, h => by
    rw [attsOkS, attsOkS]
    have h1 : s1.contains a.name = s2.contains a.name := by rw [Bool.eq_iff_iff]; simp [h]
    rw [h1, attsOkS_perm l (a.name :: s1) (a.name :: s2) (fun x => by simp [h])]
end Go.Proofs.YtclhdppppgjgfaaGreatDoor
set_option linter.unusedVariables false
namespace Go.Proofs.YtclhdppppgjgfaaGreatDoor

/-- An attribute's canonical form. -/
def attC (a : Att) : Bytes := [32] ++ a.name ++ [61, 34] ++ esc true a.value ++ [34]
def attsC : List Att → Bytes
  | [] => []
  | a :: l => attC a ++ attsC l
mutual
/-- A node's canonical form. -/
def canon : Node → Bytes
  | .mk k s nm ats ks t p => if k = 1 then esc false t else [60] ++ nm ++ attsC ats ++ (if ks.length = 0 then [47, 62] else [62] ++ canonL ks ++ [60, 47] ++ nm ++ [62])
def canonL : List Node → Bytes
  | [] => []
  | k :: ks => canon k ++ canonL ks
end
theorem canon_text {n : Node} (h : n.kind = 1) : canon n = esc false n.text := by
  cases n; simp only [Node.kind, Node.text] at *; rw [canon, if_pos h]
theorem canon_elem {n : Node} (h : ¬ n.kind = 1) : canon n = [60] ++ n.name ++ attsC n.attrs ++ (if n.kids.length = 0 then [47, 62] else [62] ++ canonL n.kids ++ [60, 47] ++ n.name ++ [62]) := by
  cases n; simp only [Node.kind, Node.name, Node.attrs, Node.kids] at *; rw [canon, if_neg h]; rfl
theorem attsC_step {l : List Att} {i : Nat} (hi : i < l.length) : attsC (l.drop i) = attC l[i] ++ attsC (l.drop (i + 1)) := by
  rw [List.drop_eq_getElem_cons hi, attsC]
theorem canonL_step {l : List Node} {i : Nat} (hi : i < l.length) : canonL (l.drop i) = canon l[i] ++ canonL (l.drop (i + 1)) := by
  rw [List.drop_eq_getElem_cons hi, canonL]
/-- The line ahead of every document. -/
def header : Bytes := [60, 63, 120, 109, 108, 32, 118, 101, 114, 115, 105, 111, 110, 61, 34, 49, 46, 48, 34, 32, 101, 110, 99, 111, 100, 105, 110, 103, 61, 34, 85, 84, 70, 45, 56, 34, 63, 62, 10]
/-- The whole document. -/
def doc (n : Node) : Bytes := header ++ canon n ++ [10]
end Go.Proofs.YtclhdppppgjgfaaGreatDoor
set_option linter.unusedVariables false
namespace Go.Proofs.YtclhdppppgjgfaaGreatDoor

mutual
theorem vld_any : ∀ (n : Node) (d e : Nat), vld false n d = vld false n e
  | .mk k s nm ats ks t p, d, e => by
    rw [vld, vld, vldL_any ks d e false]; simp
theorem vldL_any : ∀ (ks : List Node) (d e : Nat) (b : Bool), vldL false ks d b = vldL false ks e b
  | [], _, _, _ => by rw [vldL, vldL]
  | k :: ks, d, e, b => by rw [vldL, vldL, vld_any k (d + 1) (e + 1), vldL_any ks d e]
end
end Go.Proofs.YtclhdppppgjgfaaGreatDoor
set_option linter.unusedVariables false
namespace Go.Proofs.YtclhdppppgjgfaaGreatDoor

/-! Bytes of names. -/
/-- The bytes that end a name within a tag. -/
def sep (c : UInt8) : Bool := c.toNat == 32 || c.toNat == 34 || c.toNat == 47 || c.toNat == 60 || c.toNat == 61 || c.toNat == 62
theorem enc_byte {r : Nat} (h : okRune r) : ∀ x ∈ enc r, x.toNat = r ∧ r < 128 ∨ 128 ≤ x.toNat := by
  unfold enc
  rw [if_neg (by simpa using h)]
  unfold okRune at h
  intro x hx
  by_cases h1 : r < 128
  · rw [if_pos h1] at hx
    simp only [List.mem_cons, List.not_mem_nil, or_false] at hx
    subst hx
    exact .inl ⟨u8_of (by omega), h1⟩
  · rw [if_neg h1] at hx
    right
    by_cases h2 : r < 2048
    · rw [if_pos h2] at hx
      simp only [List.mem_cons, List.not_mem_nil, or_false] at hx
      rcases hx with rfl | rfl <;> rw [u8_of (by omega)] <;> omega
    · rw [if_neg h2] at hx
      by_cases h3 : r < 65536
      · rw [if_pos h3] at hx
        simp only [List.mem_cons, List.not_mem_nil, or_false] at hx
        rcases hx with rfl | rfl | rfl <;> rw [u8_of (by omega)] <;> omega
      · rw [if_neg h3] at hx
        simp only [List.mem_cons, List.not_mem_nil, or_false] at hx
        rcases hx with rfl | rfl | rfl | rfl <;> rw [u8_of (by omega)] <;> omega
/-! Splitting at the first byte of some kind. -/
/-! Escaping. -/
theorem escOne_cases (a : Bool) (c : UInt8) : (escOne a c = [c] ∧ rep a c = []) ∨ (escOne a c = rep a c ∧ rep a c ≠ []) := by
  unfold escOne
  by_cases h : rep a c = []
  · left; rw [if_pos h]; exact ⟨rfl, h⟩
  · right; rw [if_neg h]; exact ⟨rfl, h⟩
theorem rep_cases (a : Bool) (c : UInt8) : rep a c = [] ∧ c.toNat ≠ 38 ∧ c.toNat ≠ 60 ∧ (a = true → c.toNat ≠ 34) ∨ rep a c = [38, 97, 109, 112, 59] ∧ c.toNat = 38 ∨ rep a c = [38, 108, 116, 59] ∧ c.toNat = 60 ∨ rep a c = [38, 103, 116, 59] ∧ c.toNat = 62 ∨ rep a c = [38, 35, 49, 51, 59] ∧ c.toNat = 13 ∨ rep a c = [38, 113, 117, 111, 116, 59] ∧ c.toNat = 34 ∨ rep a c = [38, 35, 57, 59] ∧ c.toNat = 9 ∨ rep a c = [38, 35, 49, 48, 59] ∧ c.toNat = 10 := by
  unfold rep
  by_cases h1 : c.toNat = 38
  · simp [h1]
  by_cases h2 : c.toNat = 60
  · simp [h2]
  by_cases h3 : c.toNat = 62
  · simp [h3]
  by_cases h4 : c.toNat = 13
  · simp [h4]
  by_cases h5 : a = true ∧ c.toNat = 34
  · simp [h5]
  by_cases h6 : a = true ∧ c.toNat = 9
  · simp [h6]
  by_cases h7 : a = true ∧ c.toNat = 10
  · simp [h7]
  left
  rw [if_neg h1, if_neg h2, if_neg h3, if_neg h4, if_neg h5, if_neg h6, if_neg h7]
  exact ⟨rfl, h1, h2, fun ha e => h5 ⟨ha, e⟩⟩
theorem escOne_bytes (a : Bool) (c : UInt8) : ∀ x ∈ escOne a c, x.toNat ≠ 60 ∧ (a = true → x.toNat ≠ 34) := by
  intro x hx
  rcases escOne_cases a c with ⟨h, hr⟩ | ⟨h, hr⟩
  · rw [h] at hx
    simp only [List.mem_cons, List.not_mem_nil, or_false] at hx
    subst hx
    rcases rep_cases a x with h | h | h | h | h | h | h | h
    · exact ⟨h.2.2.1, h.2.2.2⟩
    all_goals (rw [hr] at h; exact absurd h.1 (by simp))
  · rw [h] at hx
    rcases rep_cases a c with h | h | h | h | h | h | h | h
    · exact absurd h.1 hr
    all_goals
      rw [h.1] at hx
      simp only [List.mem_cons, List.not_mem_nil, or_false] at hx
      rcases hx with rfl | rfl | rfl | rfl | rfl | rfl <;> simp
theorem esc_bytes (a : Bool) (l : Bytes) : ∀ x ∈ esc a l, x.toNat ≠ 60 ∧ (a = true → x.toNat ≠ 34) := by
  intro x hx
  unfold esc at hx
  rw [List.mem_flatMap] at hx
  obtain ⟨c, _, hc⟩ := hx
  exact escOne_bytes a c x hc
theorem escOne_ne (a : Bool) (c : UInt8) : escOne a c ≠ [] := by
  rcases escOne_cases a c with ⟨h, hr⟩ | ⟨h, hr⟩ <;> rw [h]
  · simp
  · exact hr
theorem esc_nil (a : Bool) {l : Bytes} (h : l ≠ []) : esc a l ≠ [] := by
  cases l with
  | nil => exact absurd rfl h
  | cons c l => simp only [esc, List.flatMap_cons]; intro e; rw [List.append_eq_nil_iff] at e; exact escOne_ne a c e.1

/-! The canonical form of attributes. -/
theorem attsOkS_of : ∀ {l : List Att} {s : List Bytes}, attsOkS s l = true → ∀ a ∈ l, a.space = [] ∧ isQName a.name = true
  | [], _, _, a, ha => by simp at ha
  | x :: l, s, h, a, ha => by
    rw [attsOkS] at h
    simp only [Bool.and_eq_true] at h
    rcases List.mem_cons.1 ha with rfl | ha
    · exact ⟨by simpa using h.1.1.1.1, h.1.1.2⟩
    · exact attsOkS_of h.2 a ha
theorem attC_form (a : Att) (r : Bytes) : attC a ++ r = 32 :: (a.name ++ 61 :: 34 :: (esc true a.value ++ 34 :: r)) := by
  simp [attC]
/-! The canonical form of a valid tree tells the tree. -/
theorem vld_head {lim : Bool} {n : Node} {d : Nat} (h : vld lim n d = true) : n.kind = 0 ∧ n.space = [] ∧ n.text = [] ∧ isQName n.name = true ∧ attsOk n.attrs = true ∧ vldL lim n.kids d false = true := by
  rw [vld_eq] at h
  simp only [Bool.and_eq_true, headOk, beq_iff_eq] at h
  obtain ⟨⟨_, ⟨⟨⟨h1, h2⟩, h3⟩, h4⟩, h5⟩, h6⟩ := h
  exact ⟨h1, h2, h3, h4, h5, h6⟩
theorem canon_vld {lim : Bool} {n : Node} {d : Nat} (h : vld lim n d = true) (r : Bytes) : canon n ++ r = 60 :: (n.name ++ (attsC n.attrs ++ (if n.kids.length = 0 then 47 :: 62 :: r else 62 :: (canonL n.kids ++ 60 :: 47 :: (n.name ++ 62 :: r))))) := by
  have hk := (vld_head h).1
  rw [canon_elem (by rw [hk]; decide)]
  split <;> simp
theorem data_form {k : Node} (h : dataOk k = true) : k.text ≠ [] ∧ k.space = [] ∧ k.name = [] ∧ k.attrs = [] ∧ k.kids = [] := by
  unfold dataOk at h
  simp only [Bool.and_eq_true, bne_iff_ne, beq_iff_eq] at h
  obtain ⟨⟨⟨⟨⟨h1, _⟩, h2⟩, h3⟩, h4⟩, h5⟩ := h
  exact ⟨h1, h2, h3, List.eq_nil_of_length_eq_zero h4, List.eq_nil_of_length_eq_zero h5⟩
theorem starts {ks : List Node} {d : Nat} {r : Bytes} (h : vldL false ks d true = true) : ∃ t, canonL ks ++ 60 :: r = 60 :: t := by
  cases ks with
  | nil => exact ⟨r, by simp [canonL]⟩
  | cons k ks =>
    rw [vldL] at h
    split at h
    · simp at h
    · simp only [Bool.and_eq_true] at h
      rw [canonL, List.append_assoc, canon_vld h.1]
      exact ⟨_, rfl⟩
theorem attsC_eqv : ∀ {l m : List Att}, l.length = m.length → attsEqv false l m = true → attsC l = attsC m
  | [], [], _, _ => rfl
  | [], b :: m, h, _ => by simp at h
  | a :: l, [], h, _ => by simp at h
  | a :: l, b :: m, h, he => by
    rw [attsEqv] at he
    simp only [Bool.and_eq_true, attEqv, beq_iff_eq] at he
    obtain ⟨⟨⟨⟨_, h1⟩, h2⟩, _⟩, h3⟩ := he
    rw [attsC, attsC, attsC_eqv (by simpa using h) h3, attC, attC, h1, h2]
mutual
theorem canon_eqv : ∀ (n m : Node), eqv false n m = true → canon n = canon m
  | .mk k s nm ats ks t p, m, h => by
    rw [eqv] at h
    simp only [Bool.and_eq_true, headEqv, beq_iff_eq] at h
    obtain ⟨⟨⟨⟨⟨⟨⟨⟨h1, h2⟩, h3⟩, h4⟩, _⟩, h5⟩, h6⟩, h7⟩, h8⟩ := h
    have ea := attsC_eqv h5 h7
    have ek := canonL_eqv ks m.kids h6 h8
    obtain ⟨k', s', nm', ats', ks', t', p'⟩ := m
    simp only [Node.kind, Node.space, Node.name, Node.attrs, Node.kids, Node.text] at *
    rw [canon, canon, h1, h3, h4, h6, ea, ek]
theorem canonL_eqv : ∀ (ks ms : List Node), ks.length = ms.length → kidsEqv false ks ms = true → canonL ks = canonL ms
  | [], [], _, _ => rfl
  | [], b :: m, h, _ => by simp at h
  | k :: ks, [], h, _ => by simp at h
  | k :: ks, m :: ms, h, he => by
    rw [kidsEqv] at he
    simp only [Bool.and_eq_true] at he
    rw [canonL, canonL, canon_eqv k m he.1, canonL_eqv ks ms (by simpa using h) he.2]
end
/-! Validity with the limit: validity without it, and the depth. -/
mutual
theorem vld_depth : ∀ (n : Node) (d : Nat), n.kind ≠ 1 → vld true n d = (vld false n d && decide (d + depth n ≤ 101))
  | .mk k s nm ats ks t p, d, hk => by
    have hk' : ¬ k = 1 := hk
    rw [vld, vld, depth, if_neg hk', vldL_depth ks d false]
    cases headOk (.mk k s nm ats ks t p)
    · simp
    · cases hv : vldL false ks d false
      · simp
      · have e : ∀ D, d + (D + 1) ≤ 101 ↔ d ≤ 100 ∧ d + D ≤ 100 := by omega
        rw [Bool.eq_iff_iff]
        simp [e]
        omega
theorem vldL_depth : ∀ (ks : List Node) (d : Nat) (b : Bool), vldL true ks d b = (vldL false ks d b && decide (depthL ks 0 = 0 ∨ d + depthL ks 0 ≤ 100))
  | [], d, b => by rw [vldL, vldL, depthL]; simp
  | k :: ks, d, b => by
    rw [vldL, vldL, depthL, depthL_max, vldL_depth ks d]
    by_cases h : k.kind = 1
    · have h0 : depth k = 0 := by rw [depth_eq, if_pos h]
      have h1 : (k.kind == 1) = true := by rw [h]; rfl
      rw [h1, h0, Nat.max_self, Nat.zero_max]
      simp only [if_true, Bool.and_assoc]
    · have h1 : (k.kind == 1) = false := by rw [beq_eq_false_iff_ne]; exact h
      rw [h1]
      simp only [Bool.false_eq_true, if_false]
      rw [vld_depth k (d + 1) h]
      have hpos : 1 ≤ depth k := by rw [depth_eq, if_neg h]; omega
      rw [Bool.eq_iff_iff]
      simp only [Bool.and_eq_true, decide_eq_true_eq]
      generalize depth k = x at *
      generalize depthL ks 0 = y at *
      have e : (d + 1 + x ≤ 101 ∧ (y = 0 ∨ d + y ≤ 100)) ↔ (max (max 0 x) y = 0 ∨ d + max (max 0 x) y ≤ 100) := by omega
      rw [← e]
      constructor
      · rintro ⟨⟨a, b⟩, c, d⟩; exact ⟨⟨a, c⟩, b, d⟩
      · rintro ⟨⟨a, c⟩, b, d⟩; exact ⟨⟨a, b⟩, c, d⟩
theorem depthL_max : ∀ (ks : List Node) (a : Nat), depthL ks a = max a (depthL ks 0)
  | [], a => by rw [depthL, depthL]; simp
  | k :: ks, a => by rw [depthL, depthL, depthL_max ks (max a (depth k)), depthL_max ks (max 0 (depth k))]; omega
end
/-- What the reference asks of a whole tree. -/
def refOk (n : Node) : Bool := n.kind == 0 && decide (depth n ≤ 100) && (if n.kind == 1 then dataOk n else vld false n 0)
theorem refOk_eq (n : Node) : refOk n = vld true n 1 := by
  unfold refOk
  by_cases h : n.kind = 1
  · have h1 : (n.kind == 0) = false := by rw [h]; rfl
    rw [h1, vld_eq true n 1, headOk, h1]; simp
  · have h1 : (n.kind == 1) = false := by rw [beq_eq_false_iff_ne]; exact h
    rw [vld_depth n 1 h, h1, vld_any n 0 1]
    simp only [Bool.false_eq_true, if_false]
    have e : decide (1 + depth n ≤ 101) = decide (depth n ≤ 100) := by rw [Bool.eq_iff_iff]; simp; omega
    rw [e]
    cases hv : vld false n 1
    · simp
    · rw [show (n.kind == 0) = true from by rw [(vld_head hv).1]; rfl]; simp

/-! How long a canonical form is. -/
theorem attsC_len : ∀ l : List Att, (attsC l).length ≤ 6 * attsF l
  | [] => by simp [attsC]
  | a :: l => by
    have h1 := attsC_len l
    have h2 := esc_len true a.value
    simp only [attsC, attC, attsF, attF, List.length_append, List.length_cons, List.length_nil]
    omega
mutual
theorem canon_len : ∀ n : Node, (canon n).length ≤ 6 * full n
  | .mk k s nm ats ks t p => by
    rw [canon, full]
    have h1 := attsC_len ats
    have h2 := esc_len false t
    have h3 := canonL_len ks
    split
    · omega
    · split <;> (simp only [List.length_append, List.length_cons, List.length_nil]; omega)
theorem canonL_len : ∀ ks : List Node, (canonL ks).length ≤ 6 * fullL ks
  | [] => by simp [canonL]
  | k :: ks => by rw [canonL, fullL, List.length_append]; have := canon_len k; have := canonL_len ks; omega
end
end Go.Proofs.YtclhdppppgjgfaaGreatDoor
