/-
  Plain laws of chapter 6: how many tokens a document has, and how long their texts are. No program.
-/
import Derived.Test.YthbfahbjfioghaaGreatDoorTok2
set_option linter.unusedVariables false
namespace Go.Proofs.YthbfahbjfioghaaGreatDoor

theorem enc_le4 (r : Nat) : (enc r).length ≤ 4 := by unfold enc; (repeat' split) <;> simp
theorem contS_len (v : Bool) : ∀ (l : Bytes) (k n : Nat) (x : Bytes), contS v k l n = .ok x → x.length ≤ 4 * l.length
  | [], k, n, x, h => by
    cases k <;> (rw [contS] at h; cases h; simp)
  | c :: t, k + 1, n, x, h => by
    rw [contS] at h
    have := contS_len v t k (n + 1) x h
    simp only [List.length_cons]; omega
  | c :: t, 0, n, x, h => by
    rw [contS] at h
    simp only [List.length_cons]
    split at h
    · cases hr : tailRef t with
      | none => rw [hr] at h; cases h
      | some p =>
        obtain ⟨r, m⟩ := p
        rw [hr] at h
        simp only at h
        cases hc : contS v (m + 1) t (n + 1) with
        | error e => rw [hc] at h; cases h
        | ok y =>
          rw [hc] at h
          cases h
          have := contS_len v t (m + 1) (n + 1) y hc
          have he := enc_le4 r
          rw [List.length_append]; omega
    · split at h
      · have := contS_len v t 0 (n + 1) x h
        omega
      · cases hc : contS v 0 t (n + 1) with
        | error e => rw [hc] at h; cases h
        | ok y =>
          rw [hc] at h
          cases h
          have := contS_len v t 0 (n + 1) y hc
          rw [List.length_append]
          simp [blanks]; omega
theorem consAt_text {l : Bytes} {a : Nat} {t : Tok} {k : Nat} (h : consAt l a = .ok (t, k)) : t.text.length ≤ 4 * l.length := by
  have hsk : ∀ {m : Nat} {s : Bytes} {g : Nat → Tok × Nat} {t : Tok} {k : Nat}, (skipAt l a m s).map g = .ok (t, k) → ∃ e, (t, k) = g e := by
    intro m s g t k h
    cases hq : skipAt l a m s with
    | error y => rw [hq] at h; cases h
    | ok y => rw [hq] at h; simp [Except.map] at h; exact ⟨y, h.symm⟩
  unfold consAt at h
  split at h
  · obtain ⟨e, he⟩ := hsk h; cases he; simp [zTok]
  · split at h
    · obtain ⟨e, he⟩ := hsk h; cases he; simp [zTok]
    · split at h
      · obtain ⟨e, he⟩ := hsk h
        obtain ⟨rfl, rfl⟩ := Prod.mk.inj he
        have := linesB_len ((l.drop (a + 9)).take (k - 3 - (a + 9)))
        simp only [List.length_take, List.length_drop] at this
        show (linesB _).length ≤ _
        omega
      · split at h
        · cases h
        · split at h
          · cases h
          · split at h
            · unfold endAt at h
              split at h
              · cases h
              · split at h
                · cases h; simp
                · cases h
            · split at h
              · unfold startAt at h
                split at h
                · cases h
                · cases ht : tagS l a (a + 1 + nameLen (l.drop (a + 1))) [] with
                  | error y => rw [ht] at h; cases h
                  | ok p => rw [ht] at h; cases h; simp
              · cases hc : cont false l a (textEnd l a) with
                | error x => rw [hc] at h; cases h
                | ok x =>
                  rw [hc] at h
                  cases h
                  have := contS_len false _ _ _ _ hc
                  simp only [List.length_drop, List.length_take] at this
                  show x.length ≤ _
                  omega
theorem tokF_all {l : Bytes} : ∀ (f n : Nat) (ts ts' : List Tok), tokF l f n ts = .ok ts' → n ≤ l.length → ts.length ≤ n → (∀ t ∈ ts, t.text.length ≤ 4 * l.length) → ts'.length ≤ l.length ∧ ∀ t ∈ ts', t.text.length ≤ 4 * l.length
  | 0, _, _, _, h, _, _, _ => by rw [tokF] at h; cases h
  | f + 1, n, ts, ts', h, hn, hl, ht => by
    rw [tokF] at h
    split at h
    · rename_i hlt
      cases hc : consAt l n with
      | error e => rw [hc] at h; cases h
      | ok p =>
        obtain ⟨t, k⟩ := p
        rw [hc] at h
        have hk := consAt_ok hlt hc
        have htx := consAt_text hc
        simp only at h
        split at h
        · exact tokF_all f k _ _ h hk.2 (by simp; omega) (fun y hy => by
            rcases List.mem_append.1 hy with hy | hy
            · exact ht y hy
            · rw [List.mem_singleton.1 hy]; exact htx)
        · exact tokF_all f k _ _ h hk.2 (by omega) ht
    · cases h; exact ⟨by omega, ht⟩
theorem toks_all (l : Bytes) : (toks l).1.length ≤ l.length ∧ ∀ t ∈ (toks l).1, t.text.length ≤ 4 * l.length := by
  unfold toks
  split
  · exact ⟨Nat.zero_le _, fun t ht => by cases ht⟩
  · have h0 : (if hasAt l 0 sBom = true then 3 else 0) ≤ l.length := by
      split
      · rename_i h
        have := hasAt_le h
        simp [sBom] at this; omega
      · omega
    generalize (if hasAt l 0 sBom = true then 3 else 0) = z at *
    cases h : tokS l z [] with
    | error e => exact ⟨Nat.zero_le _, fun t ht => by cases ht⟩
    | ok ts => exact tokF_all _ _ _ _ h h0 (by simp) (fun t ht => by cases ht)
end Go.Proofs.YthbfahbjfioghaaGreatDoor
