/-
  Chapter 04, plain: strings.Split and ReplaceAll at one byte; a time of day in pieces. No program.
-/
import Derived.Test.YtooabnmmgmmklaaDoorWrd4
import Derived.Test.YtooabnmmgmmklaaDoorDate4
import Derived.Lib.SplitLaws
import Derived.Lib.Replace
set_option linter.unusedVariables false
namespace Go.Proofs.YtooabnmmgmmklaaDoor

theorem idx_no {b : UInt8} : ∀ {s : Bytes}, (∀ c ∈ s, c ≠ b) → Lib.index s [b] = -1
  | [], _ => rfl
  | c :: s, h => by
    have hc := h c (by simp)
    have ih := idx_no (b := b) (s := s) fun x hx => h x (by simp [hx])
    rw [Lib.index, if_neg (by simp [List.isPrefixOf, Ne.symm hc]), ih]
    rfl
theorem idx_at {b : UInt8} {y : Bytes} : ∀ {x : Bytes}, (∀ c ∈ x, c ≠ b) → Lib.index (x ++ b :: y) [b] = x.length
  | [], _ => by rw [List.nil_append, Lib.index, if_pos (by simp [List.isPrefixOf])]; rfl
  | c :: x, h => by
    have hc := h c (by simp)
    have ih := idx_at (b := b) (y := y) (x := x) fun z hz => h z (by simp [hz])
    rw [List.cons_append, Lib.index, if_neg (by simp [List.isPrefixOf, Ne.symm hc]), ih, if_neg (by simp), List.length_cons]
    omega
/-- A string is without a byte, or cut at the first of them. -/
theorem cut_at (b : UInt8) : ∀ s : Bytes, (∀ c ∈ s, c ≠ b) ∨ ∃ x y, s = x ++ b :: y ∧ ∀ c ∈ x, c ≠ b
  | [] => .inl fun c hc => by cases hc
  | c :: s => by
    by_cases h : c = b
    · exact .inr ⟨[], s, by rw [h]; rfl, fun x hx => by cases hx⟩
    · rcases cut_at b s with h2 | ⟨x, y, rfl, h2⟩
      · exact .inl fun z hz => (List.mem_cons.1 hz).elim (fun e => e ▸ h) (h2 z)
      · exact .inr ⟨c :: x, y, rfl, fun z hz => (List.mem_cons.1 hz).elim (fun e => e ▸ h) (h2 z)⟩
/-- The pieces between the bytes. -/
def splitC (b : UInt8) : Bytes → List Bytes
  | [] => [[]]
  | c :: l => if c = b then [] :: splitC b l else match splitC b l with | [] => [[c]] | x :: xs => (c :: x) :: xs
theorem splitC_ne (b : UInt8) : ∀ l : Bytes, splitC b l ≠ []
  | [] => by rw [splitC]; simp
  | c :: l => by
    rw [splitC]
    split
    · simp
    · split <;> simp
theorem splitC_no {b : UInt8} : ∀ {s : Bytes}, (∀ c ∈ s, c ≠ b) → splitC b s = [s]
  | [], _ => rfl
  | c :: s, h => by rw [splitC, if_neg (h c (by simp)), splitC_no fun x hx => h x (by simp [hx])]
theorem splitC_at {b : UInt8} {y : Bytes} : ∀ {x : Bytes}, (∀ c ∈ x, c ≠ b) → splitC b (x ++ b :: y) = x :: splitC b y
  | [], _ => by rw [List.nil_append, splitC, if_pos rfl]
  | c :: x, h => by rw [List.cons_append, splitC, if_neg (h c (by simp)), splitC_at fun z hz => h z (by simp [hz])]
theorem splitW_C : ∀ s : Bytes, splitW s = splitC 32 s
  | [] => rfl
  | c :: s => by rw [splitW, splitC, splitW_C s]; rfl
/-- strings.Split at one byte. -/
theorem split_C (b : UInt8) : ∀ (n : Nat) (s : Bytes), s.length ≤ n → Lib.split s [b] = splitC b s
  | n, s, hn => by
    rcases cut_at b s with h | ⟨x, y, rfl, h⟩
    · unfold Lib.split
      rw [Lib.count_miss (idx_no h), splitC_no h]
      rfl
    · have hi := idx_at (y := y) h
      have hd : (x ++ b :: y).drop (x.length + 1) = y := by rw [List.drop_append]; simp
      cases n with
      | zero => simp at hn
      | succ n =>
        have ih := split_C b n y (by simp at hn; omega)
        unfold Lib.split at ih ⊢
        rw [Lib.count_hit (by simp) hi, splitC_at h, ← ih]
        simp only [List.length_cons, List.length_nil, Nat.zero_add]
        rw [hd, Nat.add_comm 1, Lib.splitK, hi, if_neg (by simp)]
        simp only [Int.toNat_natCast, Nat.add_zero, List.length_cons, List.length_nil, Nat.zero_add]
        rw [hd, List.take_left]
/-- strings.ReplaceAll of the spaces. -/
theorem replK_spread (sp : Bytes) : ∀ (n : Nat) (s : Bytes), s.length ≤ n → Lib.replaceK [32] sp (Lib.count s [32]) s = spread sp s
  | n, s, hn => by
    have hno : ∀ {x : Bytes}, (∀ c ∈ x, c ≠ 32) → spread sp x = x := by
      intro x hx
      induction x with
      | nil => rfl
      | cons c x ih =>
        unfold spread at ih ⊢
        rw [List.flatMap_cons, if_neg (hx c (by simp)), ih fun z hz => hx z (by simp [hz])]
        rfl
    rcases cut_at 32 s with h | ⟨x, y, rfl, h⟩
    · rw [Lib.count_miss (idx_no h), hno h]
      rfl
    · have hi := idx_at (y := y) h
      have hd : (x ++ 32 :: y).drop (x.length + 1) = y := by rw [List.drop_append]; simp
      cases n with
      | zero => simp at hn
      | succ n =>
        have ih := replK_spread sp n y (by simp at hn; omega)
        have e : spread sp (x ++ 32 :: y) = x ++ sp ++ spread sp y := by
          have := hno h
          unfold spread at this ⊢
          rw [List.flatMap_append, List.flatMap_cons, this, if_pos rfl, List.append_assoc]
        rw [Lib.count_hit (by simp) hi, e, ← ih]
        simp only [List.length_cons, List.length_nil, Nat.zero_add]
        rw [hd, Nat.add_comm 1, Lib.replaceK_hit _ _ _ _ _ hi]
        simp only [List.length_cons, List.length_nil, Nat.zero_add]
        rw [hd, List.take_left]
theorem repl_spread (sp s : Bytes) : Lib.replaceAll s [32] sp = spread sp s := by
  unfold Lib.replaceAll Lib.replace
  by_cases h : sp = [32]
  · subst h
    rw [if_pos (by decide)]
    symm
    induction s with
    | nil => rfl
    | cons c s ih =>
      unfold spread at ih ⊢
      rw [List.flatMap_cons, ih]
      by_cases hc : c = 32
      · rw [if_pos hc, hc]; rfl
      · rw [if_neg hc]; rfl
  · rw [if_neg (by simpa using Ne.symm h)]
    have e : Lib.replaceNum s [32] (-1) = Lib.count s [32] := by unfold Lib.replaceNum; rw [if_pos (.inl (by decide))]
    rw [e]
    exact replK_spread sp s.length s (Nat.le_refl _)
/-- What the program makes of the pieces of a time of day. -/
def clockP : List Bytes → Option (Nat × Nat × Nat)
  | [a, b] => match num 2 2 a, num 2 2 b with | some h, some m => some (h, m, 0) | _, _ => none
  | [a, b, c] => match num 2 2 a, num 2 2 b, num 2 2 c with | some h, some m, some s => some (h, m, s) | _, _, _ => none
  | _ => none
theorem clockP2 (a b : Bytes) : clockP [a, b] = (match num 2 2 a, num 2 2 b with | some h, some m => some (h, m, 0) | _, _ => none) := rfl
theorem clockP3 (a b c : Bytes) : clockP [a, b, c] = (match num 2 2 a, num 2 2 b, num 2 2 c with | some h, some m, some s => some (h, m, s) | _, _, _ => none) := rfl
theorem num22 {s : Bytes} {n : Nat} (h : num 2 2 s = some n) : ∃ x y, s = [x, y] ∧ x ≠ 58 ∧ y ≠ 58 := by
  unfold num at h
  split at h
  · rename_i hh
    match s, hh with
    | [x, y], hh =>
      have h2 := hh.2.2
      simp only [List.all_cons, List.all_nil, Bool.and_true, Bool.and_eq_true] at h2
      unfold isDig at h2
      rw [decide_eq_true_eq, decide_eq_true_eq] at h2
      exact ⟨x, y, rfl, fun e => (by rw [e] at h2; have := h2.1.2; revert this; decide), fun e => (by rw [e] at h2; have := h2.2.2; revert this; decide)⟩
  · cases h
theorem splitC_join (b : UInt8) : ∀ (n : Nat) (s : Bytes), s.length ≤ n → ∀ x xs, splitC b s = x :: xs → (xs = [] ∧ s = x) ∨ ∃ y, s = x ++ b :: y ∧ splitC b y = xs
  | n, s, hn, x, xs, he => by
    rcases cut_at b s with h | ⟨p, q, rfl, h⟩
    · rw [splitC_no h] at he
      cases he
      exact .inl ⟨rfl, rfl⟩
    · rw [splitC_at h] at he
      cases he
      exact .inr ⟨q, rfl, rfl⟩
theorem clockP_eq (s : Bytes) : clockP (splitC 58 s) = clockOf s := by
  have two : ∀ {a b : Bytes} {h m : Nat}, num 2 2 a = some h → num 2 2 b = some m → clockOf (a ++ 58 :: b) = some (h, m, 0) ∧ splitC 58 (a ++ 58 :: b) = [a, b] := by
    intro a b h m ha hb
    obtain ⟨x, y, rfl, n1, n2⟩ := num22 ha
    obtain ⟨z, u, rfl, n3, n4⟩ := num22 hb
    refine ⟨?_, ?_⟩
    · unfold clockOf
      rw [if_pos ⟨rfl, rfl⟩]
      show (match num 2 2 [x, y], num 2 2 [z, u] with | some h, some m => some (h, m, 0) | _, _ => none) = _
      rw [ha, hb]
    · rw [splitC_at (by simp [n1, n2]), splitC_no (by simp [n3, n4])]
  have three : ∀ {a b c : Bytes} {h m k : Nat}, num 2 2 a = some h → num 2 2 b = some m → num 2 2 c = some k → clockOf (a ++ 58 :: (b ++ 58 :: c)) = some (h, m, k) ∧ splitC 58 (a ++ 58 :: (b ++ 58 :: c)) = [a, b, c] := by
    intro a b c h m k ha hb hc
    obtain ⟨x, y, rfl, n1, n2⟩ := num22 ha
    obtain ⟨z, u, rfl, n3, n4⟩ := num22 hb
    obtain ⟨v, w, rfl, n5, n6⟩ := num22 hc
    refine ⟨?_, ?_⟩
    · unfold clockOf
      rw [if_neg (fun h => by have := h.1; simp at this), if_pos ⟨rfl, rfl, rfl⟩]
      show (match num 2 2 [x, y], num 2 2 [z, u], num 2 2 [v, w] with | some h, some m, some c => some (h, m, c) | _, _, _ => none) = _
      rw [ha, hb, hc]
    · rw [splitC_at (by simp [n1, n2]), splitC_at (by simp [n3, n4]), splitC_no (by simp [n5, n6])]
  refine Option.ext fun p => ⟨fun hp => ?_, fun hp => ?_⟩
  · generalize hs : splitC 58 s = ps at hp
    match ps, hp with
    | [a, b], hp =>
      obtain ⟨y, rfl, h2⟩ : ∃ y, s = a ++ 58 :: y ∧ splitC 58 y = [b] := by
        rcases splitC_join 58 _ s (Nat.le_refl _) _ _ hs with ⟨h, _⟩ | h
        · cases h
        · exact h
      have h3 : y = b := by
        rcases splitC_join 58 _ y (Nat.le_refl _) _ _ h2 with ⟨_, h⟩ | ⟨z, _, h⟩
        · exact h
        · exact absurd h (splitC_ne 58 z)
      subst h3
      rw [clockP2] at hp
      cases ha : num 2 2 a with
      | none => rw [ha] at hp; cases hp
      | some h =>
        cases hb : num 2 2 y with
        | none => rw [ha, hb] at hp; cases hp
        | some m => rw [ha, hb] at hp; rw [(two ha hb).1]; exact hp
    | [a, b, c], hp =>
      obtain ⟨y, rfl, h2⟩ : ∃ y, s = a ++ 58 :: y ∧ splitC 58 y = [b, c] := by
        rcases splitC_join 58 _ s (Nat.le_refl _) _ _ hs with ⟨h, _⟩ | h
        · cases h
        · exact h
      obtain ⟨z, rfl, h4⟩ : ∃ z, y = b ++ 58 :: z ∧ splitC 58 z = [c] := by
        rcases splitC_join 58 _ y (Nat.le_refl _) _ _ h2 with ⟨h, _⟩ | h
        · cases h
        · exact h
      have h3 : z = c := by
        rcases splitC_join 58 _ z (Nat.le_refl _) _ _ h4 with ⟨_, h⟩ | ⟨u, _, h⟩
        · exact h
        · exact absurd h (splitC_ne 58 u)
      subst h3
      rw [clockP3] at hp
      cases ha : num 2 2 a with
      | none => rw [ha] at hp; cases hp
      | some h =>
        cases hb : num 2 2 b with
        | none => rw [ha, hb] at hp; cases hp
        | some m =>
          cases hc : num 2 2 z with
          | none => rw [ha, hb, hc] at hp; cases hp
          | some k => rw [ha, hb, hc] at hp; rw [(three ha hb hc).1]; exact hp
    | [], hp => cases hp
    | [_], hp => cases hp
    | _ :: _ :: _ :: _ :: _, hp => cases hp
  · unfold clockOf at hp
    split at hp
    · rename_i h5
      match s, h5 with
      | [x, y, c, z, u], h5 =>
        have hc : c = 58 := h5.2
        subst hc
        simp only [List.take, List.drop] at hp
        cases ha : num 2 2 [x, y] with
        | none => rw [ha] at hp; cases hp
        | some h =>
          cases hb : num 2 2 [z, u] with
          | none => rw [ha, hb] at hp; cases hp
          | some m =>
            rw [ha, hb] at hp
            have e := (two ha hb).2
            simp only [List.cons_append, List.nil_append] at e
            rw [e, clockP2, ha, hb]
            exact hp
    · split at hp
      · rename_i h8
        match s, h8 with
        | [x, y, c, z, u, d, v, w], h8 =>
          have hc : c = 58 := h8.2.1
          have hd : d = 58 := h8.2.2
          subst hc hd
          simp only [List.take, List.drop] at hp
          cases ha : num 2 2 [x, y] with
          | none => rw [ha] at hp; cases hp
          | some h =>
            cases hb : num 2 2 [z, u] with
            | none => rw [ha, hb] at hp; cases hp
            | some m =>
              cases hk : num 2 2 [v, w] with
              | none => rw [ha, hb, hk] at hp; cases hp
              | some k =>
                rw [ha, hb, hk] at hp
                have e := (three ha hb hk).2
                simp only [List.cons_append, List.nil_append] at e
                rw [e, clockP3, ha, hb, hk]
                exact hp
      · cases hp
end Go.Proofs.YtooabnmmgmmklaaDoor
