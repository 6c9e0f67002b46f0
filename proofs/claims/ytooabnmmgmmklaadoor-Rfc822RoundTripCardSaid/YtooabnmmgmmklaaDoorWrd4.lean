/-
  Plain laws of chapter 4: the words of a collapsed string. No program.
-/
import Derived.Test.YtooabnmmgmmklaaDoorDate4
import Derived.Test.YtooabnmmgmmklaaDoorColP
set_option linter.unusedVariables false
namespace Go.Proofs.YtooabnmmgmmklaaDoor

def joinW : List Bytes → Bytes
  | [] => []
  | [x] => x
  | x :: y :: l => x ++ 32 :: joinW (y :: l)
theorem joinW_snoc : ∀ (ws : List Bytes) (x : Bytes), ws ≠ [] → joinW (ws ++ [x]) = joinW ws ++ 32 :: x
  | [], x, h => absurd rfl h
  | [y], x, _ => rfl
  | y :: z :: l, x, _ => by
    have := joinW_snoc (z :: l) x (by simp)
    simp only [List.cons_append] at this ⊢
    rw [joinW, joinW, this]
    simp
theorem joinW_grow : ∀ (ws : List Bytes) (x : Bytes) (c : UInt8), joinW (ws ++ [x ++ [c]]) = joinW (ws ++ [x]) ++ [c]
  | [], x, c => rfl
  | [y], x, c => by simp [joinW]
  | y :: z :: l, x, c => by
    have := joinW_grow (z :: l) x c
    simp only [List.cons_append] at this ⊢
    rw [joinW, joinW, this]
    simp
/-- The words of a string; 'cur': the word that is being read. -/
def wordsA : Bytes → Bytes → List Bytes
  | cur, [] => if cur = [] then [] else [cur]
  | cur, c :: l => if spc c = true then (if cur = [] then wordsA [] l else cur :: wordsA [] l) else wordsA (cur ++ [c]) l
def wordsOf (l : Bytes) : List Bytes := wordsA [] l
/-- Where collapsing stands. -/
def ColSt (g : Bool) (Y : Bytes) (ws : List Bytes) (cur : Bytes) : Prop :=
  (g = false ∧ ws = [] ∧ cur = [] ∧ Y = []) ∨ (g = false ∧ cur ≠ [] ∧ Y = joinW (ws ++ [cur])) ∨ (g = true ∧ ws ≠ [] ∧ cur = [] ∧ Y = joinW ws ∧ Y ≠ [])
theorem joinW_ne {ws : List Bytes} {x : Bytes} (hx : x ≠ []) : joinW (ws ++ [x]) ≠ [] := by
  cases ws with
  | nil => exact hx
  | cons y ws =>
    rw [joinW_snoc _ _ (by simp)]
    simp
theorem colG_words : ∀ (l : Bytes) (g : Bool) (Y : Bytes) (ws : List Bytes) (cur : Bytes), ColSt g Y ws cur → colG g Y l = joinW (ws ++ wordsA cur l)
  | [], g, Y, ws, cur, h => by
    rw [colG, wordsA]
    rcases h with ⟨_, rfl, rfl, rfl⟩ | ⟨_, h1, rfl⟩ | ⟨_, h1, rfl, rfl, _⟩
    · rfl
    · rw [if_neg h1]
    · rw [if_pos rfl, List.append_nil]
  | c :: l, g, Y, ws, cur, h => by
    rw [colG, wordsA]
    by_cases hs : spc c = true
    · rw [if_pos hs, if_pos hs]
      rcases h with ⟨_, rfl, rfl, rfl⟩ | ⟨_, h1, rfl⟩ | ⟨_, h1, rfl, rfl, h2⟩
      · rw [if_pos rfl]
        exact colG_words l _ _ [] [] (.inl ⟨rfl, rfl, rfl, rfl⟩)
      · rw [if_neg h1]
        have hy := joinW_ne (ws := ws) h1
        rw [colG_words l _ _ (ws ++ [cur]) [] (.inr (.inr ⟨by cases hq : joinW (ws ++ [cur]) with | nil => exact absurd hq hy | cons a b => rfl, by simp, rfl, rfl, hy⟩))]
        simp
      · rw [if_pos rfl]
        exact colG_words l _ _ ws [] (.inr (.inr ⟨by cases hq : joinW ws with | nil => exact absurd hq h2 | cons a b => rfl, h1, rfl, rfl, h2⟩))
    · rw [if_neg hs, if_neg hs]
      rcases h with ⟨rfl, rfl, rfl, rfl⟩ | ⟨rfl, h1, rfl⟩ | ⟨rfl, h1, rfl, rfl, h2⟩
      · exact colG_words l _ _ [] ([] ++ [c]) (.inr (.inl ⟨rfl, by simp, rfl⟩))
      · exact colG_words l _ _ ws (cur ++ [c]) (.inr (.inl ⟨rfl, by simp, by rw [joinW_grow]; rfl⟩))
      · exact colG_words l _ _ ws ([] ++ [c]) (.inr (.inl ⟨rfl, by simp, by rw [List.nil_append, joinW_snoc _ _ h1]; simp⟩))
theorem collapse_words (l : Bytes) : collapse l = joinW (wordsOf l) := by
  have := colG_words l false [] [] [] (.inl ⟨rfl, rfl, rfl, rfl⟩)
  rw [List.nil_append] at this
  exact this
/-- A word: not empty, without white space. -/
def isWord (x : Bytes) : Prop := x ≠ [] ∧ ∀ c ∈ x, spc c = false
theorem wordsA_word : ∀ (l cur : Bytes), (∀ c ∈ cur, spc c = false) → ∀ x ∈ wordsA cur l, isWord x
  | [], cur, h, x, hx => by
    rw [wordsA] at hx
    split at hx
    · cases hx
    · rename_i h1
      simp at hx
      subst hx
      exact ⟨h1, h⟩
  | c :: l, cur, h, x, hx => by
    rw [wordsA] at hx
    split at hx
    · split at hx
      · exact wordsA_word l [] (fun c hc => by cases hc) x hx
      · rename_i h1
        rcases List.mem_cons.1 hx with rfl | hx
        · exact ⟨h1, h⟩
        · exact wordsA_word l [] (fun c hc => by cases hc) x hx
    · rename_i h1
      exact wordsA_word l (cur ++ [c]) (fun b hb => by
        rcases List.mem_append.1 hb with hb | hb
        · exact h b hb
        · simp at hb; subst hb; simpa using h1) x hx
theorem wordsOf_word (l : Bytes) : ∀ x ∈ wordsOf l, isWord x := wordsA_word l [] (fun c hc => by cases hc)
theorem wordsA_run : ∀ (x cur l : Bytes), (∀ c ∈ x, spc c = false) → wordsA cur (x ++ l) = wordsA (cur ++ x) l
  | [], cur, l, _ => by simp
  | c :: x, cur, l, h => by
    have h1 := h c (by simp)
    rw [List.cons_append, wordsA, if_neg (by rw [h1]; decide), wordsA_run x (cur ++ [c]) l (fun b hb => h b (by simp [hb]))]
    simp
theorem spc32 : spc 32 = true := by decide
theorem wordsOf_join : ∀ (ws : List Bytes), (∀ x ∈ ws, isWord x) → wordsOf (joinW ws) = ws
  | [], _ => rfl
  | [x], h => by
    have hx := h x (by simp)
    have := wordsA_run x [] [] hx.2
    simp only [List.append_nil, List.nil_append] at this
    rw [joinW, wordsOf, this, wordsA, if_neg hx.1]
  | x :: y :: l, h => by
    have hx := h x (by simp)
    have ih := wordsOf_join (y :: l) (fun z hz => h z (by simp [hz]))
    unfold wordsOf at ih ⊢
    rw [joinW, wordsA_run x [] _ hx.2, List.nil_append, wordsA, if_pos spc32, if_neg hx.1, ih]
theorem collapse_idem (l : Bytes) : collapse (collapse l) = collapse l := by
  rw [collapse_words (collapse l), collapse_words l, wordsOf_join _ (wordsOf_word l)]
/-- Splitting at the spaces gives the words. -/
theorem splitW_run : ∀ (x l : Bytes), (∀ c ∈ x, c ≠ 32) → splitW (x ++ 32 :: l) = x :: splitW l
  | [], l, _ => by rw [List.nil_append, splitW, if_pos rfl]
  | c :: x, l, h => by rw [List.cons_append, splitW, if_neg (h c (by simp)), splitW_run x l (fun b hb => h b (by simp [hb]))]
theorem splitW_one : ∀ (x : Bytes), (∀ c ∈ x, c ≠ 32) → splitW x = [x]
  | [], _ => rfl
  | c :: x, h => by rw [splitW, if_neg (h c (by simp)), splitW_one x (fun b hb => h b (by simp [hb]))]
theorem isWord.no32 {x : Bytes} (h : isWord x) : ∀ c ∈ x, c ≠ 32 := fun c hc e => by
  have := h.2 c hc
  rw [e, spc32] at this
  cases this
theorem splitW_join : ∀ (ws : List Bytes), (∀ x ∈ ws, isWord x) → ws ≠ [] → splitW (joinW ws) = ws
  | [], _, h => absurd rfl h
  | [x], h, _ => by rw [joinW]; exact splitW_one x (h x (by simp)).no32
  | x :: y :: l, h, _ => by rw [joinW, splitW_run x _ (h x (by simp)).no32, splitW_join (y :: l) (fun z hz => h z (by simp [hz])) (by simp)]
/-- White space for each space. -/
def spread (sp x : Bytes) : Bytes := x.flatMap fun c => if c = 32 then sp else [c]
theorem wordsA_sp : ∀ (sp : Bytes) (cur l : Bytes), (∀ c ∈ sp, spc c = true) → sp ≠ [] → wordsA cur (sp ++ l) = if cur = [] then wordsA [] l else cur :: wordsA [] l
  | [], _, _, _, h => absurd rfl h
  | [c], cur, l, h, _ => by rw [List.singleton_append, wordsA, if_pos (h c (by simp))]
  | c :: d :: sp, cur, l, h, _ => by
    have ih := wordsA_sp (d :: sp) [] l (fun b hb => h b (by simp [hb])) (by simp)
    rw [if_pos rfl] at ih
    rw [List.cons_append, wordsA, if_pos (h c (by simp)), ih]
theorem wordsA_spread {sp : Bytes} (hs : ∀ c ∈ sp, spc c = true) (h0 : sp ≠ []) : ∀ (x cur l : Bytes), wordsA cur (spread sp x ++ l) = wordsA cur (x ++ l)
  | [], cur, l => rfl
  | c :: x, cur, l => by
    have e : spread sp (c :: x) = (if c = 32 then sp else [c]) ++ spread sp x := by simp [spread]
    rw [e, List.append_assoc]
    by_cases hc : c = 32
    · subst hc
      rw [if_pos rfl, wordsA_sp sp cur _ hs h0, List.cons_append, wordsA, if_pos spc32, wordsA_spread hs h0 x [] l]
    · rw [if_neg hc, List.singleton_append, wordsA, List.cons_append, wordsA, wordsA_spread hs h0 x [] l, wordsA_spread hs h0 x (cur ++ [c]) l]
theorem wordsA_app : ∀ (x cur l : Bytes), (∀ c ∈ l, spc c = true) → wordsA cur (x ++ l) = wordsA cur x
  | [], cur, l, h => by
    induction l generalizing cur with
    | nil => rfl
    | cons c l ih =>
      have e1 : wordsA cur (c :: l) = if cur = [] then wordsA [] l else cur :: wordsA [] l := by rw [wordsA, if_pos (h c (by simp))]
      have e2 : wordsA [] l = [] := ih [] (fun b hb => h b (by simp [hb]))
      rw [List.nil_append, e1, e2, wordsA]
  | c :: x, cur, l, h => by
    rw [List.cons_append, wordsA, wordsA, wordsA_app x [] l h, wordsA_app x (cur ++ [c]) l h]
/-- White space before, between and behind the words is nothing to them. -/
theorem collapse_spread {sp : Bytes} (hs : ∀ c ∈ sp, spc c = true) (h0 : sp ≠ []) (s : Bytes) : collapse (sp ++ (spread sp (collapse s) ++ sp)) = collapse s := by
  rw [collapse_words, wordsOf, wordsA_sp sp [] _ hs h0, if_pos rfl, wordsA_spread hs h0, wordsA_app _ _ _ hs]
  exact ((collapse_words (collapse s)).symm).trans (collapse_idem s)
end Go.Proofs.YtooabnmmgmmklaaDoor
