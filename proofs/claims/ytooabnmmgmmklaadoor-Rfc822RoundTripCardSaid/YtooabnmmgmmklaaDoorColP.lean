/-
  Plain functions of chapter 1 (text): collapsed strings. No program.
-/
import Derived.Test.YtooabnmmgmmklaaDoorUtf
set_option linter.unusedVariables false
namespace Go.Proofs.YtooabnmmgmmklaaDoor

/-! Plain. -/
def spc (c : UInt8) : Bool := ((c.toNat : Int) == 32) || ((c.toNat : Int) == 9) || ((c.toNat : Int) == 10) || ((c.toNat : Int) == 13)
/-- What is left of a string when white space is replaced: g: a space is owed; Y: what has been written. -/
def colG : Bool → Bytes → Bytes → Bytes
  | _, Y, [] => Y
  | g, Y, c :: l => if spc c = true then colG (!Y.isEmpty) Y l else colG false ((if g = true then Y ++ [32] else Y) ++ [c]) l
def collapse (l : Bytes) : Bytes := colG false [] l
theorem colG_len : ∀ (g : Bool) (Y l : Bytes), (colG g Y l).length ≤ Y.length + 2 * l.length
  | _, Y, [] => by rw [colG]; simp
  | g, Y, c :: l => by
    rw [colG]
    split
    · have := colG_len (!Y.isEmpty) Y l; simp only [List.length_cons]; omega
    · have := colG_len false ((if g = true then Y ++ [32] else Y) ++ [c]) l
      have h2 : (if g = true then Y ++ [32] else Y).length ≤ Y.length + 1 := by split <;> simp
      simp only [List.length_cons, List.length_append, List.length_nil] at this ⊢
      omega
theorem colG_sp {g : Bool} {Y l : Bytes} {i : Nat} (h : i < l.length) (hs : spc l[i] = true) : colG g Y (l.drop i) = colG (!Y.isEmpty) Y (l.drop (i + 1)) := by
  rw [List.drop_eq_getElem_cons h, colG, if_pos hs]
theorem colG_no {g : Bool} {Y l : Bytes} {i : Nat} (h : i < l.length) (hs : spc l[i] = false) : colG g Y (l.drop i) = colG false ((if g = true then Y ++ [32] else Y) ++ [l[i]]) (l.drop (i + 1)) := by
  rw [List.drop_eq_getElem_cons h, colG, if_neg (by rw [hs]; decide)]
end Go.Proofs.YtooabnmmgmmklaaDoor
