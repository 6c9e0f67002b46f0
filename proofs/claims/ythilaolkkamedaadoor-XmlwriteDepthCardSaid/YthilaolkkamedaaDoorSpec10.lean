/-
  Plain functions of chapter 9: the canonical form of a tree. No program.
-/
import Derived.Test.YthilaolkkamedaaDoorSpec09
import Derived.Test.YthilaolkkamedaaDoorSpec05
set_option linter.unusedVariables false
namespace Go.Proofs.YthilaolkkamedaaDoor

/-- An attribute's canonical form. -/
def attC (a : Att) : Bytes := [32] ++ a.name ++ [61, 34] ++ esc true a.value ++ [34]
def attsC : List Att → Bytes
  | [] => []
  | a :: l => attC a ++ attsC l
mutual
/-- A node's canonical form. -/
def canon : Node → Bytes
  | .mk k s nm ats ks t p => if k = 1 then esc false t else [60] ++ nm ++ attsC ats ++ (if ks.length = 0 then [47, 62] else [62] ++ canonL ks ++ [60, 47] ++ nm ++ [62])
def canonL : List Node → Bytes
  | [] => []
  | k :: ks => canon k ++ canonL ks
end
theorem canon_text {n : Node} (h : n.kind = 1) : canon n = esc false n.text := by
  cases n; simp only [Node.kind, Node.text] at *; rw [canon, if_pos h]
theorem canon_elem {n : Node} (h : ¬ n.kind = 1) : canon n = [60] ++ n.name ++ attsC n.attrs ++ (if n.kids.length = 0 then [47, 62] else [62] ++ canonL n.kids ++ [60, 47] ++ n.name ++ [62]) := by
  cases n; simp only [Node.kind, Node.name, Node.attrs, Node.kids] at *; rw [canon, if_neg h]; rfl
theorem attsC_step {l : List Att} {i : Nat} (hi : i < l.length) : attsC (l.drop i) = attC l[i] ++ attsC (l.drop (i + 1)) := by
  rw [List.drop_eq_getElem_cons hi, attsC]
theorem canonL_step {l : List Node} {i : Nat} (hi : i < l.length) : canonL (l.drop i) = canon l[i] ++ canonL (l.drop (i + 1)) := by
  rw [List.drop_eq_getElem_cons hi, canonL]
theorem attsC_take {l : List Att} {i : Nat} (hi : i < l.length) : attsC (l.take (i + 1)) = attsC (l.take i) ++ attC l[i] := by
  induction l generalizing i with
  | nil => simp at hi
  | cons a l ih =>
    cases i with
    | zero => simp [attsC]
    | succ i =>
      simp only [List.length_cons] at hi
      simp only [List.take_succ_cons, attsC, List.getElem_cons_succ, List.append_assoc]
      rw [ih (by omega)]
theorem canonL_take {l : List Node} {i : Nat} (hi : i < l.length) : canonL (l.take (i + 1)) = canonL (l.take i) ++ canon l[i] := by
  induction l generalizing i with
  | nil => simp at hi
  | cons a l ih =>
    cases i with
    | zero => simp [canonL]
    | succ i =>
      simp only [List.length_cons] at hi
      simp only [List.take_succ_cons, canonL, List.getElem_cons_succ, List.append_assoc]
      rw [ih (by omega)]
/-- The line ahead of every document. -/
def header : Bytes := [60, 63, 120, 109, 108, 32, 118, 101, 114, 115, 105, 111, 110, 61, 34, 49, 46, 48, 34, 32, 101, 110, 99, 111, 100, 105, 110, 103, 61, 34, 85, 84, 70, 45, 56, 34, 63, 62, 10]
/-- The whole document. -/
def doc (n : Node) : Bytes := header ++ canon n ++ [10]
end Go.Proofs.YthilaolkkamedaaDoor
