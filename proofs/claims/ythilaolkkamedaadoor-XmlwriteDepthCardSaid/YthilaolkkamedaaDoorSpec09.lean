/-
  Plain functions of chapter 9 (xmlwrite): which trees are valid. No program.
-/
import Derived.Test.YthilaolkkamedaaDoorSpec06
import Derived.Test.YthilaolkkamedaaDoorSpec07
set_option linter.unusedVariables false
namespace Go.Proofs.YthilaolkkamedaaDoor

def charsOk (l : Bytes) : Bool := (check l).2 == 0
def attsOkS : List Bytes → List Att → Bool
  | _, [] => true
  | seen, a :: l => a.space == [] && !seen.contains a.name && isQName a.name && charsOk a.value && attsOkS (a.name :: seen) l
def attsOk (l : List Att) : Bool := attsOkS [] l
/-- Valid character data. -/
def dataOk (n : Node) : Bool := n.text != [] && charsOk n.text && n.space == [] && n.name == [] && n.attrs.length == 0 && n.kids.length == 0
/-- What is asked of an element itself. -/
def headOk (n : Node) : Bool := n.kind == 0 && n.space == [] && n.text == [] && isQName n.name && attsOk n.attrs
mutual
/-- A valid element; 'lim': with the nesting limit. -/
def vld (lim : Bool) : Node → Nat → Bool
  | .mk k s nm ats ks t p, d => !(lim && decide (100 < d)) && headOk (.mk k s nm ats ks t p) && vldL lim ks d false
def vldL (lim : Bool) : List Node → Nat → Bool → Bool
  | [], _, _ => true
  | k :: ks, d, data => (if k.kind == 1 then !data && dataOk k else vld lim k (d + 1)) && vldL lim ks d (k.kind == 1)
end
theorem vld_eq (lim : Bool) (n : Node) (d : Nat) : vld lim n d = (!(lim && decide (100 < d)) && headOk n && vldL lim n.kids d false) := by cases n; rw [vld]; rfl
theorem vldL_step {lim : Bool} {ks : List Node} {d i : Nat} {data : Bool} (hi : i < ks.length) :
    vldL lim (ks.drop i) d data = ((if ks[i].kind == 1 then !data && dataOk ks[i] else vld lim ks[i] (d + 1)) && vldL lim (ks.drop (i + 1)) d (ks[i].kind == 1)) := by
  rw [List.drop_eq_getElem_cons hi, vldL]
theorem attsOkS_step {l : List Att} {i : Nat} {seen : List Bytes} (hi : i < l.length) :
    attsOkS seen (l.drop i) = (l[i].space == [] && !seen.contains l[i].name && isQName l[i].name && charsOk l[i].value && attsOkS (l[i].name :: seen) (l.drop (i + 1))) := by
  rw [List.drop_eq_getElem_cons hi, attsOkS]
/-- What Check asks. -/
def validTree (n : Node) : Bool := vld true n 1
theorem attsOkS_perm : ∀ (l : List Att) (s1 s2 : List Bytes), (∀ x, x ∈ s1 ↔ x ∈ s2) → attsOkS s1 l = attsOkS s2 l
  | [], _, _, _ => by rw [attsOkS, attsOkS]
  | a :: l, s1, s2, h => by
    rw [attsOkS, attsOkS]
    have h1 : s1.contains a.name = s2.contains a.name := by rw [Bool.eq_iff_iff]; simp [h]
    rw [h1, attsOkS_perm l (a.name :: s1) (a.name :: s2) (fun x => by simp [h])]
end Go.Proofs.YthilaolkkamedaaDoor
