/-
  Plain functions of chapter 5 (xmlescape): escaping. No program.
-/
import Derived.Test.YthbfahbjfioghaaGreatDoorUtf
set_option linter.unusedVariables false
namespace Go.Proofs.YthbfahbjfioghaaGreatDoor

/-- What replaces a byte; empty: nothing does. -/
def rep (attr : Bool) (c : UInt8) : Bytes :=
  if c.toNat = 38 then [38, 97, 109, 112, 59]
  else if c.toNat = 60 then [38, 108, 116, 59]
  else if c.toNat = 62 then [38, 103, 116, 59]
  else if c.toNat = 13 then [38, 35, 49, 51, 59]
  else if attr = true ∧ c.toNat = 34 then [38, 113, 117, 111, 116, 59]
  else if attr = true ∧ c.toNat = 9 then [38, 35, 57, 59]
  else if attr = true ∧ c.toNat = 10 then [38, 35, 49, 48, 59]
  else []
def escOne (attr : Bool) (c : UInt8) : Bytes := if rep attr c = [] then [c] else rep attr c
def esc (attr : Bool) (l : Bytes) : Bytes := l.flatMap (escOne attr)

theorem rep_38 {a : Bool} {c : UInt8} (h : c.toNat = 38) : rep a c = [38, 97, 109, 112, 59] := by simp [rep, h]
theorem rep_60 {a : Bool} {c : UInt8} (h : c.toNat = 60) : rep a c = [38, 108, 116, 59] := by simp [rep, h]
theorem rep_62 {a : Bool} {c : UInt8} (h : c.toNat = 62) : rep a c = [38, 103, 116, 59] := by simp [rep, h]
theorem rep_13 {a : Bool} {c : UInt8} (h : c.toNat = 13) : rep a c = [38, 35, 49, 51, 59] := by simp [rep, h]
theorem rep_34 {a : Bool} {c : UInt8} (ha : a = true) (h : c.toNat = 34) : rep a c = [38, 113, 117, 111, 116, 59] := by simp [rep, h, ha]
theorem rep_9 {a : Bool} {c : UInt8} (ha : a = true) (h : c.toNat = 9) : rep a c = [38, 35, 57, 59] := by simp [rep, h, ha]
theorem rep_10 {a : Bool} {c : UInt8} (ha : a = true) (h : c.toNat = 10) : rep a c = [38, 35, 49, 48, 59] := by simp [rep, h, ha]
theorem rep_no {a : Bool} {c : UInt8} (h1 : c.toNat ≠ 38) (h2 : c.toNat ≠ 60) (h3 : c.toNat ≠ 62) (h4 : c.toNat ≠ 13)
    (h5 : a = true → c.toNat ≠ 34 ∧ c.toNat ≠ 9 ∧ c.toNat ≠ 10) : rep a c = [] := by
  unfold rep
  rw [if_neg h1, if_neg h2, if_neg h3, if_neg h4, if_neg (fun h => (h5 h.1).1 h.2), if_neg (fun h => (h5 h.1).2.1 h.2), if_neg (fun h => (h5 h.1).2.2 h.2)]
theorem escOne_of {a : Bool} {c : UInt8} {x : Bytes} (h : rep a c = x) (hx : x ≠ []) : escOne a c = x := by
  unfold escOne; rw [h, if_neg hx]
theorem escOne_no {a : Bool} {c : UInt8} (h : rep a c = []) : escOne a c = [c] := by
  unfold escOne; rw [if_pos h]
theorem esc_append (a : Bool) (x y : Bytes) : esc a (x ++ y) = esc a x ++ esc a y := by simp [esc]
theorem esc_take {a : Bool} {l : Bytes} {i : Nat} (h : i < l.length) : esc a (l.take (i + 1)) = esc a (l.take i) ++ escOne a l[i] := by
  rw [List.take_succ_eq_append_getElem h, esc_append]
  simp [esc]
theorem rep_len (a : Bool) (c : UInt8) : (rep a c).length ≤ 6 := by
  unfold rep; repeat' split
  all_goals simp
theorem escOne_len (a : Bool) (c : UInt8) : (escOne a c).length ≤ 6 := by
  unfold escOne; split
  · simp
  · exact rep_len a c
theorem esc_len (a : Bool) (l : Bytes) : (esc a l).length ≤ 6 * l.length := by
  induction l with
  | nil => simp [esc]
  | cons c l ih =>
    have := escOne_len a c
    simp only [esc, List.flatMap_cons, List.length_append, List.length_cons] at ih ⊢
    omega
theorem esc_take_len (a : Bool) (l : Bytes) (i : Nat) : (esc a (l.take i)).length ≤ 6 * l.length := by
  have := esc_len a (l.take i)
  have : (l.take i).length ≤ l.length := by simp; omega
  omega
end Go.Proofs.YthbfahbjfioghaaGreatDoor
