/-
  Several texts in one file, in build order:
  - Walk of chapter 12: which values are valid (the reference). Made by gen_jrv.py.
-/
import Derived.Test.YthlppbpccldikaaDoorH11
import Derived.Test.YthlppbpccldikaaDoorH12
import Derived.StillTailTactics
import Derived.Deep.QuietTactic
import Derived.BigQuiet
set_option linter.unusedVariables false
set_option linter.unusedSimpArgs false
namespace Go.Proofs.YthlppbpccldikaaDoor
open Go.RowKit

theorem jrvL_step {l : List JV} {i : Nat} (h : i < l.length) : jrvL (l.drop i) = (jrv l[i] && jrvL (l.drop (i + 1))) := by
  rw [List.drop_eq_getElem_cons h, jrvL]
theorem jrvM_step {l : List JM} {i : Nat} {q : List Bytes} (h : i < l.length) : jrvM q (l.drop i) = (jrv l[i].val && utf8J l[i].key && !(q.contains l[i].key) && jrvM (q ++ [l[i].key]) (l.drop (i + 1))) := by
  rw [List.drop_eq_getElem_cons h]
  cases hx : l[i] with
  | mk k v p => rw [jrvM]; rfl
def keysJ (l : List JM) : List Bytes := l.map JM.key
theorem keys_take {l : List JM} {i : Nat} (h : i < l.length) : keysJ (l.take (i + 1)) = keysJ (l.take i) ++ [l[i].key] := by
  unfold keysJ
  rw [List.take_succ_eq_append_getElem h, List.map_append]; rfl
theorem keys_contains {l : List JM} {i : Nat} {k : Bytes} (hi : i ≤ l.length) : (keysJ (l.take i)).contains k = true ↔ ∃ j, ∃ (h : j < i), (l[j]'(by omega)).key = k := by
  unfold keysJ
  rw [List.contains_iff_mem, List.mem_map]
  constructor
  · rintro ⟨m, hm, rfl⟩
    obtain ⟨j, hj, rfl⟩ := List.mem_iff_getElem.1 hm
    simp only [List.length_take] at hj
    exact ⟨j, by omega, by rw [List.getElem_take]⟩
  · rintro ⟨j, h, rfl⟩
    exact ⟨l[j]'(by omega), List.mem_iff_getElem.2 ⟨j, by simp; omega, by rw [List.getElem_take]⟩, rfl⟩

theorem below_drewNJ {B : Nat} {w w' : World} (h : Below B w w') (n : Nat) : Below B w (w'.drewN n) := ⟨h.os, h.tape, h.output, h.size, h.block⟩
end Go.Proofs.YthlppbpccldikaaDoor
