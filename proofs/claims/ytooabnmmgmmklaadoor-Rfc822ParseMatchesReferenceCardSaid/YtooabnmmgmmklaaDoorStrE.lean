/-
  Slices of strings as rows of elements. No function of the program.
-/
import Derived.Test.YtooabnmmgmmklaaDoorElt
set_option linter.unusedVariables false
namespace Go.Proofs.YtooabnmmgmmklaaDoor
open Go.RowKit

/-! Strings. -/
abbrev strE : Elt Bytes where
  T := 9
  TS := 51
  c := 1
  bytes := 16
  zero := .string ByteArray.empty
  El := fun _ _ s cs => cs = [.string (S s)]
theorem infoStr : (Tryd.prog.info? 9).map (fun i => (i.zero, i.size, i.bytes)) = some (some (.string ByteArray.empty), 1, 16) := by kernel_rfl
theorem strE_ok : strE.Ok where
  info := infoStr
  list := Tryd.underlying51
  zc := rfl
  pos := by decide
  small := by decide
  keep := fun h _ _ => h
  len := fun h => by rw [h]; rfl
  one := fun h => by rw [h]; intro u hu; simp at hu; subst hu; rfl
/-- The cells of the strings of a slice. -/
theorem strs_cell {w : World} {p : Nat → Prop} {A : Option Addr} {n cap i : Nat} {l : List Bytes} (h : ElsP strE w p (.slice A n cap) l) (hi : i < l.length) :
    ∃ b off, A = some ⟨b, off, none⟩ ∧ p b ∧ w.cell? ⟨b, off + i, none⟩ = some (.string (S l[i])) := by
  obtain ⟨b, off, cs, hA, hp, hr, hcs⟩ := h.at_ hi
  refine ⟨b, off, hA, hp, ?_⟩
  have hcs' : cs = [.string (S l[i])] := hcs
  subst hcs'
  have := hr 0 _ rfl
  simpa using this

end Go.Proofs.YtooabnmmgmmklaaDoor
