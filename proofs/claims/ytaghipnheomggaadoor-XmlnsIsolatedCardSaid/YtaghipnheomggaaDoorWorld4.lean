/-
  A start that fits: the settled world, with the four listed tables as their initialisers lay them.
-/
import Derived.Test.YtaghipnheomggaaDoorTabs
import Derived.ProofKit
set_option linter.unusedVariables false
namespace Go.Proofs.YtaghipnheomggaaDoor
open Go.RowKit Go.ChangeShapes Go.WideShapes

def withCells (cs : Array Value) : Obj → Obj
  | .cells _ t fr => .cells cs t fr
  | o => o
def firstCells : Array Value := (Lib.firstTab.map fun z => Value.int .u8 z).toArray
def acceptCells : Array Value := ((List.range 16).flatMap fun i => [.int .u8 (Lib.accLo i), .int .u8 (Lib.accHi i)]).toArray
noncomputable def laidWorld (os : Os) : World :=
  { World.holding Tryd.prog os ⟨#[], #[], []⟩ with
    heap := ((((World.holding Tryd.prog os ⟨#[], #[], []⟩).heap.modify 0 (withCells firstCells)).modify 1 (withCells acceptCells)).modify 3 (withCells startCells)).modify 2 (withCells moreCells) }
theorem laid_met (os : Os) (args : Array Value) : laidMet Tryd.prog laid4 ((laidWorld os).forCall (fun _ _ => 0) ⟨#[], args, []⟩).memory :=
  laidMet_of_run' 8 (by kernel_rfl) (by kernel_rfl)
theorem laid_metH (os : Os) (args : Array Value) : laidMetH Tryd.prog laid4 ((laidWorld os).forCall (fun _ _ => 0) ⟨#[], args, []⟩).memory := by
  unfold laidMetH
  rw [laid4_plain]
  exact laid_met os args
theorem own : ownKnob Tryd.prog.godebug = none := by kernel_rfl
end Go.Proofs.YtaghipnheomggaaDoor
