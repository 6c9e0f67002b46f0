/-
  A start that fits: the settled world, with the six listed tables as their initialisers lay them.
-/
import Derived.Test.YtadkgjbidhfefaaDoorTabsJ
import Derived.ProofKit
set_option linter.unusedVariables false
namespace Go.Proofs.YtadkgjbidhfefaaDoor
open Go.RowKit Go.ChangeShapes Go.WideShapes

def withCells (cs : Array Value) : Obj → Obj
  | .cells _ t fr => .cells cs t fr
  | o => o
def firstCells : Array Value := (Lib.firstTab.map fun z => Value.int .u8 z).toArray
def acceptCells : Array Value := ((List.range 16).flatMap fun i => [.int .u8 (Lib.accLo i), .int .u8 (Lib.accHi i)]).toArray
def powCells : Array Value := (Lib.pow10Tab.map fun z => Value.int .u64 z).toArray
def litCells : DataW Unit → Array Value
  | .agg l => (l.map fun | .lit (.int k n) => Value.int k n | _ => Value.int .u8 0).toArray
  | _ => #[]
noncomputable def laidWorld (os : Os) : World :=
  { World.holding Tryd.prog os ⟨#[], #[], []⟩ with
    heap := ((((((World.holding Tryd.prog os ⟨#[], #[], []⟩).heap.modify 0 (withCells firstCells)).modify 1 (withCells acceptCells)).modify 2 (withCells powCells)).modify 3 (withCells lettCells)).modify 4 (withCells (litCells Rows.laid_math_bits_deBruijn32tab))).modify 5 (withCells (litCells Rows.laid_math_bits_deBruijn64tab)) }
theorem laid_met (os : Os) (args : Array Value) : laidMet Tryd.prog laidJ ((laidWorld os).forCall (fun _ _ => 0) ⟨#[], args, []⟩).memory :=
  laidMet_of_run' 8 (by kernel_rfl) (by kernel_rfl)
theorem laid_metH (os : Os) (args : Array Value) : laidMetH Tryd.prog laidJ ((laidWorld os).forCall (fun _ _ => 0) ⟨#[], args, []⟩).memory := by
  unfold laidMetH
  rw [laidJ_plain]
  exact laid_met os args
theorem own : ownKnob Tryd.prog.godebug = none := by kernel_rfl
end Go.Proofs.YtadkgjbidhfefaaDoor
