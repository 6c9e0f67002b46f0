/-
  ModelChecksMatchReference holds of every archive, the listed tables being as the program's text lays them.
-/
import Derived.Test.YtadkgjbidhfefaaDoorCards
import Derived.Test.YtadkgjbidhfefaaDoorTie
import Derived.Test.YtadkgjbidhfefaaDoorG3
import Derived.Test.YtadkgjbidhfefaaDoorG2
import Derived.SizedLaws
import Derived.Test.YtadkgjbidhfefaaDoorG1
import Derived.Deep.DeepHandedRow
import Derived.OpenShut
set_option linter.unusedVariables false
namespace Go.Proofs.YtadkgjbidhfefaaDoor.checks13
open Go.ChangeShapes Go.WideShapes Go.ChangeAt Go.RowKit

set_option maxRecDepth 100000 in
theorem contract (H : Type) (enc : TypeId × Value → H) (W : World) (base : Nat) (args : Array Value) (ds gs : List (DataW H)) (before : List MemPlace)
    (hval : ∀ (j : Nat) t v, Tryd.f7.params[j]? = some t → args[j]? = some v → Value.okWide Tryd.prog W .any base t v)
    (hW : DataW.Whole enc Tryd.prog Tryd.f7.params.toList Rows.modelChecksMatchReferenceSpec.vars false W args.toList ds gs before)
    (hz : (DataW.weightsEach Tryd.prog (Tryd.f7.params.toList ++ (OpenSpec.ofChange Rows.modelChecksMatchReferenceSpec).bare.plain.varTypes Tryd.prog) (ds ++ gs)).all (· ≤ reachBytes) = true)
    (hL : laidMetH Tryd.prog Rows.modelChecksMatchReferenceRow.laid W) :
    Calls Tryd.prog 7 args W fun e W' => ∃ v, e = .returned v ∧ Rows.modelChecksMatchReferenceSpec.post enc Tryd.prog Tryd.f7 false true false false W args v W' := by
  have hT : TabJ W := tabJ_of_laid hL
  have hW' := hW
  obtain ⟨p, q, hA0, hV, rfl, hfz, hnd⟩ := hW
  have hA : DataW.TrodAll enc Tryd.prog W 0 (fun _ => true) true Tryd.f7.params.toList args.toList ds p := hA0
  rw [Tryd.params7] at hA hval hz
  obtain ⟨v0, vs0, d0, ds0, p0, q0, hargs, rfl, rfl, h0, r0⟩ := trodAll_cons hA
  obtain ⟨rfl, rfl, rfl⟩ := trodAll_nil r0
  obtain rfl : args = #[v0] := by cases args; simp_all
  obtain ⟨rfl, rfl⟩ := trodVars_none hV
  obtain ⟨u, l, rfl, hl0, hl1, hl2, _⟩ := open_arcV (hval 0 _ v0 rfl rfl) h0 (fun x hx => by
    have := List.all_eq_true.1 hz x (DataW.weights_mem_each (j := 0) rfl rfl x hx)
    simpa using this)
  refine (law13checks_any l u W hT hl0 hl1 hl2).mono ?_
  rintro e W' ⟨rfl, hb⟩
  exact ⟨_, rfl, law_post hW' rfl rfl rfl (by rw [Tryd.params7]; intro t ht; simp at ht; subst ht; exact ⟨by kernel_rfl, of_decide_eq_true (by kernel_rfl)⟩) hb⟩

def arg0 : Array Value := #[.agg #[.slice none 0 0]]
theorem reads (os : Os) {H : Type} (enc : TypeId × Value → H) : ∃ places, DataW.whole enc Tryd.prog ((laidWorld os).forCall (fun _ _ => 0) ⟨#[], arg0, []⟩).memory Tryd.f7.params.toList Rows.modelChecksMatchReferenceSpec.vars false arg0.toList 8 =
    some ([.agg [.nil]], [], places) :=
  ⟨[], by kernel_rfl⟩

set_option maxRecDepth 100000 in
theorem lifted (os : Os) (started : os.Started) (H : Type) (enc : TypeId × Value → H) (F : Stop.Interp) :
    ReturnsInHanded {} Tryd.checked os 7 .any ((OpenSpec.ofChange Rows.modelChecksMatchReferenceSpec).preRow enc Tryd.prog Tryd.f7 Rows.modelChecksMatchReferenceRow.domain false Rows.modelChecksMatchReferenceRow.laid) (((OpenSpec.ofChange Rows.modelChecksMatchReferenceSpec).at F).post enc Tryd.prog Tryd.f7 false true false false) := by
  obtain ⟨places, hx⟩ := reads os enc
  refine returnsInHanded_of_row (C := Tryd.checked) (s := OpenSpec.ofChange Rows.modelChecksMatchReferenceSpec) own started (by kernel_rfl) Tryd.func7
    (witness_row_at (enc := enc) (C := Tryd.checked) false (laidWorld os) arg0 rfl (by kernel_rfl) (by kernel_rfl) (by kernel_rfl)
      (OpenSpec.preRow_of_cond 8 hx (by kernel_rfl) (fun k hk => by cases hk) (by kernel_rfl) (laid_metH os arg0))) ?_
  intro W base args ds gs before hval hW _ _ hz hL _ _
  exact contract H enc W base args ds gs before hval hW hz hL

theorem said : Rows.ModelChecksMatchReferenceSaid :=
  OpenClaim.holds_of_cond 7 Tryd.f7 rfl rfl rfl rfl rfl rfl rfl ⟨rfl, rfl, rfl, rfl, rfl⟩ rfl rfl rfl rfl rfl (by kernel_rfl) Tryd.func7 (by kernel_rfl)
    (of_decide_eq_true (by kernel_rfl)) (by unfold Func.isWrapper; first | (rw [if_pos (by decide +kernel)]; kernel_rfl) | (rw [if_neg (by decide +kernel)]; exact ⟨rfl, rfl⟩))
    (fun os started H enc _ F => by rw [OpenClaim.pre_eq_preRow]; exact lifted os started H enc F)

theorem plain (f : FuncId) (fn : Func) (hf : Tryd.pinned.checked.prog.funcNamed "feedvault/feedvaultlaw13.ModelChecksMatchReference" = some f) (hfn : Tryd.pinned.checked.prog.funcs[f]? = some fn) :
    false = Tryd.pinned.checked.prog.looks [] ∧ ∀ (j : Nat) t, fn.params[j]? = some t → Tryd.pinned.checked.prog.wantsStandIn t = false := by
  obtain rfl : f = 7 := Option.some.inj ((show Tryd.prog.funcNamed "feedvault/feedvaultlaw13.ModelChecksMatchReference" = some 7 by kernel_rfl).symm.trans hf) |>.symm
  obtain rfl : fn = Tryd.f7 := (Option.some.inj (Tryd.func7.symm.trans hfn)).symm
  refine ⟨by kernel_rfl, fun j t ht => ?_⟩
  rw [Tryd.params7] at ht
  have ht' := Array.mem_of_getElem? ht
  simp at ht'
  subst ht'
  exact (show Tryd.prog.wantsStandIn 50 = false by kernel_rfl)

theorem card : Rows.ModelChecksMatchReferenceCardSaid :=
  Claim7.holds_tied_plain_at .later [] _ _ _ _ said (fun _ h => by cases h) (by kernel_rfl) (fun _ h => by cases h) modelChecksMatchReference_row_tie rfl ⟨rfl, rfl⟩ (by kernel_rfl) rfl plain (by kernel_rfl)
end Go.Proofs.YtadkgjbidhfefaaDoor.checks13
