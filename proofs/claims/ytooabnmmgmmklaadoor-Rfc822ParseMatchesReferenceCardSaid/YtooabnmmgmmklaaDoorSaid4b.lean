/-
  Rfc822ParseMatchesReference holds of every string, the listed tables being as the program's text lays them.
-/
import Derived.Test.YtooabnmmgmmklaaDoorCards
import Derived.Test.YtooabnmmgmmklaaDoorTie
import Derived.Test.YtooabnmmgmmklaaDoorTabsD
import Derived.Test.YtooabnmmgmmklaaDoorLaw4a
import Derived.ChangeMaps5
import Derived.SizedLaws
import Derived.Test.YtooabnmmgmmklaaDoorPost
import Derived.Deep.DeepHandedRow
import Derived.Deep.DeepWitnessRowRef
import Derived.OpenShut
set_option linter.unusedVariables false
namespace Go.Proofs.YtooabnmmgmmklaaDoor.parse4
open Go.ChangeShapes Go.WideShapes Go.ChangeAt Go.RowKit Go.ChangeMaps

set_option maxRecDepth 100000 in
theorem contract (H : Type) (enc : TypeId × Value → H) (W : World) (base : Nat) (args : Array Value) (ds gs : List (DataW H)) (before : List MemPlace)
    (hval : ∀ (j : Nat) t v, Tryd.f4.params[j]? = some t → args[j]? = some v → Value.okWide Tryd.prog W .any base t v)
    (hW : DataW.Whole enc Tryd.prog Tryd.f4.params.toList Rows.rfc822ParseMatchesReferenceSpec.vars false W args.toList ds gs before)
    (hz : (DataW.weightsEach Tryd.prog (Tryd.f4.params.toList ++ (OpenSpec.ofChange Rows.rfc822ParseMatchesReferenceSpec).bare.plain.varTypes Tryd.prog) (ds ++ gs)).all (· ≤ reachBytes) = true)
    (hS : W.ShapedOpen Tryd.prog) (hL : laidMetH Tryd.prog Rows.rfc822ParseMatchesReferenceRow.laid W) :
    Calls Tryd.prog 4 args W fun e W' => ∃ v, e = .returned v ∧ Rows.rfc822ParseMatchesReferenceSpec.post enc Tryd.prog Tryd.f4 false true false false W args v W' := by
  have hT : Tab4 W := tab4_of_laidD hL hS
  have hW' := hW
  obtain ⟨p, q, hA0, hV, rfl, hfz, hnd⟩ := hW
  have hA : DataW.TrodAll enc Tryd.prog W 0 (fun _ => true) true Tryd.f4.params.toList args.toList ds p := hA0
  rw [Tryd.params4] at hA hval hz
  obtain ⟨v0, vs0, d0, ds0, p0, q0, hargs, rfl, rfl, h0, r0⟩ := trodAll_cons hA
  obtain ⟨rfl, rfl, rfl⟩ := trodAll_nil r0
  obtain rfl : args = #[v0] := by cases args; simp_all
  obtain ⟨rfl, rfl⟩ := trodVars_none hV
  obtain ⟨a0, rfl, rfl, rfl, w0⟩ := open_string Tryd.underlying9 (hval 0 _ v0 rfl rfl) h0
  have m0 : a0.data.toList.length ≤ 9223372036854775807 := by
    have e : a0.data.toList.length = a0.size := Array.length_toList
    rw [e]; exact Nat.le_trans w0 (by decide)
  have hcall := law4parse_any a0.data.toList W hT m0
  simp only [S_data'] at hcall
  refine hcall.mono ?_
  rintro e W' ⟨rfl, hb⟩
  exact ⟨_, rfl, law_post hW' rfl rfl rfl (by rw [Tryd.params4]; intro t ht; simp at ht; subst ht; exact ⟨by kernel_rfl, of_decide_eq_true (by kernel_rfl)⟩) hb⟩

def arg0 : Array Value := #[.string ByteArray.empty]
theorem reads (os : Os) {H : Type} (enc : TypeId × Value → H) : ∃ places, DataW.whole enc Tryd.prog ((World.laidAll Tryd.prog os laidD).forCall (fun _ _ => 0) ⟨#[], arg0, []⟩).memory Tryd.f4.params.toList Rows.rfc822ParseMatchesReferenceSpec.vars false arg0.toList 8 =
    some ([.lit (.string [])], [], places) :=
  ⟨[], by kernel_rfl⟩

set_option maxRecDepth 100000 in
theorem lifted (os : Os) (started : os.Started) (H : Type) (enc : TypeId × Value → H) (F : Stop.Interp) :
    ReturnsInHanded {} Tryd.checked os 4 .any ((OpenSpec.ofChange Rows.rfc822ParseMatchesReferenceSpec).preRow enc Tryd.prog Tryd.f4 Rows.rfc822ParseMatchesReferenceRow.domain false Rows.rfc822ParseMatchesReferenceRow.laid) (((OpenSpec.ofChange Rows.rfc822ParseMatchesReferenceSpec).at F).post enc Tryd.prog Tryd.f4 false true false false) := by
  obtain ⟨places, hx⟩ := reads os enc
  refine returnsInHanded_of_row (C := Tryd.checked) (s := OpenSpec.ofChange Rows.rfc822ParseMatchesReferenceSpec) own started (by kernel_rfl) Tryd.func4
    (witness_row_atRef (enc := enc) (C := Tryd.checked) false (World.laidAll Tryd.prog os laidD) arg0 (World.laidAll_os _ _ _) (by kernel_rfl) (by kernel_rfl) (by kernel_rfl)
      (OpenSpec.preRow_of_cond 8 hx (by kernel_rfl) (fun k hk => by cases hk) (by kernel_rfl) (laidD_met os arg0))) ?_
  intro W base args ds gs before hval hW _ _ hz hL hS _
  exact contract H enc W base args ds gs before hval hW hz hS hL

theorem said : Rows.Rfc822ParseMatchesReferenceSaid :=
  OpenClaim.holds_of_cond 4 Tryd.f4 rfl rfl rfl rfl rfl rfl rfl ⟨rfl, rfl, rfl, rfl, rfl⟩ rfl rfl rfl rfl rfl (by kernel_rfl) Tryd.func4 (by kernel_rfl)
    (of_decide_eq_true (by kernel_rfl)) (by unfold Func.isWrapper; first | (rw [if_pos (by decide +kernel)]; kernel_rfl) | (rw [if_neg (by decide +kernel)]; exact ⟨rfl, rfl⟩))
    (fun os started H enc _ F => by rw [OpenClaim.pre_eq_preRow]; exact lifted os started H enc F)

theorem plain (f : FuncId) (fn : Func) (hf : Tryd.pinned.checked.prog.funcNamed "feedvault/feedvaultlaw04.Rfc822ParseMatchesReference" = some f) (hfn : Tryd.pinned.checked.prog.funcs[f]? = some fn) :
    true = Tryd.pinned.checked.prog.looks [] ∧ ∀ (j : Nat) t, fn.params[j]? = some t → Tryd.pinned.checked.prog.wantsStandIn t = false := by
  obtain rfl : f = 4 := Option.some.inj ((show Tryd.prog.funcNamed "feedvault/feedvaultlaw04.Rfc822ParseMatchesReference" = some 4 by kernel_rfl).symm.trans hf) |>.symm
  obtain rfl : fn = Tryd.f4 := (Option.some.inj (Tryd.func4.symm.trans hfn)).symm
  refine ⟨by kernel_rfl, fun j t ht => ?_⟩
  rw [Tryd.params4] at ht
  have ht' := Array.mem_of_getElem? ht
  simp at ht'
  subst ht'
  exact (show Tryd.prog.wantsStandIn 9 = false by kernel_rfl)

theorem card : Rows.Rfc822ParseMatchesReferenceCardSaid :=
  Claim7.holds_tied_plain_at .later [] _ _ _ _ said (fun _ h => by cases h) (by kernel_rfl) (fun _ h => by cases h) rfc822ParseMatchesReference_row_tie rfl ⟨rfl, rfl⟩ (by kernel_rfl) rfl plain (by kernel_rfl)
end Go.Proofs.YtooabnmmgmmklaaDoor.parse4
