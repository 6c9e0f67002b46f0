/-
  JsonvalueSpaces holds of every string and every number of a byte, the listed tables being as the program's text lays them.
-/
import Derived.Test.YthlppbpccldikaaGreatDoorCards
import Derived.Test.YthlppbpccldikaaGreatDoorTie
import Derived.Test.YthlppbpccldikaaGreatDoorH6
import Derived.Test.YthlppbpccldikaaGreatDoorZLaw11c
import Derived.ChangeMaps5
import Derived.SizedLaws
import Derived.Test.YthlppbpccldikaaGreatDoorH21
import Derived.Deep.DeepHandedRow
import Derived.Deep.DeepWitnessRowRef
import Derived.OpenShut
set_option linter.unusedVariables false
namespace Go.Proofs.YthlppbpccldikaaGreatDoor.spaces11
open Go.ChangeShapes Go.WideShapes Go.ChangeAt Go.RowKit Go.ChangeMaps

def laidL : List (String × DataW Unit) := Rows.jsonvalueSpacesRow.laid
theorem laidL_plain : laidL.filter (fun x => x.2.handleName?.isSome) = [] := by kernel_rfl
theorem laidL_met (os : Os) (args : Array Value) : laidMetH Tryz.prog laidL ((World.laidAll Tryz.prog os laidL).forCall (fun _ _ => 0) ⟨#[], args, []⟩).memory := by
  unfold laidMetH
  rw [laidL_plain]
  exact laidMet_laidAll _ (by kernel_rfl) (by kernel_rfl)

set_option maxRecDepth 100000 in
theorem contract (H : Type) (enc : TypeId × Value → H) (W : World) (base : Nat) (args : Array Value) (ds gs : List (DataW H)) (before : List MemPlace)
    (hval : ∀ (j : Nat) t v, Tryz.f4.params[j]? = some t → args[j]? = some v → Value.okWide Tryz.prog W .any base t v)
    (hW : DataW.Whole enc Tryz.prog Tryz.f4.params.toList Rows.jsonvalueSpacesSpec.vars false W args.toList ds gs before)
    (hz : (DataW.weightsEach Tryz.prog (Tryz.f4.params.toList ++ (OpenSpec.ofChange Rows.jsonvalueSpacesSpec).bare.plain.varTypes Tryz.prog) (ds ++ gs)).all (· ≤ reachBytes) = true)
    (hS : W.ShapedOpen Tryz.prog) (hL : laidMetH Tryz.prog Rows.jsonvalueSpacesRow.laid W) :
    Calls Tryz.prog 4 args W fun e W' => ∃ v, e = .returned v ∧ Rows.jsonvalueSpacesSpec.post enc Tryz.prog Tryz.f4 false true false false W args v W' := by
  have hTE : TabJ W ∧ NumE W := tab11_of_list (l := laidL) laidL_plain hL (by simp [laidL, Rows.jsonvalueSpacesRow]) (by simp [laidL, Rows.jsonvalueSpacesRow]) (by simp [laidL, Rows.jsonvalueSpacesRow]) (by simp [laidL, Rows.jsonvalueSpacesRow]) (by simp [laidL, Rows.jsonvalueSpacesRow]) (by simp [laidL, Rows.jsonvalueSpacesRow])
  have hT : Tabs W := hTE.1
  have hE := hTE.2
  have hW' := hW
  obtain ⟨p, q, hA0, hV, rfl, hfz, hnd⟩ := hW
  have hA : DataW.TrodAll enc Tryz.prog W 0 (fun _ => true) true Tryz.f4.params.toList args.toList ds p := hA0
  rw [Tryz.params4] at hA hval hz
  obtain ⟨v0, vs0, d0, ds0, p0, q0, hargs, rfl, rfl, h0, r0⟩ := trodAll_cons hA
  obtain ⟨v1, vs1, d1, ds1, p1, q1, rfl, rfl, rfl, h1, r1⟩ := trodAll_cons r0
  obtain ⟨rfl, rfl, rfl⟩ := trodAll_nil r1
  obtain rfl : args = #[v0, v1] := by cases args; simp_all
  obtain ⟨rfl, rfl⟩ := trodVars_none hV
  obtain ⟨a0, rfl, rfl, rfl, w0⟩ := open_string Tryz.underlying9 (hval 0 _ v0 rfl rfl) h0
  have m0 : a0.data.toList.length ≤ 9223372036854775807 := by
    have e : a0.data.toList.length = a0.size := Array.length_toList
    rw [e]; exact Nat.le_trans w0 (by decide)
  obtain ⟨x1, rfl, rfl, rfl, w1⟩ := open_int Tryz.underlying5 (hval 1 _ v1 rfl rfl) h1
  obtain ⟨hn1, hm1⟩ := bounds_u8 w1
  obtain ⟨x1, rfl⟩ := Int.eq_ofNat_of_zero_le hn1
  have hcall := law11spaces_any a0.data.toList x1 W hT hE m0 (by omega)
  simp only [S_data'] at hcall
  refine hcall.mono ?_
  rintro e W' ⟨rfl, hb⟩
  exact ⟨_, rfl, law_post hW' rfl rfl rfl (by rw [Tryz.params4]; intro t ht; simp at ht; rcases ht with rfl | rfl <;> exact ⟨by kernel_rfl, of_decide_eq_true (by kernel_rfl)⟩) hb⟩

def arg0 : Array Value := #[.string ByteArray.empty, .int .u8 0]
theorem reads (os : Os) {H : Type} (enc : TypeId × Value → H) : ∃ places, DataW.whole enc Tryz.prog ((World.laidAll Tryz.prog os laidL).forCall (fun _ _ => 0) ⟨#[], arg0, []⟩).memory Tryz.f4.params.toList Rows.jsonvalueSpacesSpec.vars false arg0.toList 8 =
    some ([.lit (.string []), .lit (.int .u8 0)], [], places) :=
  ⟨[], by kernel_rfl⟩

set_option maxRecDepth 100000 in
theorem lifted (os : Os) (started : os.Started) (H : Type) (enc : TypeId × Value → H) (F : Stop.Interp) :
    ReturnsInHanded {} Tryz.checked os 4 .any ((OpenSpec.ofChange Rows.jsonvalueSpacesSpec).preRow enc Tryz.prog Tryz.f4 Rows.jsonvalueSpacesRow.domain false Rows.jsonvalueSpacesRow.laid) (((OpenSpec.ofChange Rows.jsonvalueSpacesSpec).at F).post enc Tryz.prog Tryz.f4 false true false false) := by
  obtain ⟨places, hx⟩ := reads os enc
  refine returnsInHanded_of_row (C := Tryz.checked) (s := OpenSpec.ofChange Rows.jsonvalueSpacesSpec) own started (by kernel_rfl) Tryz.func4
    (witness_row_atRef (enc := enc) (C := Tryz.checked) false (World.laidAll Tryz.prog os laidL) arg0 (World.laidAll_os _ _ _) (by kernel_rfl) (by kernel_rfl) (by kernel_rfl)
      (OpenSpec.preRow_of_cond 8 hx (by kernel_rfl) (fun k hk => by cases hk) (by kernel_rfl) (laidL_met os arg0))) ?_
  intro W base args ds gs before hval hW _ _ hz hL hS _
  exact contract H enc W base args ds gs before hval hW hz hS hL

theorem said : Rows.JsonvalueSpacesSaid :=
  OpenClaim.holds_of_cond 4 Tryz.f4 rfl rfl rfl rfl rfl rfl rfl ⟨rfl, rfl, rfl, rfl, rfl⟩ rfl rfl rfl rfl rfl (by kernel_rfl) Tryz.func4 (by kernel_rfl)
    (of_decide_eq_true (by kernel_rfl)) (by unfold Func.isWrapper; first | (rw [if_pos (by decide +kernel)]; kernel_rfl) | (rw [if_neg (by decide +kernel)]; exact ⟨rfl, rfl⟩))
    (fun os started H enc _ F => by rw [OpenClaim.pre_eq_preRow]; exact lifted os started H enc F)

theorem plain (f : FuncId) (fn : Func) (hf : Tryz.pinned.checked.prog.funcNamed "feedvault/feedvaultlaw11.JsonvalueSpaces" = some f) (hfn : Tryz.pinned.checked.prog.funcs[f]? = some fn) :
    true = Tryz.pinned.checked.prog.looks [] ∧ ∀ (j : Nat) t, fn.params[j]? = some t → Tryz.pinned.checked.prog.wantsStandIn t = false := by
  obtain rfl : f = 4 := Option.some.inj ((show Tryz.prog.funcNamed "feedvault/feedvaultlaw11.JsonvalueSpaces" = some 4 by kernel_rfl).symm.trans hf) |>.symm
  obtain rfl : fn = Tryz.f4 := (Option.some.inj (Tryz.func4.symm.trans hfn)).symm
  refine ⟨by kernel_rfl, fun j t ht => ?_⟩
  rw [Tryz.params4] at ht
  have ht' := Array.mem_of_getElem? ht
  simp at ht'
  rcases ht' with rfl | rfl
  · exact (show Tryz.prog.wantsStandIn 9 = false by kernel_rfl)
  · exact (show Tryz.prog.wantsStandIn 5 = false by kernel_rfl)

theorem card : Rows.JsonvalueSpacesCardSaid :=
  Claim7.holds_tied_plain_at .later [] _ _ _ _ said (fun _ h => by cases h) (by kernel_rfl) (fun _ h => by cases h) jsonvalueSpaces_row_tie rfl ⟨rfl, rfl⟩ (by kernel_rfl) rfl plain (by kernel_rfl)
end Go.Proofs.YthlppbpccldikaaGreatDoor.spaces11
