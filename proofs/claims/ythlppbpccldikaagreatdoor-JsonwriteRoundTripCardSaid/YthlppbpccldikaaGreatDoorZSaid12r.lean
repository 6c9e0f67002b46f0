/-
  JsonwriteRoundTrip holds of every value, the listed tables being as the program's text lays them.
-/
import Derived.Test.YthlppbpccldikaaGreatDoorCards
import Derived.Test.YthlppbpccldikaaGreatDoorTie
import Derived.Test.YthlppbpccldikaaGreatDoorH6
import Derived.Test.YthlppbpccldikaaGreatDoorZOpenJ
import Derived.Test.YthlppbpccldikaaGreatDoorZLaw12r
import Derived.ChangeMaps5
import Derived.SizedLaws
import Derived.Test.YthlppbpccldikaaGreatDoorH21
import Derived.Deep.DeepHandedRow
import Derived.Deep.DeepWitnessRowRef
import Derived.OpenShut
set_option linter.unusedVariables false
namespace Go.Proofs.YthlppbpccldikaaGreatDoor.trip12
open Go.ChangeShapes Go.WideShapes Go.ChangeAt Go.RowKit Go.ChangeMaps

def laidL : List (String × DataW Unit) := Rows.jsonwriteRoundTripRow.laid
theorem laidL_plain : laidL.filter (fun x => x.2.handleName?.isSome) = [] := by kernel_rfl
theorem laidL_met (os : Os) (args : Array Value) : laidMetH Tryz.prog laidL ((World.laidAll Tryz.prog os laidL).forCall (fun _ _ => 0) ⟨#[], args, []⟩).memory := by
  unfold laidMetH
  rw [laidL_plain]
  exact laidMet_laidAll _ (by kernel_rfl) (by kernel_rfl)

set_option maxRecDepth 100000 in
theorem contract (H : Type) (enc : TypeId × Value → H) (W : World) (base : Nat) (args : Array Value) (ds gs : List (DataW H)) (before : List MemPlace)
    (hval : ∀ (j : Nat) t v, Tryz.f5.params[j]? = some t → args[j]? = some v → Value.okWide Tryz.prog W .any base t v)
    (hW : DataW.Whole enc Tryz.prog Tryz.f5.params.toList Rows.jsonwriteRoundTripSpec.vars false W args.toList ds gs before)
    (hz : (DataW.weightsEach Tryz.prog (Tryz.f5.params.toList ++ (OpenSpec.ofChange Rows.jsonwriteRoundTripSpec).bare.plain.varTypes Tryz.prog) (ds ++ gs)).all (· ≤ reachBytes) = true)
    (hS : W.ShapedOpen Tryz.prog) (hL : laidMetH Tryz.prog Rows.jsonwriteRoundTripRow.laid W) :
    Calls Tryz.prog 5 args W fun e W' => ∃ v, e = .returned v ∧ Rows.jsonwriteRoundTripSpec.post enc Tryz.prog Tryz.f5 false true false false W args v W' := by
  have hTE : TabJ W ∧ NumE W := tab11_of_list (l := laidL) laidL_plain hL (by simp [laidL, Rows.jsonwriteRoundTripRow]) (by simp [laidL, Rows.jsonwriteRoundTripRow]) (by simp [laidL, Rows.jsonwriteRoundTripRow]) (by simp [laidL, Rows.jsonwriteRoundTripRow]) (by simp [laidL, Rows.jsonwriteRoundTripRow]) (by simp [laidL, Rows.jsonwriteRoundTripRow])
  have hT : Tabs W := hTE.1
  have hE := hTE.2
  have hW' := hW
  obtain ⟨p, q, hA0, hV, rfl, hfz, hnd⟩ := hW
  have hA : DataW.TrodAll enc Tryz.prog W 0 (fun _ => true) true Tryz.f5.params.toList args.toList ds p := hA0
  rw [Tryz.params5] at hA hval hz
  obtain ⟨v0, vs0, d0, ds0, p0, q0, hargs, rfl, rfl, h0, r0⟩ := trodAll_cons hA
  obtain ⟨rfl, rfl, rfl⟩ := trodAll_nil r0
  obtain rfl : args = #[v0] := by cases args; simp_all
  obtain ⟨rfl, rfl⟩ := trodVars_none hV
  obtain ⟨n0, hn0, hf0⟩ := open_valV (hval 0 _ v0 rfl rfl) h0 (fun x hx => by
    have := List.all_eq_true.1 hz x (DataW.weights_mem_each (j := 0) rfl rfl x hx)
    simpa using this)
  refine (law12trip_any n0 v0 W hT hE hf0 hn0).mono ?_
  rintro e W' ⟨rfl, hb⟩
  exact ⟨_, rfl, law_post hW' rfl rfl rfl (by rw [Tryz.params5]; intro t ht; simp at ht; subst ht; exact ⟨by kernel_rfl, of_decide_eq_true (by kernel_rfl)⟩) hb⟩

def arg0 : Array Value := #[.agg #[.int .i64 0, .bool false, .int .i64 0, .string ByteArray.empty, .slice none 0 0, .slice none 0 0, .int .i64 0]]
theorem reads (os : Os) {H : Type} (enc : TypeId × Value → H) : ∃ places, DataW.whole enc Tryz.prog ((World.laidAll Tryz.prog os laidL).forCall (fun _ _ => 0) ⟨#[], arg0, []⟩).memory Tryz.f5.params.toList Rows.jsonwriteRoundTripSpec.vars false arg0.toList 8 =
    some ([.agg [.lit (.int .i64 0), .lit (.bool false), .lit (.int .i64 0), .lit (.string []), .nil, .nil, .lit (.int .i64 0)]], [], places) :=
  ⟨[], by kernel_rfl⟩

set_option maxRecDepth 100000 in
theorem lifted (os : Os) (started : os.Started) (H : Type) (enc : TypeId × Value → H) (F : Stop.Interp) :
    ReturnsInHanded {} Tryz.checked os 5 .any ((OpenSpec.ofChange Rows.jsonwriteRoundTripSpec).preRow enc Tryz.prog Tryz.f5 Rows.jsonwriteRoundTripRow.domain false Rows.jsonwriteRoundTripRow.laid) (((OpenSpec.ofChange Rows.jsonwriteRoundTripSpec).at F).post enc Tryz.prog Tryz.f5 false true false false) := by
  obtain ⟨places, hx⟩ := reads os enc
  refine returnsInHanded_of_row (C := Tryz.checked) (s := OpenSpec.ofChange Rows.jsonwriteRoundTripSpec) own started (by kernel_rfl) Tryz.func5
    (witness_row_atRef (enc := enc) (C := Tryz.checked) false (World.laidAll Tryz.prog os laidL) arg0 (World.laidAll_os _ _ _) (by kernel_rfl) (by kernel_rfl) (by kernel_rfl)
      (OpenSpec.preRow_of_cond 8 hx (by kernel_rfl) (fun k hk => by cases hk) (by kernel_rfl) (laidL_met os arg0))) ?_
  intro W base args ds gs before hval hW _ _ hz hL hS _
  exact contract H enc W base args ds gs before hval hW hz hS hL

theorem said : Rows.JsonwriteRoundTripSaid :=
  OpenClaim.holds_of_cond 5 Tryz.f5 rfl rfl rfl rfl rfl rfl rfl ⟨rfl, rfl, rfl, rfl, rfl⟩ rfl rfl rfl rfl rfl (by kernel_rfl) Tryz.func5 (by kernel_rfl)
    (of_decide_eq_true (by kernel_rfl)) (by unfold Func.isWrapper; first | (rw [if_pos (by decide +kernel)]; kernel_rfl) | (rw [if_neg (by decide +kernel)]; exact ⟨rfl, rfl⟩))
    (fun os started H enc _ F => by rw [OpenClaim.pre_eq_preRow]; exact lifted os started H enc F)

theorem plain (f : FuncId) (fn : Func) (hf : Tryz.pinned.checked.prog.funcNamed "feedvault/feedvaultlaw12.JsonwriteRoundTrip" = some f) (hfn : Tryz.pinned.checked.prog.funcs[f]? = some fn) :
    true = Tryz.pinned.checked.prog.looks [] ∧ ∀ (j : Nat) t, fn.params[j]? = some t → Tryz.pinned.checked.prog.wantsStandIn t = false := by
  obtain rfl : f = 5 := Option.some.inj ((show Tryz.prog.funcNamed "feedvault/feedvaultlaw12.JsonwriteRoundTrip" = some 5 by kernel_rfl).symm.trans hf) |>.symm
  obtain rfl : fn = Tryz.f5 := (Option.some.inj (Tryz.func5.symm.trans hfn)).symm
  refine ⟨by kernel_rfl, fun j t ht => ?_⟩
  rw [Tryz.params5] at ht
  have ht' := Array.mem_of_getElem? ht
  simp at ht'
  subst ht'
  exact (show Tryz.prog.wantsStandIn 26 = false by kernel_rfl)

theorem card : Rows.JsonwriteRoundTripCardSaid :=
  Claim7.holds_tied_plain_at .later [] _ _ _ _ said (fun _ h => by cases h) (by kernel_rfl) (fun _ h => by cases h) jsonwriteRoundTrip_row_tie rfl ⟨rfl, rfl⟩ (by kernel_rfl) rfl plain (by kernel_rfl)
end Go.Proofs.YthlppbpccldikaaGreatDoor.trip12
