/-
  JsonvalueFunctions holds of every two values and every string, the listed tables being as the program's text lays them.
-/
import Derived.Test.YthlppbpccldikaaDoorCards
import Derived.Test.YthlppbpccldikaaDoorTie
import Derived.Test.YthlppbpccldikaaDoorH6
import Derived.Test.YthlppbpccldikaaDoorZOpenJ
import Derived.Test.YthlppbpccldikaaDoorZLaw11f
import Derived.ChangeMaps5
import Derived.SizedLaws
import Derived.Test.YthlppbpccldikaaDoorH21
import Derived.Deep.DeepHandedRow
import Derived.Deep.DeepWitnessRowRef
import Derived.OpenShut
set_option linter.unusedVariables false
namespace Go.Proofs.YthlppbpccldikaaDoor.functions11
open Go.ChangeShapes Go.WideShapes Go.ChangeAt Go.RowKit Go.ChangeMaps

def laidL : List (String × DataW Unit) := Rows.jsonvalueFunctionsRow.laid
theorem laidL_plain : laidL.filter (fun x => x.2.handleName?.isSome) = [] := by kernel_rfl
theorem laidL_met (os : Os) (args : Array Value) : laidMetH Tryd.prog laidL ((World.laidAll Tryd.prog os laidL).forCall (fun _ _ => 0) ⟨#[], args, []⟩).memory := by
  unfold laidMetH
  rw [laidL_plain]
  exact laidMet_laidAll _ (by kernel_rfl) (by kernel_rfl)

set_option maxRecDepth 100000 in
theorem contract (H : Type) (enc : TypeId × Value → H) (W : World) (base : Nat) (args : Array Value) (ds gs : List (DataW H)) (before : List MemPlace)
    (hval : ∀ (j : Nat) t v, Tryd.f3.params[j]? = some t → args[j]? = some v → Value.okWide Tryd.prog W .any base t v)
    (hW : DataW.Whole enc Tryd.prog Tryd.f3.params.toList Rows.jsonvalueFunctionsSpec.vars false W args.toList ds gs before)
    (hz : (DataW.weightsEach Tryd.prog (Tryd.f3.params.toList ++ (OpenSpec.ofChange Rows.jsonvalueFunctionsSpec).bare.plain.varTypes Tryd.prog) (ds ++ gs)).all (· ≤ reachBytes) = true)
    (hS : W.ShapedOpen Tryd.prog) (hL : laidMetH Tryd.prog Rows.jsonvalueFunctionsRow.laid W) :
    Calls Tryd.prog 3 args W fun e W' => ∃ v, e = .returned v ∧ Rows.jsonvalueFunctionsSpec.post enc Tryd.prog Tryd.f3 false true false false W args v W' := by
  have hTE : TabJ W ∧ NumE W := tab11_of_list (l := laidL) laidL_plain hL (by simp [laidL, Rows.jsonvalueFunctionsRow]) (by simp [laidL, Rows.jsonvalueFunctionsRow]) (by simp [laidL, Rows.jsonvalueFunctionsRow]) (by simp [laidL, Rows.jsonvalueFunctionsRow]) (by simp [laidL, Rows.jsonvalueFunctionsRow]) (by simp [laidL, Rows.jsonvalueFunctionsRow])
  have hT : Tabs W := hTE.1
  have hE := hTE.2
  have hW' := hW
  obtain ⟨p, q, hA0, hV, rfl, hfz, hnd⟩ := hW
  have hA : DataW.TrodAll enc Tryd.prog W 0 (fun _ => true) true Tryd.f3.params.toList args.toList ds p := hA0
  rw [Tryd.params3] at hA hval hz
  obtain ⟨v0, vs0, d0, ds0, p0, q0, hargs, rfl, rfl, h0, r0⟩ := trodAll_cons hA
  obtain ⟨v1, vs1, d1, ds1, p1, q1, rfl, rfl, rfl, h1, r1⟩ := trodAll_cons r0
  obtain ⟨v2, vs2, d2, ds2, p2, q2, rfl, rfl, rfl, h2, r2⟩ := trodAll_cons r1
  obtain ⟨rfl, rfl, rfl⟩ := trodAll_nil r2
  obtain rfl : args = #[v0, v1, v2] := by cases args; simp_all
  obtain ⟨rfl, rfl⟩ := trodVars_none hV
  obtain ⟨n0, hn0, hf0⟩ := open_valV (hval 0 _ v0 rfl rfl) h0 (fun x hx => by
    have := List.all_eq_true.1 hz x (DataW.weights_mem_each (j := 0) rfl rfl x hx)
    simpa using this)
  obtain ⟨n1, hn1, hf1⟩ := open_valV (hval 1 _ v1 rfl rfl) h1 (fun x hx => by
    have := List.all_eq_true.1 hz x (DataW.weights_mem_each (j := 1) rfl rfl x hx)
    simpa using this)
  obtain ⟨a2, rfl, rfl, rfl, w2⟩ := open_string Tryd.underlying9 (hval 2 _ v2 rfl rfl) h2
  have m2 : a2.data.toList.length ≤ 9223372036854775807 := by
    have e : a2.data.toList.length = a2.size := Array.length_toList
    rw [e]; exact Nat.le_trans w2 (by decide)
  have hcall := law11functions_any n0 n1 v0 v1 a2.data.toList W hT hE hf0 hf1 hn0 hn1 m2
  simp only [S_data'] at hcall
  refine hcall.mono ?_
  rintro e W' ⟨rfl, hb⟩
  exact ⟨_, rfl, law_post hW' rfl rfl rfl (by rw [Tryd.params3]; intro t ht; simp at ht; rcases ht with rfl | rfl <;> exact ⟨by kernel_rfl, of_decide_eq_true (by kernel_rfl)⟩) hb⟩

def arg0 : Array Value := #[.agg #[.int .i64 0, .bool false, .int .i64 0, .string ByteArray.empty, .slice none 0 0, .slice none 0 0, .int .i64 0], .agg #[.int .i64 0, .bool false, .int .i64 0, .string ByteArray.empty, .slice none 0 0, .slice none 0 0, .int .i64 0], .string ByteArray.empty]
theorem reads (os : Os) {H : Type} (enc : TypeId × Value → H) : ∃ places, DataW.whole enc Tryd.prog ((World.laidAll Tryd.prog os laidL).forCall (fun _ _ => 0) ⟨#[], arg0, []⟩).memory Tryd.f3.params.toList Rows.jsonvalueFunctionsSpec.vars false arg0.toList 8 =
    some ([.agg [.lit (.int .i64 0), .lit (.bool false), .lit (.int .i64 0), .lit (.string []), .nil, .nil, .lit (.int .i64 0)], .agg [.lit (.int .i64 0), .lit (.bool false), .lit (.int .i64 0), .lit (.string []), .nil, .nil, .lit (.int .i64 0)], .lit (.string [])], [], places) :=
  ⟨[], by kernel_rfl⟩

set_option maxRecDepth 100000 in
theorem lifted (os : Os) (started : os.Started) (H : Type) (enc : TypeId × Value → H) (F : Stop.Interp) :
    ReturnsInHanded {} Tryd.checked os 3 .any ((OpenSpec.ofChange Rows.jsonvalueFunctionsSpec).preRow enc Tryd.prog Tryd.f3 Rows.jsonvalueFunctionsRow.domain false Rows.jsonvalueFunctionsRow.laid) (((OpenSpec.ofChange Rows.jsonvalueFunctionsSpec).at F).post enc Tryd.prog Tryd.f3 false true false false) := by
  obtain ⟨places, hx⟩ := reads os enc
  refine returnsInHanded_of_row (C := Tryd.checked) (s := OpenSpec.ofChange Rows.jsonvalueFunctionsSpec) own started (by kernel_rfl) Tryd.func3
    (witness_row_atRef (enc := enc) (C := Tryd.checked) false (World.laidAll Tryd.prog os laidL) arg0 (World.laidAll_os _ _ _) (by kernel_rfl) (by kernel_rfl) (by kernel_rfl)
      (OpenSpec.preRow_of_cond 8 hx (by kernel_rfl) (fun k hk => by cases hk) (by kernel_rfl) (laidL_met os arg0))) ?_
  intro W base args ds gs before hval hW _ _ hz hL hS _
  exact contract H enc W base args ds gs before hval hW hz hS hL

theorem said : Rows.JsonvalueFunctionsSaid :=
  OpenClaim.holds_of_cond 3 Tryd.f3 rfl rfl rfl rfl rfl rfl rfl ⟨rfl, rfl, rfl, rfl, rfl⟩ rfl rfl rfl rfl rfl (by kernel_rfl) Tryd.func3 (by kernel_rfl)
    (of_decide_eq_true (by kernel_rfl)) (by unfold Func.isWrapper; first | (rw [if_pos (by decide +kernel)]; kernel_rfl) | (rw [if_neg (by decide +kernel)]; exact ⟨rfl, rfl⟩))
    (fun os started H enc _ F => by rw [OpenClaim.pre_eq_preRow]; exact lifted os started H enc F)

theorem plain (f : FuncId) (fn : Func) (hf : Tryd.pinned.checked.prog.funcNamed "feedvault/feedvaultlaw11.JsonvalueFunctions" = some f) (hfn : Tryd.pinned.checked.prog.funcs[f]? = some fn) :
    true = Tryd.pinned.checked.prog.looks [] ∧ ∀ (j : Nat) t, fn.params[j]? = some t → Tryd.pinned.checked.prog.wantsStandIn t = false := by
  obtain rfl : f = 3 := Option.some.inj ((show Tryd.prog.funcNamed "feedvault/feedvaultlaw11.JsonvalueFunctions" = some 3 by kernel_rfl).symm.trans hf) |>.symm
  obtain rfl : fn = Tryd.f3 := (Option.some.inj (Tryd.func3.symm.trans hfn)).symm
  refine ⟨by kernel_rfl, fun j t ht => ?_⟩
  rw [Tryd.params3] at ht
  have ht' := Array.mem_of_getElem? ht
  simp at ht'
  rcases ht' with rfl | rfl
  · exact (show Tryd.prog.wantsStandIn 25 = false by kernel_rfl)
  · exact (show Tryd.prog.wantsStandIn 9 = false by kernel_rfl)

theorem card : Rows.JsonvalueFunctionsCardSaid :=
  Claim7.holds_tied_plain_at .later [] _ _ _ _ said (fun _ h => by cases h) (by kernel_rfl) (fun _ h => by cases h) jsonvalueFunctions_row_tie rfl ⟨rfl, rfl⟩ (by kernel_rfl) rfl plain (by kernel_rfl)
end Go.Proofs.YthlppbpccldikaaDoor.functions11
