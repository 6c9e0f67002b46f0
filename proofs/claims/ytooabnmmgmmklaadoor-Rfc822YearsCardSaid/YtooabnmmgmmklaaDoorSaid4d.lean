/-
  Rfc822Years holds of every three bytes, the listed tables being as the program's text lays them.
-/
import Derived.Test.YtooabnmmgmmklaaDoorCards
import Derived.Test.YtooabnmmgmmklaaDoorTie
import Derived.Test.YtooabnmmgmmklaaDoorTabsD
import Derived.Test.YtooabnmmgmmklaaDoorLaw4d
import Derived.ChangeMaps5
import Derived.SizedLaws
import Derived.Test.YtooabnmmgmmklaaDoorPost
import Derived.Deep.DeepHandedRow
import Derived.Deep.DeepWitnessRowRef
import Derived.OpenShut
set_option linter.unusedVariables false
namespace Go.Proofs.YtooabnmmgmmklaaDoor.years4
open Go.ChangeShapes Go.WideShapes Go.ChangeAt Go.RowKit Go.ChangeMaps

set_option maxRecDepth 100000 in
theorem contract (H : Type) (enc : TypeId × Value → H) (W : World) (base : Nat) (args : Array Value) (ds gs : List (DataW H)) (before : List MemPlace)
    (hval : ∀ (j : Nat) t v, Tryd.f6.params[j]? = some t → args[j]? = some v → Value.okWide Tryd.prog W .any base t v)
    (hW : DataW.Whole enc Tryd.prog Tryd.f6.params.toList Rows.rfc822YearsSpec.vars false W args.toList ds gs before)
    (hz : (DataW.weightsEach Tryd.prog (Tryd.f6.params.toList ++ (OpenSpec.ofChange Rows.rfc822YearsSpec).bare.plain.varTypes Tryd.prog) (ds ++ gs)).all (· ≤ reachBytes) = true)
    (hS : W.ShapedOpen Tryd.prog) (hL : laidMetH Tryd.prog Rows.rfc822YearsRow.laid W) :
    Calls Tryd.prog 6 args W fun e W' => ∃ v, e = .returned v ∧ Rows.rfc822YearsSpec.post enc Tryd.prog Tryd.f6 false true false false W args v W' := by
  have hT : Tab4 W := tab4_of_laidD hL hS
  have hW' := hW
  obtain ⟨p, q, hA0, hV, rfl, hfz, hnd⟩ := hW
  have hA : DataW.TrodAll enc Tryd.prog W 0 (fun _ => true) true Tryd.f6.params.toList args.toList ds p := hA0
  rw [Tryd.params6] at hA hval hz
  obtain ⟨v0, vs0, d0, ds0, p0, q0, hargs, rfl, rfl, h0, r0⟩ := trodAll_cons hA
  obtain ⟨v1, vs1, d1, ds1, p1, q1, rfl, rfl, rfl, h1, r1⟩ := trodAll_cons r0
  obtain ⟨v2, vs2, d2, ds2, p2, q2, rfl, rfl, rfl, h2, r2⟩ := trodAll_cons r1
  obtain ⟨rfl, rfl, rfl⟩ := trodAll_nil r2
  obtain rfl : args = #[v0, v1, v2] := by cases args; simp_all
  obtain ⟨rfl, rfl⟩ := trodVars_none hV
  obtain ⟨x0, rfl, rfl, rfl, w0⟩ := open_int Tryd.underlying5 (hval 0 _ v0 rfl rfl) h0
  obtain ⟨hn0, hm0⟩ := bounds_u8 w0
  obtain ⟨x0, rfl⟩ := Int.eq_ofNat_of_zero_le hn0
  obtain ⟨x1, rfl, rfl, rfl, w1⟩ := open_int Tryd.underlying5 (hval 1 _ v1 rfl rfl) h1
  obtain ⟨hn1, hm1⟩ := bounds_u8 w1
  obtain ⟨x1, rfl⟩ := Int.eq_ofNat_of_zero_le hn1
  obtain ⟨x2, rfl, rfl, rfl, w2⟩ := open_int Tryd.underlying5 (hval 2 _ v2 rfl rfl) h2
  obtain ⟨hn2, hm2⟩ := bounds_u8 w2
  obtain ⟨x2, rfl⟩ := Int.eq_ofNat_of_zero_le hn2
  refine (law4years_any x0 x1 x2 (by omega) (by omega) (by omega) W hT).mono ?_
  rintro e W' ⟨rfl, hb⟩
  exact ⟨_, rfl, law_post hW' rfl rfl rfl (by rw [Tryd.params6]; intro t ht; simp at ht; subst ht; exact ⟨by kernel_rfl, of_decide_eq_true (by kernel_rfl)⟩) hb⟩

def arg0 : Array Value := #[.int .u8 0, .int .u8 0, .int .u8 0]
theorem reads (os : Os) {H : Type} (enc : TypeId × Value → H) : ∃ places, DataW.whole enc Tryd.prog ((World.laidAll Tryd.prog os laidD).forCall (fun _ _ => 0) ⟨#[], arg0, []⟩).memory Tryd.f6.params.toList Rows.rfc822YearsSpec.vars false arg0.toList 8 =
    some ([.lit (.int .u8 0), .lit (.int .u8 0), .lit (.int .u8 0)], [], places) :=
  ⟨[], by kernel_rfl⟩

set_option maxRecDepth 100000 in
theorem lifted (os : Os) (started : os.Started) (H : Type) (enc : TypeId × Value → H) (F : Stop.Interp) :
    ReturnsInHanded {} Tryd.checked os 6 .any ((OpenSpec.ofChange Rows.rfc822YearsSpec).preRow enc Tryd.prog Tryd.f6 Rows.rfc822YearsRow.domain false Rows.rfc822YearsRow.laid) (((OpenSpec.ofChange Rows.rfc822YearsSpec).at F).post enc Tryd.prog Tryd.f6 false true false false) := by
  obtain ⟨places, hx⟩ := reads os enc
  refine returnsInHanded_of_row (C := Tryd.checked) (s := OpenSpec.ofChange Rows.rfc822YearsSpec) own started (by kernel_rfl) Tryd.func6
    (witness_row_atRef (enc := enc) (C := Tryd.checked) false (World.laidAll Tryd.prog os laidD) arg0 (World.laidAll_os _ _ _) (by kernel_rfl) (by kernel_rfl) (by kernel_rfl)
      (OpenSpec.preRow_of_cond 8 hx (by kernel_rfl) (fun k hk => by cases hk) (by kernel_rfl) (laidD_met os arg0))) ?_
  intro W base args ds gs before hval hW _ _ hz hL hS _
  exact contract H enc W base args ds gs before hval hW hz hS hL

theorem said : Rows.Rfc822YearsSaid :=
  OpenClaim.holds_of_cond 6 Tryd.f6 rfl rfl rfl rfl rfl rfl rfl ⟨rfl, rfl, rfl, rfl, rfl⟩ rfl rfl rfl rfl rfl (by kernel_rfl) Tryd.func6 (by kernel_rfl)
    (of_decide_eq_true (by kernel_rfl)) (by unfold Func.isWrapper; first | (rw [if_pos (by decide +kernel)]; kernel_rfl) | (rw [if_neg (by decide +kernel)]; exact ⟨rfl, rfl⟩))
    (fun os started H enc _ F => by rw [OpenClaim.pre_eq_preRow]; exact lifted os started H enc F)

theorem plain (f : FuncId) (fn : Func) (hf : Tryd.pinned.checked.prog.funcNamed "feedvault/feedvaultlaw04.Rfc822Years" = some f) (hfn : Tryd.pinned.checked.prog.funcs[f]? = some fn) :
    true = Tryd.pinned.checked.prog.looks [] ∧ ∀ (j : Nat) t, fn.params[j]? = some t → Tryd.pinned.checked.prog.wantsStandIn t = false := by
  obtain rfl : f = 6 := Option.some.inj ((show Tryd.prog.funcNamed "feedvault/feedvaultlaw04.Rfc822Years" = some 6 by kernel_rfl).symm.trans hf) |>.symm
  obtain rfl : fn = Tryd.f6 := (Option.some.inj (Tryd.func6.symm.trans hfn)).symm
  refine ⟨by kernel_rfl, fun j t ht => ?_⟩
  rw [Tryd.params6] at ht
  have ht' := Array.mem_of_getElem? ht
  simp at ht'
  subst ht'
  exact (show Tryd.prog.wantsStandIn 5 = false by kernel_rfl)

theorem card : Rows.Rfc822YearsCardSaid :=
  Claim7.holds_tied_plain_at .later [] _ _ _ _ said (fun _ h => by cases h) (by kernel_rfl) (fun _ h => by cases h) rfc822Years_row_tie rfl ⟨rfl, rfl⟩ (by kernel_rfl) rfl plain (by kernel_rfl)
end Go.Proofs.YtooabnmmgmmklaaDoor.years4
