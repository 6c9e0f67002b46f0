/-
  XmlwriteBuilds holds of every name, every list of nodes and every list of strings, the listed tables being as the program's text lays them.
-/
import Derived.Test.YthilaolkkamedaaDoorCards
import Derived.Test.YthilaolkkamedaaDoorTie
import Derived.Deep.DeepHandedRow
import Derived.OpenShut
import Derived.Test.YthilaolkkamedaaDoorF5
set_option linter.unusedVariables false
namespace Go.Proofs.YthilaolkkamedaaDoor.builds9
open Go.ChangeShapes Go.WideShapes Go.ChangeAt Go.RowKit
open Go.ChangeMaps (open_string)

theorem bytesStr : Tryd.prog.bytesOf 9 = 16 := by kernel_rfl
theorem contract (H : Type) (enc : TypeId × Value → H) (W : World) (base : Nat) (args : Array Value) (ds gs : List (DataW H)) (before : List MemPlace)
    (hval : ∀ (j : Nat) t v, Tryd.f4.params[j]? = some t → args[j]? = some v → Value.okWide Tryd.prog W .any base t v)
    (hW : DataW.Whole enc Tryd.prog Tryd.f4.params.toList Rows.xmlwriteBuildsSpec.vars false W args.toList ds gs before)
    (hz : (DataW.weightsEach Tryd.prog (Tryd.f4.params.toList ++ (OpenSpec.ofChange Rows.xmlwriteBuildsSpec).bare.plain.varTypes Tryd.prog) (ds ++ gs)).all (· ≤ reachBytes) = true)
    (hL : laidMetH Tryd.prog Rows.xmlwriteBuildsRow.laid W) :
    Calls Tryd.prog 4 args W fun e W' => ∃ v, e = .returned v ∧ Rows.xmlwriteBuildsSpec.post enc Tryd.prog Tryd.f4 false true false false W args v W' := by
  have hT : Tabs W := tabs_of_laid hL
  have hW' := hW
  obtain ⟨p, q, hA0, hV, rfl, hfz, hnd⟩ := hW
  have hA : DataW.TrodAll enc Tryd.prog W 0 (fun _ => true) true Tryd.f4.params.toList args.toList ds p := hA0
  rw [Tryd.params4] at hA hval hz
  obtain ⟨v0, vs0, d0, ds0, p0, q0, hargs, rfl, rfl, h0, r0⟩ := trodAll_cons hA
  obtain ⟨v1, vs1, d1, ds1, p1, q1, rfl, rfl, rfl, h1, r1⟩ := trodAll_cons r0
  obtain ⟨v2, vs2, d2, ds2, p2, q2, rfl, rfl, rfl, h2, r2⟩ := trodAll_cons r1
  obtain ⟨rfl, rfl, rfl⟩ := trodAll_nil r2
  obtain rfl : args = #[v0, v1, v2] := by cases args; simp_all
  obtain ⟨rfl, rfl⟩ := trodVars_none hV
  have hz0 := fun x hx => by
    have := List.all_eq_true.1 hz x (DataW.weights_mem_each (j := 0) rfl rfl x hx)
    simpa using this
  have hz1 := fun x hx => by
    have := List.all_eq_true.1 hz x (DataW.weights_mem_each (j := 1) rfl rfl x hx)
    simpa using this
  have hz2 := fun x hx => by
    have := List.all_eq_true.1 hz x (DataW.weights_mem_each (j := 2) rfl rfl x hx)
    simpa using this
  have hreach : reachBytes = 140737488351232 := rfl
  obtain ⟨nm, rfl, rfl, rfl, hnm⟩ := open_string Tryd.underlying9 (hval 0 _ v0 rfl rfl) h0
  obtain ⟨A1, len1, cap1, rfl⟩ := okWide_slice Tryd.underlying23 (hval 1 _ v1 rfl rfl)
  obtain ⟨A2, len2, cap2, rfl⟩ := okWide_slice Tryd.underlying35 (hval 2 _ v2 rfl rfl)
  obtain ⟨fuel1, hf1⟩ := h1
  obtain ⟨fuel2, hf2⟩ := h2
  obtain ⟨vk, ks, e1, hk, hkl, hkf⟩ := open_nodes hf1 hz1
  obtain ⟨vp, ps, e2, hp⟩ := open_strs hf2
  have e1' : Value.slice A1 len1 cap1 = vk := by simpa [Value.cells] using e1
  have e2' : Value.slice A2 len2 cap2 = vp := by simpa [Value.cells] using e2
  subst e1' e2'
  have hfk : Fit (kidsNode ks) := Fit.of_form (Nat.zero_le _) hkl hkf
  have hnl : nm.data.toList.length ≤ 4611686018427387904 := by
    have := hz0 nm.data.toList.length (by simp [DataW.weights])
    omega
  have hpl : ps.length ≤ 4611686018427387904 := by
    obtain ⟨A, c, hv, hc, hc2, _⟩ := hp
    rcases DataW.trod_slice Tryd.underlying35 hf2 with ⟨hcs, _⟩ | ⟨a, len, cap, elems, rest, n, _, hcs, hxx, _, hlc, _, hel, _, _⟩
    · cases hv
      simp [Value.cells] at hcs
      omega
    · cases hv
      simp [Value.cells] at hcs
      simp only [Prod.mk.injEq] at hxx
      obtain ⟨rfl, _⟩ := hxx
      have := hz2 ((elems.length + rest.length) * 16) (by simp [DataW.weights, Tryd.underlying35, bytesStr])
      omega
  have hfin : Calls Tryd.prog 4 #[.string (S nm.data.toList), .slice A1 len1 cap1, .slice A2 len2 cap2] W fun e w' => e = .returned (.bool true) ∧ Below W.heap.size W w' := by
    by_cases h : 500 < nm.data.toList.length ∨ 20 < ks.length ∨ 20 < ps.length ∨ tooLarge (kidsNode ks) = 1
    · exact law9builds_large nm.data.toList ks ps _ _ W hT hnl (by omega) hpl hfk hk hp h
    · exact law9builds_small nm.data.toList ks ps _ _ W hT (by omega) (by omega) (by omega) (by rcases tooLarge_cases (kidsNode ks) with h' | h'; omega; exact h'.1) hfk hk hp
  rw [S_data'] at hfin
  refine hfin.mono ?_
  rintro e W' ⟨rfl, hb⟩
  exact ⟨_, rfl, law_post hW' rfl rfl rfl (by rw [Tryd.params4]; intro t ht; simp at ht; rcases ht with rfl | rfl | rfl <;> exact ⟨by kernel_rfl, of_decide_eq_true (by kernel_rfl)⟩) hb⟩

def arg0 : Array Value := #[.string ByteArray.empty, .slice none 0 0, .slice none 0 0]
theorem reads (os : Os) {H : Type} (enc : TypeId × Value → H) : ∃ places, DataW.whole enc Tryd.prog ((laidWorld os).forCall (fun _ _ => 0) ⟨#[], arg0, []⟩).memory Tryd.f4.params.toList Rows.xmlwriteBuildsSpec.vars false arg0.toList 8 =
    some ([.lit (.string []), .nil, .nil], [], places) :=
  ⟨[], by kernel_rfl⟩

set_option maxRecDepth 100000 in
theorem lifted (os : Os) (started : os.Started) (H : Type) (enc : TypeId × Value → H) (F : Stop.Interp) :
    ReturnsInHanded {} Tryd.checked os 4 .any ((OpenSpec.ofChange Rows.xmlwriteBuildsSpec).preRow enc Tryd.prog Tryd.f4 Rows.xmlwriteBuildsRow.domain false Rows.xmlwriteBuildsRow.laid) (((OpenSpec.ofChange Rows.xmlwriteBuildsSpec).at F).post enc Tryd.prog Tryd.f4 false true false false) := by
  obtain ⟨places, hx⟩ := reads os enc
  refine returnsInHanded_of_row (C := Tryd.checked) (s := OpenSpec.ofChange Rows.xmlwriteBuildsSpec) own started (by kernel_rfl) Tryd.func4
    (witness_row_at (enc := enc) (C := Tryd.checked) false (laidWorld os) arg0 rfl (by kernel_rfl) (by kernel_rfl) (by kernel_rfl)
      (OpenSpec.preRow_of_cond 8 hx (by kernel_rfl) (fun k hk => by cases hk) (by kernel_rfl) (laid_metH os arg0))) ?_
  intro W base args ds gs before hval hW _ _ hz hL _ _
  exact contract H enc W base args ds gs before hval hW hz hL

theorem said : Rows.XmlwriteBuildsSaid :=
  OpenClaim.holds_of_cond 4 Tryd.f4 rfl rfl rfl rfl rfl rfl rfl ⟨rfl, rfl, rfl, rfl, rfl⟩ rfl rfl rfl rfl rfl (by kernel_rfl) Tryd.func4 (by kernel_rfl)
    (of_decide_eq_true (by kernel_rfl)) (by unfold Func.isWrapper; first | (rw [if_pos (by decide +kernel)]; kernel_rfl) | (rw [if_neg (by decide +kernel)]; exact ⟨rfl, rfl⟩))
    (fun os started H enc _ F => by rw [OpenClaim.pre_eq_preRow]; exact lifted os started H enc F)

theorem plain (f : FuncId) (fn : Func) (hf : Tryd.pinned.checked.prog.funcNamed "feedvault/feedvaultlaw09.XmlwriteBuilds" = some f) (hfn : Tryd.pinned.checked.prog.funcs[f]? = some fn) :
    false = Tryd.pinned.checked.prog.looks [] ∧ ∀ (j : Nat) t, fn.params[j]? = some t → Tryd.pinned.checked.prog.wantsStandIn t = false := by
  obtain rfl : f = 4 := Option.some.inj ((show Tryd.prog.funcNamed "feedvault/feedvaultlaw09.XmlwriteBuilds" = some 4 by kernel_rfl).symm.trans hf) |>.symm
  obtain rfl : fn = Tryd.f4 := (Option.some.inj (Tryd.func4.symm.trans hfn)).symm
  refine ⟨by kernel_rfl, fun j t ht => ?_⟩
  rw [Tryd.params4] at ht
  have ht' := Array.mem_of_getElem? ht
  simp at ht'
  rcases ht' with rfl | rfl | rfl
  · exact (show Tryd.prog.wantsStandIn 9 = false by kernel_rfl)
  · exact (show Tryd.prog.wantsStandIn 23 = false by kernel_rfl)
  · exact (show Tryd.prog.wantsStandIn 35 = false by kernel_rfl)

theorem card : Rows.XmlwriteBuildsCardSaid :=
  Claim7.holds_tied_plain_at .later [] _ _ _ _ said (fun _ h => by cases h) (by kernel_rfl) (fun _ h => by cases h) xmlwriteBuilds_row_tie rfl ⟨rfl, rfl⟩ (by kernel_rfl) rfl plain (by kernel_rfl)
end Go.Proofs.YthilaolkkamedaaDoor.builds9
