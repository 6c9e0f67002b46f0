/-
  Several texts in one file, in build order:
  - What a law's statement asks behind the call: it returned true, and each argument reads as it did.
-/
import Derived.Test.YthlppbpccldikaaDoorH2
import Derived.Carry
import Derived.ChangeSame
set_option linter.unusedVariables false
namespace Go.Proofs.YthlppbpccldikaaDoor
open Go.RowKit Go.ChangeShapes Go.WideShapes

theorem laidOut : laidOutB Tryd.prog = true := by kernel_rfl
theorem args_stay {H : Type} {enc : TypeId × Value → H} {W W' : World} (hb : Below W.heap.size W W') : ∀ {ts : List TypeId} {vs : List Value} {ds : List (DataW H)} {ps : List MemPlace}, (∀ t ∈ ts, Tryd.prog.readableRec t = true ∧ t < Tryd.prog.types.size) →
    DataW.TrodAll enc Tryd.prog W 0 (fun _ => true) true ts vs ds ps → (∀ x ∈ ps, x.block < W.heap.size) → DataW.TrodAll enc Tryd.prog W' 0 (fun b => decide (b < W.heap.size)) true ts vs ds ps
  | [], [], [], _, _, h, _ => h
  | _ :: _, _ :: _, _ :: _, _, ht, ⟨p, q, h1, h2, e⟩, hp =>
    ⟨p, q, Below.trod laidOut (ht _ (by simp)).1 (ht _ (by simp)).2 h1 hb (fun x hx => hp x (by rw [e]; exact List.mem_append_left _ hx)),
      args_stay hb (fun t h => ht t (by simp [h])) h2 (fun x hx => hp x (by rw [e]; exact List.mem_append_right _ hx)), e⟩
  | [], [], _ :: _, _, _, h, _ => h.elim
  | [], _ :: _, _, _, _, h, _ => h.elim
  | _ :: _, [], _, _, _, h, _ => h.elim
  | _ :: _, _ :: _, [], _, _, h, _ => h.elim
theorem law_post {H : Type} {enc : TypeId × Value → H} {f : Func} {s : ChangeSpec} {apart : Bool} {W W' : World} {args : Array Value} {ds gs : List (DataW H)} {before : List MemPlace}
    (hW : DataW.Whole enc Tryd.prog f.params.toList s.vars apart W args.toList ds gs before) (hv : s.vars = []) (hr : f.resultTypes = #[4]) (hs : s.fn H ds = { results := [.lit (.bool true)], args := ds })
    (ht : ∀ t ∈ f.params.toList, Tryd.prog.readableRec t = true ∧ t < Tryd.prog.types.size) (hb : Below W.heap.size W W') :
    s.post enc Tryd.prog f apart true false false W args (.bool true) W' := by
  have hlt : ∀ p ∈ before, p.block < W.heap.size := fun p hp => hW.lt p hp
  have hW' := hW
  obtain ⟨p, q, hA, hV, rfl, _, _⟩ := hW
  have hg : gs = [] ∧ q = [] := by
    rw [hv] at hV
    cases gs with
    | nil => exact ⟨rfl, hV⟩
    | cons d ds => exact hV.elim
  obtain ⟨rfl, rfl⟩ := hg
  refine ⟨ds, [], _, [], p, [], hW', ?_, ?_, ?_, World.keptBut_mono (fun x hx => ⟨hx, ?_⟩) (hb.frame (· ∈ p ++ [])), fun h => by cases h⟩
  · rw [List.append_nil, hs, hr]
    exact ⟨[], [], ⟨1, by simp [DataW.trod, Tryd.underlying4, Value.cells]⟩, rfl, rfl⟩
  · rw [List.append_nil, hs]
    exact args_stay hb ht hA (fun x hx => hlt x (List.mem_append_left _ hx))
  · rw [List.append_nil, hs, hv]
    exact rfl
  · exact .inr (.inl (by simpa using hx))
end Go.Proofs.YthlppbpccldikaaDoor
