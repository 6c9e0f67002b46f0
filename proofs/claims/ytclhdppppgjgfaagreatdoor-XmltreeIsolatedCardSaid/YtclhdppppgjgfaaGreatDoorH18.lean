/-
  Several texts in one file, in build order:
  - What a law's statement asks behind the call: it returned true, and each argument reads as it did.
  - From the row's list of package variables to the library's tables.
  - From the row's list of package variables to the tables that the walks read.
  - A start that fits: the settled world, with the four listed tables as their initialisers lay them.
-/
import Derived.Test.YtclhdppppgjgfaaGreatDoorH0
import Derived.Carry
import Derived.ChangeSame
import Derived.Test.YtclhdppppgjgfaaGreatDoorRows
import Derived.Test.YtclhdppppgjgfaaGreatDoorH3
import Derived.Lib.LaidU8
import Derived.LaidLaws
import Derived.Test.YtclhdppppgjgfaaGreatDoorH1
import Derived.ProofKit
set_option linter.unusedVariables false
namespace Go.Proofs.YtclhdppppgjgfaaGreatDoor
open Go.RowKit Go.ChangeShapes Go.WideShapes

theorem laidOut : laidOutB Tryz.prog = true := by kernel_rfl
theorem args_stay {H : Type} {enc : TypeId × Value → H} {W W' : World} (hb : Below W.heap.size W W') : ∀ {ts : List TypeId} {vs : List Value} {ds : List (DataW H)} {ps : List MemPlace}, (∀ t ∈ ts, Tryz.prog.readableRec t = true ∧ t < Tryz.prog.types.size) →
    DataW.TrodAll enc Tryz.prog W 0 (fun _ => true) true ts vs ds ps → (∀ x ∈ ps, x.block < W.heap.size) → DataW.TrodAll enc Tryz.prog W' 0 (fun b => decide (b < W.heap.size)) true ts vs ds ps
  | [], [], [], _, _, h, _ => h
  | _ :: _, _ :: _, _ :: _, _, ht, ⟨p, q, h1, h2, e⟩, hp =>
    ⟨p, q, Below.trod laidOut (ht _ (by simp)).1 (ht _ (by simp)).2 h1 hb (fun x hx => hp x (by rw [e]; exact List.mem_append_left _ hx)),
      args_stay hb (fun t h => ht t (by simp [h])) h2 (fun x hx => hp x (by rw [e]; exact List.mem_append_right _ hx)), e⟩
  | [], [], _ :: _, _, _, h, _ => h.elim
  | [], _ :: _, _, _, _, h, _ => h.elim
  | _ :: _, [], _, _, _, h, _ => h.elim
  | _ :: _, _ :: _, [], _, _, h, _ => h.elim
theorem law_post {H : Type} {enc : TypeId × Value → H} {f : Func} {s : ChangeSpec} {apart : Bool} {W W' : World} {args : Array Value} {ds gs : List (DataW H)} {before : List MemPlace}
    (hW : DataW.Whole enc Tryz.prog f.params.toList s.vars apart W args.toList ds gs before) (hv : s.vars = []) (hr : f.resultTypes = #[4]) (hs : s.fn H ds = { results := [.lit (.bool true)], args := ds })
    (ht : ∀ t ∈ f.params.toList, Tryz.prog.readableRec t = true ∧ t < Tryz.prog.types.size) (hb : Below W.heap.size W W') :
    s.post enc Tryz.prog f apart true false false W args (.bool true) W' := by
  have hlt : ∀ p ∈ before, p.block < W.heap.size := fun p hp => hW.lt p hp
  have hW' := hW
  obtain ⟨p, q, hA, hV, rfl, _, _⟩ := hW
  have hg : gs = [] ∧ q = [] := by
    rw [hv] at hV
    cases gs with
    | nil => exact ⟨rfl, hV⟩
    | cons d ds => exact hV.elim
  obtain ⟨rfl, rfl⟩ := hg
  refine ⟨ds, [], _, [], p, [], hW', ?_, ?_, ?_, World.keptBut_mono (fun x hx => ⟨hx, ?_⟩) (hb.frame (· ∈ p ++ [])), fun h => by cases h⟩
  · rw [List.append_nil, hs, hr]
    exact ⟨[], [], ⟨1, by simp [DataW.trod, Tryz.underlying4, Value.cells]⟩, rfl, rfl⟩
  · rw [List.append_nil, hs]
    exact args_stay hb ht hA (fun x hx => hlt x (List.mem_append_left _ hx))
  · rw [List.append_nil, hs, hv]
    exact rfl
  · exact .inr (.inl (by simpa using hx))
end Go.Proofs.YtclhdppppgjgfaaGreatDoor
set_option linter.unusedVariables false
namespace Go.Proofs.YtclhdppppgjgfaaGreatDoor
open Go.RowKit Go.ChangeShapes Go.WideShapes

/-- An array of pairs of integers that reads as these rows holds their numbers, cell for cell. -/
theorem cells_of_rows {H : Type} {enc : TypeId × Value → H} {P : Program} {w : World} {base : Nat} {sp : Nat → Bool} {held : Bool} {fuel : Nat} {t e : TypeId} {n : Nat} {k : IntKind} {cs : List Value} {rows : List (Int × Int)} {p : List MemPlace}
    (ht : P.underlying t = some (.array n e)) (hel : ∀ {fuel : Nat} {cs : List Value} {r : Int × Int} {q : List MemPlace}, DataW.trod enc P w base sp held fuel e cs = some (Lib.tabData k [r.1, r.2], q) → cs = [.int k r.1, .int k r.2]) (hce : P.cellsOf e = 2) (hct : P.cellsOf t = n * 2)
    (h : DataW.trod enc P w base sp held fuel t cs = some (.agg (rows.map fun r => Lib.tabData k [r.1, r.2]), p)) (hn : rows.length = n) : cs = rows.flatMap fun r => [.int k r.1, .int k r.2] := by
  have hl : cs.length = n * 2 := by
    cases fuel with
    | zero => simp [DataW.trod] at h
    | succ fuel =>
      simp only [DataW.trod, ht] at h
      split at h
      · rename_i hl; rw [hl, hct]
      · cases h
  have hrow : ∀ j (hj : j < n), (cs.drop (j * 2)).take 2 = [.int k (rows[j]'(by omega)).1, .int k (rows[j]'(by omega)).2] := by
    intro j hj
    obtain ⟨fuel', d, q, hd, ht'⟩ := Lib.array_elem ht h j hj
    rw [List.getElem?_map, List.getElem?_eq_getElem (by omega)] at hd
    simp only [Option.map_some, Option.some.injEq] at hd
    subst hd
    rw [hce] at ht'
    exact hel ht'
  clear h ht hct
  subst hn
  induction rows generalizing cs with
  | nil => simpa using hl
  | cons r rows ih =>
    have h0 := hrow 0 (by simp)
    simp only [Nat.zero_mul, List.drop_zero, List.getElem_cons_zero] at h0
    have h1 := ih (cs := cs.drop 2) (by simp only [List.length_drop, List.length_cons] at hl ⊢; omega) (fun j hj => by
      have := hrow (j + 1) (by simpa using hj)
      rw [List.drop_drop, show 2 + j * 2 = (j + 1) * 2 by omega, this]
      simp)
    rw [List.flatMap_cons, ← h1, ← h0, List.take_append_drop]
theorem cells_of_pairs {H : Type} {enc : TypeId × Value → H} {P : Program} {w : World} {base : Nat} {sp : Nat → Bool} {held : Bool} {fuel : Nat} {t e i : TypeId} {n : Nat} {k : IntKind} {cs : List Value} {rows : List (Int × Int)} {p : List MemPlace}
    (ht : P.underlying t = some (.array n e)) (he : P.underlying e = some (.array 2 i)) (hi : P.underlying i = some (.int k)) (hci : P.cellsOf i = 1) (hce : P.cellsOf e = 2) (hct : P.cellsOf t = n * 2)
    (h : DataW.trod enc P w base sp held fuel t cs = some (.agg (rows.map fun r => Lib.tabData k [r.1, r.2]), p)) (hn : rows.length = n) : cs = rows.flatMap fun r => [.int k r.1, .int k r.2] :=
  cells_of_rows ht (fun {_ _ r _} h => Lib.cells_of_tab (zs := [r.1, r.2]) he hi hci hce h) hce hct h hn
theorem heap_of_var {P : Program} {w : World} {name : String} {g : Nat} {cs : Array Value} (hg : P.globalNamed name = some g) (h : w.var? P name = some cs) : ∃ t fr, w.heap[g]? = some (.cells cs t fr) := by
  unfold World.var? at h
  rw [hg] at h
  simp only [Option.bind_some] at h
  split at h
  · rename_i cs' t fr hh
    cases h
    exact ⟨t, fr, hh⟩
  · cases h

/-- What the second table's rows are. -/
def acceptRows : List (Int × Int) := (List.range 16).map fun i => ((Lib.accLo i : Int), (Lib.accHi i : Int))
theorem gFirst : Tryz.prog.globalNamed "unicode/utf8.first" = some 1 := by kernel_rfl
theorem gAccept : Tryz.prog.globalNamed "unicode/utf8.acceptRanges" = some 2 := by kernel_rfl
theorem tFirst : (Tryz.prog.globals[(1 : Nat)]?).map (·.type) = some 176 := by kernel_rfl
theorem tAccept : (Tryz.prog.globals[(2 : Nat)]?).map (·.type) = some 179 := by kernel_rfl
theorem cellsByte : Tryz.prog.cellsOf 5 = 1 := by kernel_rfl
theorem cellsFirst : Tryz.prog.cellsOf 176 = 256 := by kernel_rfl
theorem cellsAccept : Tryz.prog.cellsOf 179 = 16 * 2 := by kernel_rfl
theorem cellsRange : Tryz.prog.cellsOf 178 = 2 := by kernel_rfl
theorem utf8_own {w : World} (h3 : Lib.VarReads Tryz.prog w "unicode/utf8.first" Lib.firstData) (h4 : Lib.VarReads Tryz.prog w "unicode/utf8.acceptRanges" Lib.acceptData) : Lib.Utf8Tabs 1 2 w := by
  refine ⟨?_, ?_⟩
  · obtain ⟨g, t, cs, fuel, p, hg, hty, hvar, hd⟩ := h3
    obtain rfl := Option.some.inj (gFirst.symm.trans hg)
    obtain rfl := Option.some.inj (tFirst.symm.trans hty)
    have hcs := Lib.cells_of_tab Tryz.underlying176 Tryz.underlying5 cellsByte cellsFirst hd
    obtain ⟨t, fr, hh⟩ := heap_of_var hg hvar
    intro c hc
    rw [Lib.cell_of_heap hh, ← Array.getElem?_toList, hcs]
    simp [Lib.firstTab, hc]
  · obtain ⟨g, t, cs, fuel, p, hg, hty, hvar, hd⟩ := h4
    obtain rfl := Option.some.inj (gAccept.symm.trans hg)
    obtain rfl := Option.some.inj (tAccept.symm.trans hty)
    have hcs := cells_of_rows (rows := acceptRows) (k := .u8) Tryz.underlying179 (fun {_ _ r _} h => Lib.ints_of_struct (zs := [r.1, r.2]) (k := .u8) Tryz.underlying178 (fun j f hj => by
      match j, hj with
      | 0, hj => simp at hj; subst hj; exact ⟨Tryz.underlying5, rfl, cellsByte⟩
      | 1, hj => simp at hj; subst hj; exact ⟨Tryz.underlying5, rfl, cellsByte⟩
      | j + 2, hj => simp at hj) (by rw [cellsRange]; rfl) h) cellsRange cellsAccept hd rfl
    obtain ⟨t, fr, hh⟩ := heap_of_var hg hvar
    have hall : ∀ i, i < 16 → (acceptRows.flatMap fun r => [Value.int .u8 r.1, Value.int .u8 r.2])[2 * i]? = some (.int .u8 (Lib.accLo i)) ∧ (acceptRows.flatMap fun r => [Value.int .u8 r.1, Value.int .u8 r.2])[2 * i + 1]? = some (.int .u8 (Lib.accHi i)) := by
      intro i hi
      match i, hi with
      | 0, _ => exact ⟨rfl, rfl⟩
      | 1, _ => exact ⟨rfl, rfl⟩
      | 2, _ => exact ⟨rfl, rfl⟩
      | 3, _ => exact ⟨rfl, rfl⟩
      | 4, _ => exact ⟨rfl, rfl⟩
      | 5, _ => exact ⟨rfl, rfl⟩
      | 6, _ => exact ⟨rfl, rfl⟩
      | 7, _ => exact ⟨rfl, rfl⟩
      | 8, _ => exact ⟨rfl, rfl⟩
      | 9, _ => exact ⟨rfl, rfl⟩
      | 10, _ => exact ⟨rfl, rfl⟩
      | 11, _ => exact ⟨rfl, rfl⟩
      | 12, _ => exact ⟨rfl, rfl⟩
      | 13, _ => exact ⟨rfl, rfl⟩
      | 14, _ => exact ⟨rfl, rfl⟩
      | 15, _ => exact ⟨rfl, rfl⟩
      | i + 16, hi => exact absurd hi (by omega)
    intro i hi
    rw [Lib.cell_of_heap hh, Lib.cell_of_heap hh, ← Array.getElem?_toList, ← Array.getElem?_toList, hcs]
    exact hall i hi
theorem first_eq : Rows.laid_unicode_utf8_first = Lib.firstData := by kernel_rfl
theorem accept_eq : (Rows.laid_unicode_utf8_acceptRanges : DataW Unit) = Lib.acceptData := by kernel_rfl
end Go.Proofs.YtclhdppppgjgfaaGreatDoor
set_option linter.unusedVariables false
namespace Go.Proofs.YtclhdppppgjgfaaGreatDoor
open Go.RowKit Go.ChangeShapes Go.WideShapes

theorem start_eq : (Rows.laid_feedvault_text_startRanges : DataW Unit) = .agg (startRanges.map fun r => Lib.tabData .i32 [r.1, r.2]) := by kernel_rfl
theorem more_eq : (Rows.laid_feedvault_text_moreRanges : DataW Unit) = .agg (moreRanges.map fun r => Lib.tabData .i32 [r.1, r.2]) := by kernel_rfl
theorem gStart : Tryz.prog.globalNamed "feedvault/text.startRanges" = some 4 := by kernel_rfl
theorem gMore : Tryz.prog.globalNamed "feedvault/text.moreRanges" = some 3 := by kernel_rfl
theorem tStart : (Tryz.prog.globals[(4 : Nat)]?).map (·.type) = some 183 := by kernel_rfl
theorem tMore : (Tryz.prog.globals[(3 : Nat)]?).map (·.type) = some 182 := by kernel_rfl
theorem cellsStart : Tryz.prog.cellsOf 183 = 30 := by kernel_rfl
theorem cellsMore : Tryz.prog.cellsOf 182 = 10 := by kernel_rfl
theorem cellsPair : Tryz.prog.cellsOf 181 = 2 := by kernel_rfl
theorem cellsRune : Tryz.prog.cellsOf 21 = 1 := by kernel_rfl

/-- The four variables as the rows list them. -/
def laid4 : List (String × DataW Unit) := [("unicode/utf8.acceptRanges", Rows.laid_unicode_utf8_acceptRanges), ("feedvault/text.startRanges", Rows.laid_feedvault_text_startRanges), ("feedvault/text.moreRanges", Rows.laid_feedvault_text_moreRanges), ("unicode/utf8.first", Rows.laid_unicode_utf8_first)]
theorem laid4_plain : laid4.filter (fun x => x.2.handleName?.isSome) = [] := by kernel_rfl
theorem tabs_of_laid {W : World} (h : laidMetH Tryz.prog laid4 W) : Tabs W := by
  unfold laidMetH at h
  rw [laid4_plain] at h
  have r1 := Lib.laidMet.reads h (n := "unicode/utf8.first") (d := Rows.laid_unicode_utf8_first) (by simp [laid4])
  have r2 := Lib.laidMet.reads h (n := "unicode/utf8.acceptRanges") (d := Rows.laid_unicode_utf8_acceptRanges) (by simp [laid4])
  have r3 := Lib.laidMet.reads h (n := "feedvault/text.startRanges") (d := Rows.laid_feedvault_text_startRanges) (by simp [laid4])
  have r4 := Lib.laidMet.reads h (n := "feedvault/text.moreRanges") (d := Rows.laid_feedvault_text_moreRanges) (by simp [laid4])
  rw [first_eq] at r1
  rw [accept_eq] at r2
  rw [start_eq] at r3
  rw [more_eq] at r4
  refine ⟨utf8_own r1 r2, ?_, ?_⟩
  · obtain ⟨g, t, cs, fuel, p, hg, hty, hvar, hd⟩ := r3
    obtain rfl := Option.some.inj (gStart.symm.trans hg)
    obtain rfl := Option.some.inj (tStart.symm.trans hty)
    have hcs := cells_of_pairs Tryz.underlying183 Tryz.underlying181 Tryz.underlying21 cellsRune cellsPair cellsStart hd rfl
    obtain ⟨t, fr, hh⟩ := heap_of_var hg hvar
    refine ⟨t, fr, ?_⟩
    rw [hh]
    congr 2
    apply Array.ext'
    rw [hcs]
    rfl
  · obtain ⟨g, t, cs, fuel, p, hg, hty, hvar, hd⟩ := r4
    obtain rfl := Option.some.inj (gMore.symm.trans hg)
    obtain rfl := Option.some.inj (tMore.symm.trans hty)
    have hcs := cells_of_pairs Tryz.underlying182 Tryz.underlying181 Tryz.underlying21 cellsRune cellsPair cellsMore hd rfl
    obtain ⟨t, fr, hh⟩ := heap_of_var hg hvar
    refine ⟨t, fr, ?_⟩
    rw [hh]
    congr 2
    apply Array.ext'
    rw [hcs]
    rfl
end Go.Proofs.YtclhdppppgjgfaaGreatDoor
set_option linter.unusedVariables false
namespace Go.Proofs.YtclhdppppgjgfaaGreatDoor
open Go.RowKit Go.ChangeShapes Go.WideShapes

def withCells (cs : Array Value) : Obj → Obj
  | .cells _ t fr => .cells cs t fr
  | o => o
def firstCells : Array Value := (Lib.firstTab.map fun z => Value.int .u8 z).toArray
def acceptCells : Array Value := ((List.range 16).flatMap fun i => [.int .u8 (Lib.accLo i), .int .u8 (Lib.accHi i)]).toArray
noncomputable def laidWorld (os : Os) : World :=
  { World.holding Tryz.prog os ⟨#[], #[], []⟩ with
    heap := ((((World.holding Tryz.prog os ⟨#[], #[], []⟩).heap.modify 1 (withCells firstCells)).modify 2 (withCells acceptCells)).modify 4 (withCells startCells)).modify 3 (withCells moreCells) }
theorem laid_met (os : Os) (args : Array Value) : laidMet Tryz.prog laid4 ((laidWorld os).forCall (fun _ _ => 0) ⟨#[], args, []⟩).memory :=
  laidMet_of_run' 8 (by kernel_rfl) (by kernel_rfl)
theorem laid_metH (os : Os) (args : Array Value) : laidMetH Tryz.prog laid4 ((laidWorld os).forCall (fun _ _ => 0) ⟨#[], args, []⟩).memory := by
  unfold laidMetH
  rw [laid4_plain]
  exact laid_met os args
theorem own : ownKnob Tryz.prog.godebug = none := by kernel_rfl
end Go.Proofs.YtclhdppppgjgfaaGreatDoor
