/-
  Several texts in one file, in build order:
  - What a law's statement asks behind the call: it returned true, and each argument reads as it did.
  - From the row's list of package variables to the library's tables.
  - From the row's list of package variables to the tables that chapters 10 to 13 read.
  - A start that fits: the settled world, with the six listed tables as their initialisers lay them.
-/
import Derived.Test.YtadkgjbidhfefaaGreatDoorBuild
import Derived.Carry
import Derived.ChangeSame
import Derived.Test.YtadkgjbidhfefaaGreatDoorRows
import Derived.Test.YtadkgjbidhfefaaGreatDoorGen
import Derived.Lib.LaidU8
import Derived.LaidLaws
import Derived.Test.YtadkgjbidhfefaaGreatDoorTabJ
import Derived.ProofKit
set_option linter.unusedVariables false
namespace Go.Proofs.YtadkgjbidhfefaaGreatDoor
open Go.RowKit Go.ChangeShapes Go.WideShapes

theorem laidOut : laidOutB Tryz.prog = true := by kernel_rfl
theorem args_stay {H : Type} {enc : TypeId × Value → H} {W W' : World} (hb : Below W.heap.size W W') : ∀ {ts : List TypeId} {vs : List Value} {ds : List (DataW H)} {ps : List MemPlace}, (∀ t ∈ ts, Tryz.prog.readableRec t = true ∧ t < Tryz.prog.types.size) →
    DataW.TrodAll enc Tryz.prog W 0 (fun _ => true) true ts vs ds ps → (∀ x ∈ ps, x.block < W.heap.size) → DataW.TrodAll enc Tryz.prog W' 0 (fun b => decide (b < W.heap.size)) true ts vs ds ps
  | [], [], [], _, _, h, _ => h
  | _ :: _, _ :: _, _ :: _, _, ht, ⟨p, q, h1, h2, e⟩, hp =>
    ⟨p, q, Below.trod laidOut (ht _ (by simp)).1 (ht _ (by simp)).2 h1 hb (fun x hx => hp x (by rw [e]; exact List.mem_append_left _ hx)),
      args_stay hb (fun t h => ht t (by simp [h])) h2 (fun x hx => hp x (by rw [e]; exact List.mem_append_right _ hx)), e⟩
  | [], [], _ :: _, _, _, h, _ => h.elim
  | [], _ :: _, _, _, _, h, _ => h.elim
  | _ :: _, [], _, _, _, h, _ => h.elim
  | _ :: _, _ :: _, [], _, _, h, _ => h.elim
theorem law_post {H : Type} {enc : TypeId × Value → H} {f : Func} {s : ChangeSpec} {apart : Bool} {W W' : World} {args : Array Value} {ds gs : List (DataW H)} {before : List MemPlace}
    (hW : DataW.Whole enc Tryz.prog f.params.toList s.vars apart W args.toList ds gs before) (hv : s.vars = []) (hr : f.resultTypes = #[4]) (hs : s.fn H ds = { results := [.lit (.bool true)], args := ds })
    (ht : ∀ t ∈ f.params.toList, Tryz.prog.readableRec t = true ∧ t < Tryz.prog.types.size) (hb : Below W.heap.size W W') :
    s.post enc Tryz.prog f apart true false false W args (.bool true) W' := by
  have hlt : ∀ p ∈ before, p.block < W.heap.size := fun p hp => hW.lt p hp
  have hW' := hW
  obtain ⟨p, q, hA, hV, rfl, _, _⟩ := hW
  have hg : gs = [] ∧ q = [] := by
    rw [hv] at hV
    cases gs with
    | nil => exact ⟨rfl, hV⟩
    | cons d ds => exact hV.elim
  obtain ⟨rfl, rfl⟩ := hg
  refine ⟨ds, [], _, [], p, [], hW', ?_, ?_, ?_, World.keptBut_mono (fun x hx => ⟨hx, ?_⟩) (hb.frame (· ∈ p ++ [])), fun h => by cases h⟩
  · rw [List.append_nil, hs, hr]
    exact ⟨[], [], ⟨1, by simp [DataW.trod, Tryz.underlying4, Value.cells]⟩, rfl, rfl⟩
  · rw [List.append_nil, hs]
    exact args_stay hb ht hA (fun x hx => hlt x (List.mem_append_left _ hx))
  · rw [List.append_nil, hs, hv]
    exact rfl
  · exact .inr (.inl (by simpa using hx))
end Go.Proofs.YtadkgjbidhfefaaGreatDoor
set_option linter.unusedVariables false
namespace Go.Proofs.YtadkgjbidhfefaaGreatDoor
open Go.RowKit Go.ChangeShapes Go.WideShapes

/-- An array of pairs of integers that reads as these rows holds their numbers, cell for cell. -/
theorem cells_of_rows {H : Type} {enc : TypeId × Value → H} {P : Program} {w : World} {base : Nat} {sp : Nat → Bool} {held : Bool} {fuel : Nat} {t e : TypeId} {n : Nat} {k : IntKind} {cs : List Value} {rows : List (Int × Int)} {p : List MemPlace}
    (ht : P.underlying t = some (.array n e)) (hel : ∀ {fuel : Nat} {cs : List Value} {r : Int × Int} {q : List MemPlace}, DataW.trod enc P w base sp held fuel e cs = some (Lib.tabData k [r.1, r.2], q) → cs = [.int k r.1, .int k r.2]) (hce : P.cellsOf e = 2) (hct : P.cellsOf t = n * 2)
    (h : DataW.trod enc P w base sp held fuel t cs = some (.agg (rows.map fun r => Lib.tabData k [r.1, r.2]), p)) (hn : rows.length = n) : cs = rows.flatMap fun r => [.int k r.1, .int k r.2] := by
  have hl : cs.length = n * 2 := by
    cases fuel with
    | zero => simp [DataW.trod] at h
    | succ fuel =>
      simp only [DataW.trod, ht] at h
      split at h
      · rename_i hl; rw [hl, hct]
      · cases h
  have hrow : ∀ j (hj : j < n), (cs.drop (j * 2)).take 2 = [.int k (rows[j]'(by omega)).1, .int k (rows[j]'(by omega)).2] := by
    intro j hj
    obtain ⟨fuel', d, q, hd, ht'⟩ := Lib.array_elem ht h j hj
    rw [List.getElem?_map, List.getElem?_eq_getElem (by omega)] at hd
    simp only [Option.map_some, Option.some.injEq] at hd
    subst hd
    rw [hce] at ht'
    exact hel ht'
  clear h ht hct
  subst hn
  induction rows generalizing cs with
  | nil => simpa using hl
  | cons r rows ih =>
    have h0 := hrow 0 (by simp)
    simp only [Nat.zero_mul, List.drop_zero, List.getElem_cons_zero] at h0
    have h1 := ih (cs := cs.drop 2) (by simp only [List.length_drop, List.length_cons] at hl ⊢; omega) (fun j hj => by
      have := hrow (j + 1) (by simpa using hj)
      rw [List.drop_drop, show 2 + j * 2 = (j + 1) * 2 by omega, this]
      simp)
    rw [List.flatMap_cons, ← h1, ← h0, List.take_append_drop]
theorem cells_of_pairs {H : Type} {enc : TypeId × Value → H} {P : Program} {w : World} {base : Nat} {sp : Nat → Bool} {held : Bool} {fuel : Nat} {t e i : TypeId} {n : Nat} {k : IntKind} {cs : List Value} {rows : List (Int × Int)} {p : List MemPlace}
    (ht : P.underlying t = some (.array n e)) (he : P.underlying e = some (.array 2 i)) (hi : P.underlying i = some (.int k)) (hci : P.cellsOf i = 1) (hce : P.cellsOf e = 2) (hct : P.cellsOf t = n * 2)
    (h : DataW.trod enc P w base sp held fuel t cs = some (.agg (rows.map fun r => Lib.tabData k [r.1, r.2]), p)) (hn : rows.length = n) : cs = rows.flatMap fun r => [.int k r.1, .int k r.2] :=
  cells_of_rows ht (fun {_ _ r _} h => Lib.cells_of_tab (zs := [r.1, r.2]) he hi hci hce h) hce hct h hn
theorem heap_of_var {P : Program} {w : World} {name : String} {g : Nat} {cs : Array Value} (hg : P.globalNamed name = some g) (h : w.var? P name = some cs) : ∃ t fr, w.heap[g]? = some (.cells cs t fr) := by
  unfold World.var? at h
  rw [hg] at h
  simp only [Option.bind_some] at h
  split at h
  · rename_i cs' t fr hh
    cases h
    exact ⟨t, fr, hh⟩
  · cases h

/-- What the second table's rows are. -/
def acceptRows : List (Int × Int) := (List.range 16).map fun i => ((Lib.accLo i : Int), (Lib.accHi i : Int))
theorem gFirst : Tryz.prog.globalNamed "unicode/utf8.first" = some 0 := by kernel_rfl
theorem gAccept : Tryz.prog.globalNamed "unicode/utf8.acceptRanges" = some 1 := by kernel_rfl
theorem tFirst : (Tryz.prog.globals[(0 : Nat)]?).map (·.type) = some 124 := by kernel_rfl
theorem tAccept : (Tryz.prog.globals[(1 : Nat)]?).map (·.type) = some 127 := by kernel_rfl
theorem cellsByte : Tryz.prog.cellsOf 5 = 1 := by kernel_rfl
theorem cellsFirst : Tryz.prog.cellsOf 124 = 256 := by kernel_rfl
theorem cellsAccept : Tryz.prog.cellsOf 127 = 16 * 2 := by kernel_rfl
theorem cellsRange : Tryz.prog.cellsOf 126 = 2 := by kernel_rfl
theorem utf8_own {w : World} (h3 : Lib.VarReads Tryz.prog w "unicode/utf8.first" Lib.firstData) (h4 : Lib.VarReads Tryz.prog w "unicode/utf8.acceptRanges" Lib.acceptData) : Lib.Utf8Tabs 0 1 w := by
  refine ⟨?_, ?_⟩
  · obtain ⟨g, t, cs, fuel, p, hg, hty, hvar, hd⟩ := h3
    obtain rfl := Option.some.inj (gFirst.symm.trans hg)
    obtain rfl := Option.some.inj (tFirst.symm.trans hty)
    have hcs := Lib.cells_of_tab Tryz.underlying124 Tryz.underlying5 cellsByte cellsFirst hd
    obtain ⟨t, fr, hh⟩ := heap_of_var hg hvar
    intro c hc
    rw [Lib.cell_of_heap hh, ← Array.getElem?_toList, hcs]
    simp [Lib.firstTab, hc]
  · obtain ⟨g, t, cs, fuel, p, hg, hty, hvar, hd⟩ := h4
    obtain rfl := Option.some.inj (gAccept.symm.trans hg)
    obtain rfl := Option.some.inj (tAccept.symm.trans hty)
    have hcs := cells_of_rows (rows := acceptRows) (k := .u8) Tryz.underlying127 (fun {_ _ r _} h => Lib.ints_of_struct (zs := [r.1, r.2]) (k := .u8) Tryz.underlying126 (fun j f hj => by
      match j, hj with
      | 0, hj => simp at hj; subst hj; exact ⟨Tryz.underlying5, rfl, cellsByte⟩
      | 1, hj => simp at hj; subst hj; exact ⟨Tryz.underlying5, rfl, cellsByte⟩
      | j + 2, hj => simp at hj) (by rw [cellsRange]; rfl) h) cellsRange cellsAccept hd rfl
    obtain ⟨t, fr, hh⟩ := heap_of_var hg hvar
    have hall : ∀ i, i < 16 → (acceptRows.flatMap fun r => [Value.int .u8 r.1, Value.int .u8 r.2])[2 * i]? = some (.int .u8 (Lib.accLo i)) ∧ (acceptRows.flatMap fun r => [Value.int .u8 r.1, Value.int .u8 r.2])[2 * i + 1]? = some (.int .u8 (Lib.accHi i)) := by
      intro i hi
      match i, hi with
      | 0, _ => exact ⟨rfl, rfl⟩
      | 1, _ => exact ⟨rfl, rfl⟩
      | 2, _ => exact ⟨rfl, rfl⟩
      | 3, _ => exact ⟨rfl, rfl⟩
      | 4, _ => exact ⟨rfl, rfl⟩
      | 5, _ => exact ⟨rfl, rfl⟩
      | 6, _ => exact ⟨rfl, rfl⟩
      | 7, _ => exact ⟨rfl, rfl⟩
      | 8, _ => exact ⟨rfl, rfl⟩
      | 9, _ => exact ⟨rfl, rfl⟩
      | 10, _ => exact ⟨rfl, rfl⟩
      | 11, _ => exact ⟨rfl, rfl⟩
      | 12, _ => exact ⟨rfl, rfl⟩
      | 13, _ => exact ⟨rfl, rfl⟩
      | 14, _ => exact ⟨rfl, rfl⟩
      | 15, _ => exact ⟨rfl, rfl⟩
      | i + 16, hi => exact absurd hi (by omega)
    intro i hi
    rw [Lib.cell_of_heap hh, Lib.cell_of_heap hh, ← Array.getElem?_toList, ← Array.getElem?_toList, hcs]
    exact hall i hi
theorem first_eq : Rows.laid_unicode_utf8_first = Lib.firstData := by kernel_rfl
theorem accept_eq : (Rows.laid_unicode_utf8_acceptRanges : DataW Unit) = Lib.acceptData := by kernel_rfl
end Go.Proofs.YtadkgjbidhfefaaGreatDoor
set_option linter.unusedVariables false
namespace Go.Proofs.YtadkgjbidhfefaaGreatDoor
open Go.RowKit Go.ChangeShapes Go.WideShapes

def lettRows : List (Int × Int) := [(98, 8), (102, 12), (110, 10), (114, 13), (116, 9)]
theorem lett_eq : (Rows.laid_feedvault_jsonstring_letters : DataW Unit) = .agg (lettRows.map fun r => Lib.tabData .u8 [r.1, r.2]) := by kernel_rfl
theorem pow_eq : (Rows.laid_internal_strconv_uint64pow10 : DataW Unit) = Lib.tabData .u64 Lib.pow10Tab := by kernel_rfl
theorem gLett : Tryz.prog.globalNamed "feedvault/jsonstring.letters" = some 3 := by kernel_rfl
theorem gPow : Tryz.prog.globalNamed "internal/strconv.uint64pow10" = some 2 := by kernel_rfl
theorem tLett : (Tryz.prog.globals[(3 : Nat)]?).map (·.type) = some 146 := by kernel_rfl
theorem tPow : (Tryz.prog.globals[(2 : Nat)]?).map (·.type) = some 141 := by kernel_rfl
theorem cellsLett : Tryz.prog.cellsOf 146 = 5 * 2 := by kernel_rfl
theorem cellsPairU : Tryz.prog.cellsOf 145 = 2 := by kernel_rfl
theorem cellsPow : Tryz.prog.cellsOf 141 = 20 := by kernel_rfl
theorem cellsU64 : Tryz.prog.cellsOf 132 = 1 := by kernel_rfl
/-- The six variables as the rows list them. -/
def laidJ : List (String × DataW Unit) := [("math/bits.deBruijn32tab", Rows.laid_math_bits_deBruijn32tab), ("math/bits.deBruijn64tab", Rows.laid_math_bits_deBruijn64tab), ("internal/strconv.uint64pow10", Rows.laid_internal_strconv_uint64pow10), ("unicode/utf8.acceptRanges", Rows.laid_unicode_utf8_acceptRanges), ("feedvault/jsonstring.letters", Rows.laid_feedvault_jsonstring_letters), ("unicode/utf8.first", Rows.laid_unicode_utf8_first)]
theorem laidJ_plain : laidJ.filter (fun x => x.2.handleName?.isSome) = [] := by kernel_rfl
theorem tabJ_of_laid {W : World} (h : laidMetH Tryz.prog laidJ W) : TabJ W := by
  unfold laidMetH at h
  rw [laidJ_plain] at h
  have r1 := Lib.laidMet.reads h (n := "unicode/utf8.first") (d := Rows.laid_unicode_utf8_first) (by simp [laidJ])
  have r2 := Lib.laidMet.reads h (n := "unicode/utf8.acceptRanges") (d := Rows.laid_unicode_utf8_acceptRanges) (by simp [laidJ])
  have r3 := Lib.laidMet.reads h (n := "internal/strconv.uint64pow10") (d := Rows.laid_internal_strconv_uint64pow10) (by simp [laidJ])
  have r4 := Lib.laidMet.reads h (n := "feedvault/jsonstring.letters") (d := Rows.laid_feedvault_jsonstring_letters) (by simp [laidJ])
  rw [first_eq] at r1
  rw [accept_eq] at r2
  rw [pow_eq] at r3
  rw [lett_eq] at r4
  refine ⟨utf8_own r1 r2, ?_, ?_⟩
  · obtain ⟨g, t, cs, fuel, p, hg, hty, hvar, hd⟩ := r4
    obtain rfl := Option.some.inj (gLett.symm.trans hg)
    obtain rfl := Option.some.inj (tLett.symm.trans hty)
    have hcs := cells_of_pairs Tryz.underlying146 Tryz.underlying145 Tryz.underlying5 cellsByte cellsPairU cellsLett hd rfl
    obtain ⟨t, fr, hh⟩ := heap_of_var hg hvar
    refine ⟨t, fr, ?_⟩
    rw [hh]
    congr 2
    apply Array.ext'
    rw [hcs]
    rfl
  · obtain ⟨g, t, cs, fuel, p, hg, hty, hvar, hd⟩ := r3
    obtain rfl := Option.some.inj (gPow.symm.trans hg)
    obtain rfl := Option.some.inj (tPow.symm.trans hty)
    have hcs := Lib.cells_of_tab Tryz.underlying141 Tryz.underlying132 cellsU64 cellsPow hd
    unfold Lib.TabIs
    rw [hvar]
    congr 1
    apply Array.ext'
    rw [hcs]
end Go.Proofs.YtadkgjbidhfefaaGreatDoor
set_option linter.unusedVariables false
namespace Go.Proofs.YtadkgjbidhfefaaGreatDoor
open Go.RowKit Go.ChangeShapes Go.WideShapes

def withCells (cs : Array Value) : Obj → Obj
  | .cells _ t fr => .cells cs t fr
  | o => o
def firstCells : Array Value := (Lib.firstTab.map fun z => Value.int .u8 z).toArray
def acceptCells : Array Value := ((List.range 16).flatMap fun i => [.int .u8 (Lib.accLo i), .int .u8 (Lib.accHi i)]).toArray
def powCells : Array Value := (Lib.pow10Tab.map fun z => Value.int .u64 z).toArray
def litCells : DataW Unit → Array Value
  | .agg l => (l.map fun | .lit (.int k n) => Value.int k n | _ => Value.int .u8 0).toArray
  | _ => #[]
noncomputable def laidWorld (os : Os) : World :=
  { World.holding Tryz.prog os ⟨#[], #[], []⟩ with
    heap := ((((((World.holding Tryz.prog os ⟨#[], #[], []⟩).heap.modify 0 (withCells firstCells)).modify 1 (withCells acceptCells)).modify 2 (withCells powCells)).modify 3 (withCells lettCells)).modify 4 (withCells (litCells Rows.laid_math_bits_deBruijn32tab))).modify 5 (withCells (litCells Rows.laid_math_bits_deBruijn64tab)) }
theorem laid_met (os : Os) (args : Array Value) : laidMet Tryz.prog laidJ ((laidWorld os).forCall (fun _ _ => 0) ⟨#[], args, []⟩).memory :=
  laidMet_of_run' 8 (by kernel_rfl) (by kernel_rfl)
theorem laid_metH (os : Os) (args : Array Value) : laidMetH Tryz.prog laidJ ((laidWorld os).forCall (fun _ _ => 0) ⟨#[], args, []⟩).memory := by
  unfold laidMetH
  rw [laidJ_plain]
  exact laid_met os args
theorem own : ownKnob Tryz.prog.godebug = none := by kernel_rfl
end Go.Proofs.YtadkgjbidhfefaaGreatDoor
