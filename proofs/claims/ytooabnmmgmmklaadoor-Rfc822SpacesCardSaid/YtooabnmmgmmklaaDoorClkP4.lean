/-
  Walks of chapter 4: strings.Split at one byte, the time of day (the program).
-/
import Derived.Test.YtooabnmmgmmklaaDoorNum4
import Derived.Test.YtooabnmmgmmklaaDoorSpl4
import Derived.Test.YtooabnmmgmmklaaDoorCivP7
set_option linter.unusedVariables false
namespace Go.Proofs.YtooabnmmgmmklaaDoor
open Go.RowKit

def strVs (l : List Bytes) : Array Value := (l.map fun x => Value.string (S x)).toArray
theorem strVs_at {l : List Bytes} {i : Nat} {x : Bytes} (h : l[i]? = some x) : (strVs l)[i]? = some (.string (S x)) := by
  unfold strVs
  simp [h]
theorem split_any (l : Bytes) (b : UInt8) (w : World) (hT : Tab4 w) (hl : l.length ≤ 1000000) :
    Calls Tryd.prog 25 #[.string (S l), .string ⟨#[b]⟩] w fun e w' => e = .returned (.slice (some ⟨w.heap.size, 0, none⟩) (splitC b l).length (splitC b l).length) ∧ w' = w.alloc (.cells (strVs (splitC b l)) 9) := by
  obtain ⟨m, hm⟩ := hT.max
  have h1 : 1 ≤ (⟨#[b]⟩ : ByteArray).size := by show 1 ≤ (#[b] : Array UInt8).size; simp
  have hc := Tryd.strings_Split (S l) ⟨#[b]⟩ m w (by rw [S_size]; omega) hm h1
  have hd := Lib.splitB_data ⟨#[b]⟩ 0 (Lib.countB (S l) ⟨#[b]⟩) (S l)
  have hlen := Lib.splitB_all ⟨#[b]⟩ h1 0 (Lib.countB (S l) ⟨#[b]⟩) (S l) rfl
  have he : Lib.splitK [b] 0 (Lib.countB (S l) ⟨#[b]⟩) l = splitC b l := by
    have h2 := split_C b l.length l (Nat.le_refl _)
    unfold Lib.split at h2
    rw [← h2]
    have h3 : Lib.countB (S l) ⟨#[b]⟩ = Lib.count l [b] := by unfold Lib.countB; rw [S_data]
    rw [h3]
  rw [S_data, show (⟨#[b]⟩ : ByteArray).data.toList = [b] from rfl, he] at hd
  have hl2 : (splitC b l).length = Lib.countB (S l) ⟨#[b]⟩ + 1 := by rw [← hd, List.length_map, hlen]
  rw [hl2]
  refine hc.mono ?_
  rintro e w' ⟨rfl, rfl⟩
  refine ⟨rfl, ?_⟩
  have hs : (Lib.splitB ⟨#[b]⟩ 0 (Lib.countB (S l) ⟨#[b]⟩) (S l)).map Value.string = (splitC b l).map fun x => Value.string (S x) := by
    rw [← hd, List.map_map]
    refine List.map_congr_left fun x _ => ?_
    simp [S_data']
  rw [hs]
  rfl
theorem res_whole2 {P : Program} {fn : Func} {p q : Tmp} {ty : TypeId} (h : fn.results = #[.cell p ty, .tmp q]) (tmps : Array Value) (w : World) (g : Nat) (ht : tmps.getD p undef = .pointer (some ⟨g, 0, none⟩)) (t : TypeId) (cells : Array Value) (hg : w.heap[g]? = some (.cells cells t (0, 0)))
    {d : TypeDesc} (hu : P.underlying ty = some d) (hd : d.isRow = true) (hi : (P.info? ty).map (·.size) = some cells.size) (x : Value) (hx : tmps.getD q undef = x) : (results fn tmps).run P w = .ok (.tuple #[.agg cells, x]) w := by
  have hc : w.rangeAt g 0 cells.toList := fun j v hv => by rw [Nat.zero_add, Lib.cell_of_heap hg]; simpa using hv
  have hl := run_loadVar_mid (P := P) w g 0 ty cells.toList d hc hu hd (by simpa using hi)
  rw [Array.toArray_toList] at hl
  subst hx
  have ht' : tmps[p]?.getD undef = .pointer (some ⟨g, 0, none⟩) := by simpa using ht
  simp only [results, h]
  simp [ht', asAddr, hl]
theorem heap_setCell {w : World} {b : Nat} {cs : Array Value} {t : TypeId} {fr : Nat × Nat} (h : w.heap[b]? = some (.cells cs t fr)) (i : Nat) (v : Value) : (w.setCell ⟨b, i, none⟩ v).heap[b]? = some (.cells (cs.setIfInBounds i v) t fr) := by
  simp [World.setCell, Array.getElem?_modify, h]
theorem arr3Size : (Tryd.prog.info? 54).map (·.size) = some 3 := by kernel_rfl
/-- What lies in the three numbers when k pieces are read. -/
def clkAt (P : List Bytes) (k j : Nat) : Int := if j < k then numV (num 2 2 (P.getD j [])) else 0
def clkCells (P : List Bytes) (k : Nat) : Array Value := #[.int .i64 (clkAt P k 0), .int .i64 (clkAt P k 1), .int .i64 (clkAt P k 2)]
theorem clk_next (P : List Bytes) {k : Nat} (hk : k < 3) : (clkCells P k).setIfInBounds k (.int .i64 (numV (num 2 2 (P.getD k [])))) = clkCells P (k + 1) := by
  match k, hk with
  | 0, _ => rfl
  | 1, _ => rfl
  | 2, _ => rfl
theorem clk_size (P : List Bytes) (k : Nat) : (Tryd.prog.info? 54).map (·.size) = some (clkCells P k).size := arr3Size
theorem clk_same (P : List Bytes) (k j : Nat) : (clkCells P k).size = (clkCells P j).size := rfl
theorem clk_all (P : List Bytes) (k : Nat) : (clkCells P k).all (·.oneCell') = true := by simp [clkCells, Value.oneCell']
theorem clk_at (P : List Bytes) {k : Nat} (hk : k < 3) : (clkCells P k)[k]? = some (.int .i64 0) := by
  match k, hk with
  | 0, _ => rfl
  | 1, _ => rfl
  | 2, _ => rfl
/-- What the program's clock hands back. -/
def ClkRes (l : Bytes) (e : Ending) : Prop := ∃ x y z : Int, e = .returned (.tuple #[.agg #[.int .i64 x, .int .i64 y, .int .i64 z], .bool (clockOf l).isSome]) ∧ ∀ h m s, clockOf l = some (h, m, s) → x = h ∧ y = m ∧ z = s
theorem clkRes_at (l : Bytes) (k : Nat) (b : Bool) (hb : (clockOf l).isSome = b) (hk : b = true → k = (splitC 58 l).length) : ClkRes l (.returned (.tuple #[.agg (clkCells (splitC 58 l) k), .bool b])) := by
  subst hb
  refine ⟨_, _, _, rfl, fun h m s hs => ?_⟩
  have hk2 := hk (by rw [hs]; rfl)
  subst hk2
  rw [← clockP_eq] at hs
  match hp : splitC 58 l, hs with
  | [a, b], hs =>
    rw [clockP2] at hs
    split at hs
    · rename_i x y h1 h2
      simp only [Option.some.injEq, Prod.mk.injEq] at hs
      obtain ⟨rfl, rfl, rfl⟩ := hs
      simp [clkAt, h1, h2, numV]
    · cases hs
  | [a, b, c], hs =>
    rw [clockP3] at hs
    split at hs
    · rename_i x y z h1 h2 h3
      simp only [Option.some.injEq, Prod.mk.injEq] at hs
      obtain ⟨rfl, rfl, rfl⟩ := hs
      simp [clkAt, h1, h2, h3, numV]
    · cases hs
  | [], hs => simp [clockP] at hs
  | [a], hs => simp [clockP] at hs
  | a :: b :: c :: d :: r, hs => simp [clockP] at hs
theorem clock_none {l : Bytes} (h : (splitC 58 l).length < 2 ∨ 3 < (splitC 58 l).length) : clockOf l = none := by
  rw [← clockP_eq]
  match hp : splitC 58 l, h with
  | [], h => rfl
  | [a], h => rfl
  | [a, b], h => simp at h
  | [a, b, c], h => simp at h
  | a :: b :: c :: d :: r, h => rfl
theorem clock_bad {l : Bytes} {k : Nat} (h2 : 2 ≤ (splitC 58 l).length) (h3 : (splitC 58 l).length ≤ 3) (hk : k < (splitC 58 l).length) (hn : num 2 2 ((splitC 58 l).getD k []) = none) : clockOf l = none := by
  rw [← clockP_eq]
  match hp : splitC 58 l, h2, h3 with
  | [a, b], _, _ =>
    rw [hp] at hk hn
    rw [clockP2]
    match k, hk with
    | 0, _ => simp at hn; simp [hn]
    | 1, _ => simp at hn; simp [hn]
    | k + 2, hk => simp at hk; omega
  | [a, b, c], _, _ =>
    rw [hp] at hk hn
    rw [clockP3]
    match k, hk with
    | 0, _ => simp at hn; simp [hn]
    | 1, _ => simp at hn; simp [hn]
    | 2, _ => simp at hn; simp [hn]
    | k + 3, hk => simp at hk; omega
theorem clock_good {l : Bytes} (h2 : 2 ≤ (splitC 58 l).length) (h3 : (splitC 58 l).length ≤ 3) (hn : ∀ j, j < (splitC 58 l).length → (num 2 2 ((splitC 58 l).getD j [])).isSome = true) : (clockOf l).isSome = true := by
  rw [← clockP_eq]
  match hp : splitC 58 l, h2, h3 with
  | [a, b], _, _ =>
    rw [hp] at hn
    have h0 := hn 0 (by simp)
    have h1 := hn 1 (by simp)
    simp at h0 h1
    obtain ⟨x, h0⟩ := Option.isSome_iff_exists.1 h0
    obtain ⟨y, h1⟩ := Option.isSome_iff_exists.1 h1
    rw [clockP2, h0, h1]; rfl
  | [a, b, c], _, _ =>
    rw [hp] at hn
    have h0 := hn 0 (by simp)
    have h1 := hn 1 (by simp)
    have h2 := hn 2 (by simp)
    simp at h0 h1 h2
    obtain ⟨x, h0⟩ := Option.isSome_iff_exists.1 h0
    obtain ⟨y, h1⟩ := Option.isSome_iff_exists.1 h1
    obtain ⟨z, h2⟩ := Option.isSome_iff_exists.1 h2
    rw [clockP3, h0, h1, h2]; rfl
theorem splitC_len (b : UInt8) : ∀ l : Bytes, (splitC b l).length ≤ l.length + 1
  | [] => by simp [splitC]
  | c :: l => by
    have := splitC_len b l
    rw [splitC]
    repeat' split
    all_goals simp_all
    all_goals omega
theorem splitC_piece (b : UInt8) : ∀ l : Bytes, ∀ x ∈ splitC b l, x.length ≤ l.length
  | [], x, h => by simp [splitC] at h; subst h; simp
  | c :: l, x, h => by
    have ih := splitC_piece b l
    rw [splitC] at h
    split at h
    · rcases List.mem_cons.1 h with rfl | h
      · simp
      · have := ih x h; simp; omega
    · split at h
      · simp at h; subst h; simp
      · rename_i y ys hq
        rcases List.mem_cons.1 h with rfl | h
        · have := ih y (by rw [hq]; simp)
          simp; omega
        · have := ih x (by rw [hq]; simp [h])
          simp; omega

set_option maxHeartbeats 4000000 in
set_option maxRecDepth 100000 in
theorem clock_any (l : Bytes) (w : World) (hT : Tab4 w) (hl : l.length ≤ 1000000) :
    Calls Tryd.prog 30 #[.string (S l)] w fun e w' => ClkRes l e ∧ Below w.heap.size w w' := by
  have hT1 : Tab4 (w.alloc (.cells #[.int .i64 0, .int .i64 0, .int .i64 0] 54)) := hT.next ((Below.refl _ _).alloc (Nat.le_refl _) _)
  have hs := split_any l 58 _ hT1 hl
  rw [World.size_alloc] at hs
  have hpl := splitC_piece 58 l
  have hsl := splitC_len 58 l
  have hr0 := fun k b => clkRes_at l k b
  have hbad := fun k => clock_bad (l := l) (k := k)
  have hgood := clock_good (l := l)
  have hnone := clock_none (l := l)
  generalize splitC 58 l = P at *
  have X0 := Lib.hid (show ((w.alloc (.cells #[.int .i64 0, .int .i64 0, .int .i64 0] 54)).alloc (.cells (strVs P) 9)).heap[w.heap.size]? = some (.cells (clkCells P 0) 54 (0, 0)) from alloc_old (heap_alloc_new w _))
  have X1 := Lib.hid (show ((w.alloc (.cells #[.int .i64 0, .int .i64 0, .int .i64 0] 54)).alloc (.cells (strVs P) 9)).heap[w.heap.size + 1]? = some (.cells (strVs P) 9 (0, 0)) from alloc_at (by simp))
  have XB := Lib.hid (show Below w.heap.size w ((w.alloc (.cells #[.int .i64 0, .int .i64 0, .int .i64 0] 54)).alloc (.cells (strVs P) 9)) from ((Below.refl _ _).alloc (Nat.le_refl _) _).alloc (by simp) _)
  have HS := Lib.hid hs
  have HPL := Lib.hid hpl
  have HR := Lib.hid hr0
  have HBAD := Lib.hid hbad
  have HGOOD := Lib.hid hgood
  have HNONE := Lib.hid hnone
  clear hs hpl hr0 hbad hgood hnone hT hT1
  go_enter Tryd.func30, Tryd.ntmps30
  go_wp2_with fail
  refine HS.out.mono ?_
  rintro e w1 ⟨rfl, hw1⟩
  rw [← hw1] at X0 X1 XB
  clear hw1
  have hz1 := heap_lt X1.out
  by_cases hlen : P.length < 2 ∨ 3 < P.length
  · have hn := HNONE.out hlen
    have hlen' : (P.length : Int) < 2 ∨ (¬ (P.length : Int) < 2 ∧ (3 : Int) < P.length) := by omega
    clear hlen
    rcases hlen' with h1 | ⟨h1, h2⟩
    all_goals
      go_wp2_with (first
        | (refine wpList_load_row rfl 54 _ rfl w.heap.size rfl 54 _ (0, 0) _ X0.out Tryd.underlying54 rfl (clk_size P 0) ?_)
        | (refine wp_store_whole rfl 54 _ _ rfl w.heap.size 54 _ (clkCells P 0) rfl rfl X0.out (clk_same P 0 0) (clk_size P 0) (clk_all P 0) ?_; intro w2 hx2 hu2))
      refine bodyPost_ret (v := .tuple #[.agg _, _]) (res_whole2 Tryd.results30 _ _ w.heap.size rfl 54 _ hx2 Tryd.underlying54 rfl (clk_size P 0) _ rfl) rfl ⟨HR.out 0 false (by rw [hn]; rfl) (fun h => by cases h), XB.out.trans (hu2.below (Nat.le_refl _) (by omega))⟩
  · have hl2 : 2 ≤ P.length := by omega
    have hl3 : P.length ≤ 3 := by omega
    have h1 : ¬ (P.length : Int) < 2 := by omega
    have h2 : ¬ (3 : Int) < P.length := by omega
    clear hlen HNONE HS
    go_wp2_with fail
    go_loopw [3, 20] (fun s3 s20 wr => ∃ (k : Nat) (b : Bool), k ≤ P.length ∧ s20 = .int .i64 (k : Int) ∧ s3 = .bool b ∧ (∀ j, j < k → (num 2 2 (P.getD j [])).isSome = true) ∧ wr.heap[w.heap.size]? = some (.cells (clkCells P k) 54 (0, 0)) ∧ wr.heap[w.heap.size + 1]? = some (.cells (strVs P) 9 (0, 0)) ∧ Below w.heap.size w wr) (fun _ s20 _ => P.length - (intOf s20).toNat)
    case atStart => exact ⟨0, false, by omega, rfl, rfl, fun j h => by omega, X0.out, X1.out, XB.out⟩
    case round =>
      obtain ⟨k, b, hk, rfl, rfl, hall, hx0, hx1, hb⟩ := hrel
      have HALL := Lib.hid hall
      have HX0 := Lib.hid hx0
      have HX1 := Lib.hid hx1
      have HB := Lib.hid hb
      have hz := heap_lt hx1
      clear hall hx0 hb
      by_cases hlt : k < P.length
      · have hlt' : (k : Int) < P.length := by omega
        have hpk : P[k]? = some (P.getD k []) := by simp [hlt]
        have hcell : wr.cell? ⟨w.heap.size + 1, k, none⟩ = some (.string (S (P.getD k []))) := by rw [cell_block hx1]; exact strVs_at hpk
        have hmem : P.getD k [] ∈ P := List.mem_of_getElem? hpk
        have hnum := fun W => number_any (P.getD k []) 2 2 (by decide) (by decide) W (Nat.le_trans (HPL.out _ hmem) hl)
        have hnx := clk_next P (k := k) (by omega)
        have HNX := Lib.hid hnx
        have hbd := HBAD.out k hl2 hl3 hlt
        generalize hq : P.getD k [] = q at *
        cases hn : num 2 2 q with
        | none =>
          rw [hn] at hnum HNX
          have hcn := hbd hn
          have HNUM := Lib.hid hnum
          clear hnum hnx hbd hn hx1 hpk hmem HALL
          go_wp2_with (first
            | (go_at_call 21; refine (HNUM.out _).mono ?_; rintro e w2 ⟨rfl, hb2⟩; have Y0 := (hb2.block w.heap.size (by omega)).trans HX0.out; have c2 : w2.cell? ⟨w.heap.size, k, none⟩ = some (.int .i64 0) := (by rw [cell_block Y0]; exact clk_at P (by omega)); have fz := Lib.frozen_of_heap Y0 k; have Y1 := heap_setCell Y0 k (.int .i64 (numV none)); rw [HNX.out] at Y1; have HB2 := Lib.hid hb2; have hz2 := hb2.size; clear hb2 Y0)
            | (refine wpList_load_row rfl 54 _ rfl w.heap.size rfl 54 _ (0, 0) _ Y1 Tryd.underlying54 rfl (clk_size P (k + 1)) ?_)
            | (refine wp_store_whole rfl 54 _ _ rfl w.heap.size 54 _ (clkCells P (k + 1)) rfl rfl Y1 (clk_same P _ _) (clk_size P (k + 1)) (clk_all P _) ?_; intro w3 hx3 hu3))
          refine bodyPost_ret (v := .tuple #[.agg _, _]) (res_whole2 Tryd.results30 _ _ w.heap.size rfl 54 _ hx3 Tryd.underlying54 rfl (clk_size P _) _ rfl) rfl ⟨HR.out (k + 1) false (by rw [hcn]; rfl) (fun h => by cases h), ?_⟩
          exact (HB.out.trans ((show Below w.heap.size wr w2 from HB2.out.mono (by omega)).setCell (p := ⟨w.heap.size, k, none⟩) (Nat.le_refl _) _)).trans (hu3.below (Nat.le_refl _) (by simp; omega))
        | some n =>
          rw [hn] at hnum HNX
          have HNUM := Lib.hid hnum
          have HN := Lib.hid hn
          have hpq : P.getD k [] = q := hq
          have HQ := Lib.hid hpq
          clear hnum hnx hbd hn hx1 hpk hmem hq hpq
          go_wp2_with (go_at_call 21; refine (HNUM.out _).mono ?_; rintro e w2 ⟨rfl, hb2⟩; have Y0 := (hb2.block w.heap.size (by omega)).trans HX0.out; have c2 : w2.cell? ⟨w.heap.size, k, none⟩ = some (.int .i64 0) := (by rw [cell_block Y0]; exact clk_at P (by omega)); have fz := Lib.frozen_of_heap Y0 k; have Y1 := heap_setCell Y0 k (.int .i64 (numV (some n))); rw [HNX.out] at Y1; have HB2 := Lib.hid hb2; have hz2 := hb2.size; have HY1 := Lib.hid Y1; clear hb2 Y0 Y1)
          go_roundw
          case rel =>
            refine ⟨k + 1, true, by omega, by go_num, rfl, fun j hj => ?_, HY1.out, ?_, ?_⟩
            · by_cases hjk : j < k
              · exact HALL.out j hjk
              · obtain rfl : j = k := by omega
                rw [HQ.out, HN.out]; rfl
            · rw [Below.heap_setCell _ _ _ _ (show w.heap.size + 1 ≠ w.heap.size by omega)]
              exact (HB2.out.block _ (by omega)).trans HX1.out
            · exact HB.out.trans ((show Below w.heap.size wr w2 from HB2.out.mono (by omega)).setCell (p := ⟨w.heap.size, k, none⟩) (Nat.le_refl _) _)
          case measure => simp [intOf]; omega
      · obtain rfl : k = P.length := by omega
        have hsome := HGOOD.out hl2 hl3 HALL.out
        have hlt' : ¬ (P.length : Int) < P.length := by omega
        clear hx1 HALL
        go_wp2_with (first
          | (refine wpList_load_row rfl 54 _ rfl w.heap.size rfl 54 _ (0, 0) _ HX0.out Tryd.underlying54 rfl (clk_size P P.length) ?_)
          | (refine wp_store_whole rfl 54 _ _ rfl w.heap.size 54 _ (clkCells P P.length) rfl rfl HX0.out (clk_same P _ _) (clk_size P P.length) (clk_all P _) ?_; intro w3 hx3 hu3))
        refine bodyPost_ret (v := .tuple #[.agg _, _]) (res_whole2 Tryd.results30 _ _ w.heap.size rfl 54 _ hx3 Tryd.underlying54 rfl (clk_size P _) _ rfl) rfl ⟨HR.out P.length true hsome (fun _ => rfl), ?_⟩
        exact HB.out.trans (hu3.below (Nat.le_refl _) (by omega))
end Go.Proofs.YtooabnmmgmmklaaDoor
