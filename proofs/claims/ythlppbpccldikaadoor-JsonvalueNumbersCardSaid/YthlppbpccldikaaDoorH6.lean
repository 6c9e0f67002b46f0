/-
  Several texts in one file, in build order:
  - Walks of chapter 11, the program: expect; the tables beside the parser's block.
  - From the row's list of package variables to the tables and the two errors that chapter 11 reads; a start that fits.
  - Walks of chapter 11, the program: word.
  - Plain: the number of chapter 11 is what strconv.ParseInt reads, but for a plus and leading zeros. No program.
  - Walks of chapter 11, the program: number.
  - Walks of chapter 11, the program: elements, over whatever it calls.
  - Walks of chapter 11, the program: a key that is there already.
  - Storing a struct in the midst of a block.
-/
import Derived.Test.YthlppbpccldikaaDoorH5
import Derived.Deep.RegionHeld3
import Derived.Test.YthlppbpccldikaaDoorH2
import Derived.Lay
import Derived.ProofKit
import Derived.Test.YthlppbpccldikaaDoorH1
import Derived.Test.YthlppbpccldikaaDoorH4
import Derived.Lib.AtoiAllCases
import Derived.Lib.ParseIntBTie
import Derived.Shelf.Strings.SlTrimAscii
import Derived.Shelf.Strconv.ParseIntPublic10
import Derived.Deep.LoopGhost
import Derived.Laws.CopyRow
set_option linter.unusedVariables false
namespace Go.Proofs.YthlppbpccldikaaDoor
open Go.RowKit

/-- What the two variables of strconv hold. -/
def NumE (w : World) : Prop := (∃ tp p, w.cell? ⟨2, 0, none⟩ = some (.iface tp p)) ∧ ∃ tp p, w.cell? ⟨3, 0, none⟩ = some (.iface tp p)
theorem NumE.next {w w' : World} (h : NumE w) (hb : Below w.heap.size w w') : NumE w' := by
  obtain ⟨⟨t1, p1, h1⟩, ⟨t2, p2, h2⟩⟩ := h
  exact ⟨⟨t1, p1, (hb.cell (p := ⟨_, 0, none⟩) (lt_of_cellJ h1)).trans h1⟩, ⟨t2, p2, (hb.cell (p := ⟨_, 0, none⟩) (lt_of_cellJ h2)).trans h2⟩⟩
/-- The tables lie ahead of block b, in a world that has them still. -/
def TabB (b : Nat) (W : World) : Prop := ∃ w0, (Tabs w0 ∧ NumE w0) ∧ w0.heap.size ≤ b ∧ Below w0.heap.size w0 W
theorem TabB.tabs {b : Nat} {W : World} (h : TabB b W) : Tabs W := by obtain ⟨w0, h1, _, h3⟩ := h; exact h1.1.next h3
theorem TabB.nume {b : Nat} {W : World} (h : TabB b W) : NumE W := by obtain ⟨w0, h1, _, h3⟩ := h; exact h1.2.next h3
theorem TabB.upd {b : Nat} {W W' : World} (h : TabB b W) (hu : Upd b W W') : TabB b W' := by
  obtain ⟨w0, h1, h2, h3⟩ := h; exact ⟨w0, h1, h2, h3.trans (hu.below h2 h3.size)⟩
theorem TabB.below {b : Nat} {W W' : World} (h : TabB b W) (hu : Below W.heap.size W W') : TabB b W' := h.upd (Upd.of_below hu)
/-- What a step of the parser does: it goes on, or it panics with a place and an error. -/
def PsrR (b : Nat) (l : Bytes) (d : Int) (w w' : World) (r : Except (Nat × Nat) Nat) (e : Ending) : Prop :=
  Upd b w w' ∧ match r with
  | .error q => e = panJ q
  | .ok n => e = .returned undef ∧ Psr w' b l n d
/-- What stands behind white space. -/
def expJ (l : Bytes) (n : Nat) (c : UInt8) : Except (Nat × Nat) Nat := if hasAt l (spEnd l n) [c] = true then .ok (spEnd l n + 1) else .error (wrongJ l (spEnd l n))
theorem hasAt_oneJ {l : Bytes} {n : Nat} (h : n < l.length) (c : UInt8) : hasAt l n [c] = true ↔ l[n] = c := by
  rw [hasAt_take, List.drop_eq_getElem_cons h]
  simp only [List.length_cons, List.length_nil, Nat.zero_add, List.take_succ_cons, List.take_zero, beq_iff_eq, List.cons.injEq, and_true]
theorem peekB_at {l : Bytes} {n : Nat} {c : UInt8} (hc : c ≠ 0) : hasAt l (spEnd l n) [c] = true ↔ peekB l n = c.toNat := by
  unfold peekB
  by_cases h : spEnd l n < l.length
  · rw [List.getD_eq_getElem?_getD, List.getElem?_eq_getElem h, Option.getD_some, hasAt_oneJ h]
    constructor
    · intro e; rw [e]
    · intro e; exact UInt8.toNat_inj.1 e
  · rw [List.getD_eq_getElem?_getD, List.getElem?_eq_none (by omega), Option.getD_none]
    constructor
    · intro e
      have := hasAt_in e
      omega
    · intro e
      exact absurd (UInt8.toNat_inj.1 e).symm hc
set_option maxHeartbeats 2000000 in
theorem expect_any (b : Nat) (l : Bytes) (n : Nat) (d : Int) (c : UInt8) (hc0 : c ≠ 0) (w : World) (hC : Psr w b l n d) (hn : n ≤ l.length) (hl : l.length ≤ 1000000000) :
    Calls Tryd.prog 51 #[.pointer (some ⟨b, 0, none⟩), .int .u8 c.toNat] w fun e w' => PsrR b l d w w' (expJ l n c) e := by
  have hs := fun W (hW : Psr W b l n d) => peek_any b l n d W hW hn hl
  have hz := spEnd_le (l := l) (n := n) hn
  have hat := peekB_at (l := l) (n := n) hc0
  have hcb := u8_lt c
  unfold expJ
  obtain ⟨z, hzz⟩ : ∃ z, spEnd l n = z := ⟨_, rfl⟩
  rw [hzz] at hs hz hat ⊢
  obtain ⟨k, hk⟩ : ∃ k, peekB l n = k := ⟨_, rfl⟩
  rw [hk] at hs hat
  have HS := Lib.hid hs
  have HC := Lib.hid hC
  clear hs hC hzz hk
  cases hh : hasAt l z [c] with
  | true =>
    obtain rfl := hat.1 hh
    have hlt := hasAt_in hh
    rw [if_pos rfl]
    have t : ((z : Int) == (l.length : Int)) = false := by rw [beq_eq_false_iff_ne]; omega
    clear hat hh
    go_enter Tryd.func51, Tryd.ntmps51
    go_wp2_with fail
    go_region_with (go_at_call 33; refine (HS.out w.drew HC.out).mono ?_; rintro e w1 ⟨rfl, hp1, hu1'⟩; have hu1 := Upd.undrew hu1'; clear hu1'; have c0 := hp1.c0; have c1 := hp1.c1)
    all_goals
      have f1 := hp1.free 1
      have HP := Lib.hid hp1
      have HU := Lib.hid hu1
      clear hp1 hu1
      go_wp2_with fail
      go_end0
      refine ⟨HU.out.trans (Upd.set_ b 1 w1 (.int .i64 ((z : Int) + 1))), rfl, ?_⟩
      rw [Int.natCast_add]
      exact HP.out.move ((z : Int) + 1)
  | false =>
    have hkc : ¬ k = c.toNat := fun e => by rw [hat.2 e] at hh; cases hh
    rw [if_neg (by decide)]
    have t : ((k : Int) != (c.toNat : Int)) = true := by rw [bne_iff_ne]; omega
    have hw := fun W hW => wrong11_any b l z d W hW hz hl
    have HW := Lib.hid hw
    clear hat hh hw
    go_enter Tryd.func51, Tryd.ntmps51
    go_wp2_with fail
    refine wp_region_held_drew (S := fun x => True) (by kernel_rfl) ?_ (fun hHeld => ?_)
    · (try dsimp only); try trivial
    refine wpAnyH_take (i := 0) (oi := (⟨some 4, _, _, _, _, _⟩ : Oper)) (v := ?_) rfl (by kernel_rfl) (by kernel_rfl) (by kernel_rfl) (fun _ _ _ h => h) (Or.inl ⟨by rfl, ?_⟩) (by assumption) ?_
    rotate_left
    · intro wS hSw; (try dsimp only at hSw); go_simp <;> with_reducible rfl
    simp only [Act.put, List.setIfInBounds_toArray, List.set_cons_zero, List.set_cons_succ]
    refine wpAnyH_take (i := 2) (oi := (⟨some 6, _, _, _, _, _⟩ : Oper)) (v := ?_) rfl (by kernel_rfl) (by kernel_rfl) (by kernel_rfl) (fun _ _ _ h => h) (Or.inl ⟨by rfl, ?_⟩) (by assumption) ?_
    rotate_left
    · intro wS hSw; (try dsimp only at hSw); go_simp <;> with_reducible rfl
    simp only [Act.put, List.setIfInBounds_toArray, List.set_cons_zero, List.set_cons_succ]
    refine wpAnyH_ready (rs := [1]) (by kernel_rfl) (by simp) ?_
    refine AllReadyH.cons (o := (⟨some 5, _, _, _, _, _⟩ : Oper)) rfl (fun K hK => ?_) ?_
    rotate_left
    · exact AllReadyH.nil
    go_simp
    go_at_call 33
    refine (HS.out w.drew HC.out).mono ?_
    rintro e w1 ⟨rfl, hp1, hu1'⟩
    have hu1 := Upd.undrew hu1'
    clear hu1'
    refine hK.out _ _ ?_ (fun hHeld => ?_)
    · (try dsimp only); try trivial
    clear hK K
    try simp only [Act.put, List.setIfInBounds_toArray, List.set_cons_zero, List.set_cons_succ]
    refine wpAnyH_take (i := 3) (oi := (⟨some 7, _, _, _, _, _⟩ : Oper)) (v := ?_) rfl (by kernel_rfl) (by kernel_rfl) (by kernel_rfl) (fun _ _ _ h => h) (Or.inl ⟨by rfl, ?_⟩) (by assumption) ?_
    rotate_left
    · intro wS hSw; (try dsimp only at hSw); go_simp <;> with_reducible rfl
    simp only [Act.put, List.setIfInBounds_toArray, List.set_cons_zero, List.set_cons_succ]
    refine wpAnyH_take (i := 4) (oi := (⟨some 8, _, _, _, _, _⟩ : Oper)) (v := ?_) rfl (by kernel_rfl) (by kernel_rfl) (by kernel_rfl) (fun _ _ _ h => h) (Or.inl ⟨by rfl, ?_⟩) (by assumption) ?_
    rotate_left
    · intro wS hSw; (try dsimp only at hSw); go_simp <;> with_reducible rfl
    simp only [Act.put, List.setIfInBounds_toArray, List.set_cons_zero, List.set_cons_succ]
    refine wpAnyH_take (i := 5) (oi := (⟨some 9, _, _, _, _, _⟩ : Oper)) (v := undef) rfl (by kernel_rfl) (by kernel_rfl) (by kernel_rfl) (fun _ _ _ h => h) (Or.inr ⟨by rfl, rfl⟩) (by assumption) ?_
    simp only [Act.put, List.setIfInBounds_toArray, List.set_cons_zero, List.set_cons_succ]
    refine wpAnyH_take (i := 6) (oi := (⟨some 10, _, _, _, _, _⟩ : Oper)) (v := undef) rfl (by kernel_rfl) (by kernel_rfl) (by kernel_rfl) (fun _ _ _ h => h) (Or.inr ⟨by rfl, rfl⟩) (by assumption) ?_
    simp only [Act.put, List.setIfInBounds_toArray, List.set_cons_zero, List.set_cons_succ]
    refine wpAnyH_take (i := 7) (oi := (⟨some 11, _, _, _, _, _⟩ : Oper)) (v := undef) rfl (by kernel_rfl) (by kernel_rfl) (by kernel_rfl) (fun _ _ _ h => h) (Or.inr ⟨by rfl, rfl⟩) (by assumption) ?_
    simp only [Act.put, List.setIfInBounds_toArray, List.set_cons_zero, List.set_cons_succ]
    refine wpAnyH_take (i := 8) (oi := (⟨some 12, _, _, _, _, _⟩ : Oper)) (v := undef) rfl (by kernel_rfl) (by kernel_rfl) (by kernel_rfl) (fun _ _ _ h => h) (Or.inr ⟨by rfl, rfl⟩) (by assumption) ?_
    simp only [Act.put, List.setIfInBounds_toArray, List.set_cons_zero, List.set_cons_succ]
    refine wpAnyH_take (i := 9) (oi := (⟨some 13, _, _, _, _, _⟩ : Oper)) (v := undef) rfl (by kernel_rfl) (by kernel_rfl) (by kernel_rfl) (fun _ _ _ h => h) (Or.inr ⟨by rfl, rfl⟩) (by assumption) ?_
    simp only [Act.put, List.setIfInBounds_toArray, List.set_cons_zero, List.set_cons_succ]
    refine wpAnyH_take (i := 10) (oi := (⟨some 14, _, _, _, _, _⟩ : Oper)) (v := undef) rfl (by kernel_rfl) (by kernel_rfl) (by kernel_rfl) (fun _ _ _ h => h) (Or.inr ⟨by rfl, rfl⟩) (by assumption) ?_
    simp only [Act.put, List.setIfInBounds_toArray, List.set_cons_zero, List.set_cons_succ]
    refine wpAnyH_take (i := 11) (oi := (⟨some 15, _, _, _, _, _⟩ : Oper)) (v := undef) rfl (by kernel_rfl) (by kernel_rfl) (by kernel_rfl) (fun _ _ _ h => h) (Or.inr ⟨by rfl, rfl⟩) (by assumption) ?_
    simp only [Act.put, List.setIfInBounds_toArray, List.set_cons_zero, List.set_cons_succ]
    refine wpAnyH_take (i := 12) (oi := (⟨some 16, _, _, _, _, _⟩ : Oper)) (v := undef) rfl (by kernel_rfl) (by kernel_rfl) (by kernel_rfl) (fun _ _ _ h => h) (Or.inr ⟨by rfl, rfl⟩) (by assumption) ?_
    simp only [Act.put, List.setIfInBounds_toArray, List.set_cons_zero, List.set_cons_succ]
    refine wpAnyH_take (i := 13) (oi := (⟨some 17, _, _, _, _, _⟩ : Oper)) (v := undef) rfl (by kernel_rfl) (by kernel_rfl) (by kernel_rfl) (fun _ _ _ h => h) (Or.inr ⟨by rfl, rfl⟩) (by assumption) ?_
    simp only [Act.put, List.setIfInBounds_toArray, List.set_cons_zero, List.set_cons_succ]
    refine wpAnyH_take (i := 14) (oi := (⟨some 18, _, _, _, _, _⟩ : Oper)) (v := undef) rfl (by kernel_rfl) (by kernel_rfl) (by kernel_rfl) (fun _ _ _ h => h) (Or.inr ⟨by rfl, rfl⟩) (by assumption) ?_
    simp only [Act.put, List.setIfInBounds_toArray, List.set_cons_zero, List.set_cons_succ]
    refine wpAnyH_take (i := 15) (oi := (⟨some 19, _, _, _, _, _⟩ : Oper)) (v := ?_) rfl (by kernel_rfl) (by kernel_rfl) (by kernel_rfl) (fun _ _ _ h => h) (Or.inl ⟨by rfl, ?_⟩) (by assumption) ?_
    rotate_left
    · intro wS hSw; (try dsimp only at hSw); go_simp <;> with_reducible rfl
    simp only [Act.put, List.setIfInBounds_toArray, List.set_cons_zero, List.set_cons_succ]
    refine wpAnyH_done (by kernel_rfl) ?_ _
    go_wp2_with (go_at_call 41; refine (HW.out _ hp1).mono ?_; rintro e w2 ⟨rfl, hp2, hu2⟩)
    have HU := Lib.hid (hu1.trans hu2)
    clear hp1 hu1 hp2 hu2
    simp [bodyPost, PsrR]
    exact HU.out
end Go.Proofs.YthlppbpccldikaaDoor
set_option linter.unusedVariables false
namespace Go.Proofs.YthlppbpccldikaaDoor
open Go.RowKit Go.ChangeShapes Go.WideShapes

def lettRows : List (Int × Int) := [(98, 8), (102, 12), (110, 10), (114, 13), (116, 9)]
theorem lett_eq : (Rows.laid_feedvault_jsonstring_letters : DataW Unit) = .agg (lettRows.map fun r => Lib.tabData .u8 [r.1, r.2]) := by kernel_rfl
theorem pow_eq : (Rows.laid_internal_strconv_uint64pow10 : DataW Unit) = Lib.tabData .u64 Lib.pow10Tab := by kernel_rfl
theorem gLett : Tryd.prog.globalNamed "feedvault/jsonstring.letters" = some 1 := by kernel_rfl
theorem gPow : Tryd.prog.globalNamed "internal/strconv.uint64pow10" = some 6 := by kernel_rfl
theorem gES : Tryd.prog.globalNamed "strconv.ErrSyntax" = some 2 := by kernel_rfl
theorem gER : Tryd.prog.globalNamed "strconv.ErrRange" = some 3 := by kernel_rfl
theorem tLett : (Tryd.prog.globals[(1 : Nat)]?).map (·.type) = some 108 := by kernel_rfl
theorem tPow : (Tryd.prog.globals[(6 : Nat)]?).map (·.type) = some 145 := by kernel_rfl
theorem tES : (Tryd.prog.globals[(2 : Nat)]?).map (·.type) = some 66 := by kernel_rfl
theorem tER : (Tryd.prog.globals[(3 : Nat)]?).map (·.type) = some 66 := by kernel_rfl
theorem cellsLett : Tryd.prog.cellsOf 108 = 5 * 2 := by kernel_rfl
theorem cellsPairU : Tryd.prog.cellsOf 107 = 2 := by kernel_rfl
theorem cellsPow : Tryd.prog.cellsOf 145 = 20 := by kernel_rfl
theorem cellsU64 : Tryd.prog.cellsOf 57 = 1 := by kernel_rfl
theorem err_cell {W : World} {name nm : String} {d : DataW Unit} {g : Nat} (r : Lib.VarReads Tryd.prog W name (.iface nm d)) (hg0 : Tryd.prog.globalNamed name = some g) (ht0 : (Tryd.prog.globals[g]?).map (·.type) = some 66) : ∃ tp p, W.cell? ⟨g, 0, none⟩ = some (.iface tp p) := by
  obtain ⟨g', t, cs, fuel, p, hg, hty, hvar, hd⟩ := r
  obtain rfl := Option.some.inj (hg0.symm.trans hg)
  obtain rfl := Option.some.inj (ht0.symm.trans hty)
  obtain ⟨_, u, v, hcs, _, _⟩ := iface_of_trod Tryd.underlying66 hd
  obtain ⟨t, fr, hh⟩ := heap_of_var hg hvar
  refine ⟨u, v, ?_⟩
  rw [Lib.cell_of_heap hh, ← Array.getElem?_toList, hcs]
  rfl
theorem tab11_of_reads {W : World} (r1 : Lib.VarReads Tryd.prog W "unicode/utf8.first" Lib.firstData) (r2 : Lib.VarReads Tryd.prog W "unicode/utf8.acceptRanges" Lib.acceptData) (r3 : Lib.VarReads Tryd.prog W "internal/strconv.uint64pow10" (Lib.tabData .u64 Lib.pow10Tab))
    (r4 : Lib.VarReads Tryd.prog W "feedvault/jsonstring.letters" (.agg (lettRows.map fun r => Lib.tabData .u8 [r.1, r.2]))) : TabJ W := by
  refine ⟨utf8_own r1 r2, ?_, ?_⟩
  · obtain ⟨g, t, cs, fuel, p, hg, hty, hvar, hd⟩ := r4
    obtain rfl := Option.some.inj (gLett.symm.trans hg)
    obtain rfl := Option.some.inj (tLett.symm.trans hty)
    have hcs := cells_of_pairs Tryd.underlying108 Tryd.underlying107 Tryd.underlying5 cellsByte cellsPairU cellsLett hd rfl
    obtain ⟨t, fr, hh⟩ := heap_of_var hg hvar
    refine ⟨t, fr, ?_⟩
    rw [hh]
    congr 2
    apply Array.ext'
    rw [hcs]
    rfl
  · obtain ⟨g, t, cs, fuel, p, hg, hty, hvar, hd⟩ := r3
    obtain rfl := Option.some.inj (gPow.symm.trans hg)
    obtain rfl := Option.some.inj (tPow.symm.trans hty)
    have hcs := Lib.cells_of_tab Tryd.underlying145 Tryd.underlying57 cellsU64 cellsPow hd
    unfold Lib.TabIs
    rw [hvar]
    congr 1
    apply Array.ext'
    rw [hcs]
theorem tab11_of_list {W : World} {l : List (String × DataW Unit)} (hp : l.filter (fun x => x.2.handleName?.isSome) = []) (h : laidMetH Tryd.prog l W)
    (m1 : ("unicode/utf8.first", Rows.laid_unicode_utf8_first) ∈ l) (m2 : ("unicode/utf8.acceptRanges", Rows.laid_unicode_utf8_acceptRanges) ∈ l) (m3 : ("internal/strconv.uint64pow10", Rows.laid_internal_strconv_uint64pow10) ∈ l) (m4 : ("feedvault/jsonstring.letters", Rows.laid_feedvault_jsonstring_letters) ∈ l)
    (m5 : ("strconv.ErrSyntax", Rows.laid_strconv_ErrSyntax) ∈ l) (m6 : ("strconv.ErrRange", Rows.laid_strconv_ErrRange) ∈ l) : TabJ W ∧ NumE W := by
  unfold laidMetH at h
  rw [hp] at h
  have r1 := Lib.laidMet.reads h m1
  have r2 := Lib.laidMet.reads h m2
  have r3 := Lib.laidMet.reads h m3
  have r4 := Lib.laidMet.reads h m4
  have r5 := Lib.laidMet.reads h m5
  have r6 := Lib.laidMet.reads h m6
  rw [first_eq] at r1
  rw [accept_eq] at r2
  rw [pow_eq] at r3
  rw [lett_eq] at r4
  exact ⟨tab11_of_reads r1 r2 r3 r4, err_cell r5 gES tES, err_cell r6 gER tER⟩
theorem own : ownKnob Tryd.prog.godebug = none := by kernel_rfl
end Go.Proofs.YthlppbpccldikaaDoor
set_option linter.unusedVariables false
namespace Go.Proofs.YthlppbpccldikaaDoor
open Go.RowKit

/-- What word does: the value v is handed on. -/
def WordR (b : Nat) (l : Bytes) (d : Int) (v : Value) (w w' : World) (r : Except (Nat × Nat) Nat) (e : Ending) : Prop :=
  Upd b w w' ∧ match r with
  | .error q => e = panJ q
  | .ok n => e = .returned v ∧ Psr w' b l n d
def wordN (l : Bytes) (n : Nat) (nm : Bytes) : Except (Nat × Nat) Nat := if hasAt l n nm = true then .ok (n + nm.length) else .error (n, 7)
theorem wp_store_valQ {ops : Array Oper} {rest : List Oper} {o : Oper} {a : Act} {w : World} {Q : Exit → Act → World → Prop} (hgd : o.guard = none) (x y : Operand) (ho : o.op = .store 25 x y)
    (g : Nat) (cur : Array Value) (k n p : Int) (b : Bool) (s : ByteArray) (I M : Option Addr) (i c m d : Nat) (hx : a.eval x = .pointer (some ⟨g, 0, none⟩)) (hy : a.eval y = .agg #[.int .i64 k, .bool b, .int .i64 n, .string s, .slice I i c, .slice M m d, .int .i64 p])
    (hg : w.heap[g]? = some (.cells cur 25 (0, 0))) (hs : cur.size = 7)
    (h : ∀ w', w'.heap[g]? = some (.cells #[.int .i64 k, .bool b, .int .i64 n, .string s, .slice I i c, .slice M m d, .int .i64 p] 25 (0, 0)) → Upd g w w' → wpList Tryd.prog ops Q rest (a.put o.dst undef) w') : wpList Tryd.prog ops Q (o :: rest) a w :=
  wp_store_whole hgd 25 x y ho g 25 cur _ hx hy hg (by rw [hs]; rfl) valSize (by simp [Value.oneCell']) h
theorem Upd.nextC {b c : Nat} {w w1 w2 : World} (h : Upd b w w1) (k : Upd c w1 w2) (hc : w.heap.size ≤ c) : Upd b w w2 :=
  ⟨k.os.trans h.os, k.tape.trans h.tape, k.output.trans h.output, Nat.le_trans h.size k.size, fun i hi hb => (k.block i (Nat.lt_of_lt_of_le hi h.size) (by omega)).trans (h.block i hi hb)⟩
theorem Psr.beside {w w' : World} {b c : Nat} {l : Bytes} {n d : Int} (h : Psr w b l n d) (k : Upd c w w') (hc : b ≠ c) : Psr w' b l n d := (k.block b h.lt hc).trans h
theorem seven_setK {W : World} {b : Nat} {t : TypeId} {c0 c1 c2 c3 c4 c5 c6 : Value} (h : W.heap[b]? = some (.cells #[c0, c1, c2, c3, c4, c5, c6] t (0, 0))) (v0 v1 v2 v3 v4 v5 v6 : Value) :
    (((((((W.setCell ⟨b, 0, none⟩ v0).setCell ⟨b, 1, none⟩ v1).setCell ⟨b, 2, none⟩ v2).setCell ⟨b, 3, none⟩ v3).setCell ⟨b, 4, none⟩ v4).setCell ⟨b, 5, none⟩ v5).setCell ⟨b, 6, none⟩ v6).heap[b]? = some (.cells #[v0, v1, v2, v3, v4, v5, v6] t (0, 0)) ∧
    Upd b W (((((((W.setCell ⟨b, 0, none⟩ v0).setCell ⟨b, 1, none⟩ v1).setCell ⟨b, 2, none⟩ v2).setCell ⟨b, 3, none⟩ v3).setCell ⟨b, 4, none⟩ v4).setCell ⟨b, 5, none⟩ v5).setCell ⟨b, 6, none⟩ v6) := by
  have a1 : _ = some (Obj.cells #[v0, c1, c2, c3, c4, c5, c6] t (0, 0)) := heap_set (i := 0) h v0
  have a2 : _ = some (Obj.cells #[v0, v1, c2, c3, c4, c5, c6] t (0, 0)) := heap_set (i := 1) a1 v1
  have a3 : _ = some (Obj.cells #[v0, v1, v2, c3, c4, c5, c6] t (0, 0)) := heap_set (i := 2) a2 v2
  have a4 : _ = some (Obj.cells #[v0, v1, v2, v3, c4, c5, c6] t (0, 0)) := heap_set (i := 3) a3 v3
  have a5 : _ = some (Obj.cells #[v0, v1, v2, v3, v4, c5, c6] t (0, 0)) := heap_set (i := 4) a4 v4
  have a6 : _ = some (Obj.cells #[v0, v1, v2, v3, v4, v5, c6] t (0, 0)) := heap_set (i := 5) a5 v5
  refine ⟨heap_set (i := 6) a6 v6, ?_⟩
  exact ((((((Upd.set_ b 0 W v0).trans (Upd.set_ b 1 _ v1)).trans (Upd.set_ b 2 _ v2)).trans (Upd.set_ b 3 _ v3)).trans (Upd.set_ b 4 _ v4)).trans (Upd.set_ b 5 _ v5)).trans (Upd.set_ b 6 _ v6)
abbrev valCells (k : Int) (bb : Bool) (q : Int) : Array Value := #[.int .i64 k, .bool bb, .int .i64 0, .string ByteArray.empty, .slice none 0 0, .slice none 0 0, .int .i64 q]
set_option maxHeartbeats 2000000 in
theorem word_any (b : Nat) (l : Bytes) (n : Nat) (d : Int) (nm : Bytes) (k : Int) (bb : Bool) (q : Int) (w : World) (hC : Psr w b l n d) (hn : n ≤ l.length) (hl : l.length ≤ 1000000000) (hnm : nm.length ≤ 10) :
    Calls Tryd.prog 34 #[.pointer (some ⟨b, 0, none⟩), .string (S nm), .agg (valCells k bb q)] w fun e w' => WordR b l d (.agg (valCells k bb q)) w w' (wordN l n nm) e := by
  have hh : ∀ W, Calls Tryd.prog 24 #[.string (S (l.drop n)), .string (S nm)] W fun e w' => e = .returned (.bool (hasAt l n nm)) ∧ W = w' := fun W => by
    have h := Tryd.strings_HasPrefix (S (l.drop n)) (S nm) W
    rw [S_data, S_data] at h
    exact h.mono fun e w' ⟨h1, h2⟩ => ⟨h1, h2.symm⟩
  have c0 := hC.c0
  have c1 := hC.c1
  have f1 := hC.free 1
  have hb0 := hC.lt
  have HH := Lib.hid hh
  have HC := Lib.hid hC
  unfold wordN
  clear hh hC
  cases hb : hasAt l n nm with
  | false =>
    rw [if_neg (by decide)]
    rw [hb] at HH
    go_enter Tryd.func34, Tryd.ntmps34
    go_wp2_with fail
    go_quiet ((go_at_call 24; exact quiet_drewnJ HH.out))
    go_wp2_with fail
    have HU : Hid (Upd b w (((w.alloc (.cells (valCells k bb q) 25)).alloc (.cells (valCells 0 false 0) 25)).drewN nq)) := (((Upd.refl b w).alloc _).alloc _).trans (updDrewN _ nq b)
    change bodyPost _ _ _ _ _ (((w.alloc (.cells (valCells k bb q) 25)).alloc (.cells (valCells 0 false 0) 25)).drewN nq)
    generalize (((w.alloc (.cells (valCells k bb q) 25)).alloc (.cells (valCells 0 false 0) 25)).drewN nq) = W2 at *
    simp [bodyPost, WordR]
    exact HU.out
  | true =>
    rw [if_pos rfl]
    rw [hb] at HH
    go_enter Tryd.func34, Tryd.ntmps34
    go_wp2_with fail
    go_quiet ((go_at_call 24; exact quiet_drewnJ HH.out))
    go_wp2_with fail
    have hp1 : Psr (((w.alloc (.cells (valCells k bb q) 25)).alloc (.cells (valCells 0 false 0) 25)).drewN nq) b l n d := (HC.out.below (((Below.refl _ _).alloc (Nat.le_refl _) _).alloc (by simp) _)).drewN nq
    have hu1 : Upd b w (((w.alloc (.cells (valCells k bb q) 25)).alloc (.cells (valCells 0 false 0) 25)).drewN nq) := (((Upd.refl b w).alloc _).alloc _).trans (updDrewN _ nq b)
    have hx1 : (((w.alloc (.cells (valCells k bb q) 25)).alloc (.cells (valCells 0 false 0) 25)).drewN nq).heap[w.heap.size + 1]? = some (.cells (valCells 0 false 0) 25 (0, 0)) := alloc_at (W := w.alloc (.cells (valCells k bb q) 25)) (by simp)
    have hp2 := hp1.move ((n : Int) + nm.length)
    have hu2 := hu1.trans (Upd.set_ b 1 _ (.int .i64 ((n : Int) + nm.length)))
    have hx2 := (Below.heap_setCell _ ⟨b, 1, none⟩ (.int .i64 ((n : Int) + nm.length)) _ (show w.heap.size + 1 ≠ b by omega)).trans hx1
    obtain ⟨hx3, hu3⟩ := seven_setK hx2 (.int .i64 k) (.bool bb) (.int .i64 0) (.string ByteArray.empty) (.slice none 0 0) (.slice none 0 0) (.int .i64 q)
    refine bodyPost_ret (v := .agg _) (res_whole Tryd.results34 _ _ (w.heap.size + 1) rfl 25 _ hx3 Tryd.underlying25 rfl valSize) rfl ⟨hu2.nextC hu3 (by omega), rfl, ?_⟩
    rw [Int.natCast_add]
    exact hp2.beside hu3 (by omega)
end Go.Proofs.YthlppbpccldikaaDoor
set_option linter.unusedVariables false
namespace Go.Proofs.YthlppbpccldikaaDoor

theorem isDg_nat {c : UInt8} : isDg c = true ↔ 48 ≤ c.toNat ∧ c.toNat ≤ 57 := by
  unfold isDg
  rw [Bool.and_eq_true, decide_eq_true_eq, decide_eq_true_eq, UInt8.le_iff_toNat_le, UInt8.le_iff_toNat_le]
  rfl
def dvA (a : Nat) (l : Bytes) : Nat := l.foldl (fun a c => 10 * a + (c.toNat - 48)) a
theorem dvA_cons (a : Nat) (c : UInt8) (l : Bytes) : dvA a (c :: l) = dvA (10 * a + (c.toNat - 48)) l := by unfold dvA; rw [List.foldl_cons]
theorem dvA_nil (a : Nat) : dvA a [] = a := rfl
theorem dvA_ge : ∀ (l : Bytes) (a : Nat), a * 10 ^ l.length ≤ dvA a l
  | [], a => by rw [dvA_nil]; simp
  | c :: l, a => by
    rw [dvA_cons, List.length_cons, Nat.pow_succ]
    calc a * (10 ^ l.length * 10) = (10 * a) * 10 ^ l.length := by rw [Nat.mul_comm (10 ^ l.length) 10, ← Nat.mul_assoc, Nat.mul_comm a 10]
      _ ≤ (10 * a + (c.toNat - 48)) * 10 ^ l.length := Nat.mul_le_mul_right _ (by omega)
      _ ≤ dvA (10 * a + (c.toNat - 48)) l := dvA_ge l _
theorem dvA_le (l : Bytes) (a : Nat) : a ≤ dvA a l := Nat.le_trans (Nat.le_mul_of_pos_right a (Nat.pow_pos (by decide))) (dvA_ge l a)
theorem pu10_ok : ∀ (l : Bytes) (a : Nat), l.all isDg = true → dvA a l < 18446744073709551616 → Lib.parseUint10 a l = .ok (dvA a l)
  | [], a, _, _ => rfl
  | c :: l, a, h, hb => by
    rw [List.all_cons, Bool.and_eq_true] at h
    have hc := isDg_nat.1 h.1
    rw [dvA_cons] at hb ⊢
    have := dvA_le l (10 * a + (c.toNat - 48))
    rw [Lib.parseUint10, if_pos hc, if_neg (by omega), if_neg (by omega), show a * 10 + (c.toNat - 48) = 10 * a + (c.toNat - 48) by omega]
    exact pu10_ok l _ h.2 hb
theorem pu10_big : ∀ (l : Bytes) (a : Nat), a < 18446744073709551616 → l.all isDg = true → 18446744073709551616 ≤ dvA a l → Lib.parseUint10 a l = .range
  | [], a, ha, _, hb => by rw [dvA_nil] at hb; omega
  | c :: l, a, ha, h, hb => by
    rw [List.all_cons, Bool.and_eq_true] at h
    have hc := isDg_nat.1 h.1
    rw [dvA_cons] at hb
    rw [Lib.parseUint10, if_pos hc]
    split
    · rfl
    · split
      · rfl
      · rw [show a * 10 + (c.toNat - 48) = 10 * a + (c.toNat - 48) by omega]
        exact pu10_big l _ (by omega) h.2 hb
theorem pu10_bad : ∀ (l : Bytes) (a u : Nat), l.all isDg = false → Lib.parseUint10 a l ≠ .ok u
  | [], a, u, h => by cases h
  | c :: l, a, u, h => by
    rw [Lib.parseUint10]
    split
    · rename_i hc
      split
      · simp
      · split
        · simp
        · refine pu10_bad l _ u ?_
          rw [List.all_cons, isDg_nat.2 hc, Bool.true_and] at h
          exact h
    · simp
theorem dval_dvA (l : Bytes) : dvalJ l = dvA 0 l := rfl
/-- How a magnitude is read. -/
theorem mag_cases (d : Bytes) : (d ≠ [] ∧ d.all isDg = true ∧ dvalJ d < 18446744073709551616 ∧ Lib.parseMag d = .ok (dvalJ d)) ∨ ((d = [] ∨ d.all isDg = false ∨ 18446744073709551616 ≤ dvalJ d) ∧ ∀ u, Lib.parseMag d ≠ .ok u) := by
  by_cases h0 : d = []
  · exact .inr ⟨.inl h0, fun u => by unfold Lib.parseMag; rw [if_pos h0]; simp⟩
  have e : Lib.parseMag d = Lib.parseUint10 0 d := by unfold Lib.parseMag; rw [if_neg h0]
  cases ha : d.all isDg with
  | false => exact .inr ⟨.inr (.inl rfl), fun u => by rw [e]; exact pu10_bad d 0 u ha⟩
  | true =>
    by_cases hb : dvalJ d < 18446744073709551616
    · exact .inl ⟨h0, rfl, hb, by rw [e]; exact pu10_ok d 0 ha hb⟩
    · exact .inr ⟨.inr (.inr (by omega)), fun u => by rw [e, pu10_big d 0 (by decide) ha (by rw [← dval_dvA]; omega)]; simp⟩
/-- Digits without a leading zero are few. -/
theorem len_few {d : Bytes} (ha : d.all isDg = true) (hz : ¬ (1 < d.length ∧ d.head? = some 48)) (hb : dvalJ d ≤ 9223372036854775808) : d.length ≤ 19 := by
  cases d with
  | nil => simp
  | cons c l =>
    rw [List.all_cons, Bool.and_eq_true] at ha
    have hc := isDg_nat.1 ha.1
    by_cases h1 : l.length = 0
    · simp [h1]
    have h48 : c.toNat ≠ 48 := fun h => hz ⟨by simp only [List.length_cons]; omega, by
      have : c = 48 := UInt8.toNat_inj.1 h
      rw [this]; rfl⟩
    rw [dval_dvA, dvA_cons] at hb
    have h2 := dvA_ge l (10 * 0 + (c.toNat - 48))
    have h3 : 1 * 10 ^ l.length ≤ (10 * 0 + (c.toNat - 48)) * 10 ^ l.length := Nat.mul_le_mul_right _ (by omega)
    have h4 : 10 ^ l.length ≤ 9223372036854775808 := by omega
    simp only [List.length_cons]
    by_cases h5 : l.length ≤ 18
    · omega
    · have h6 : 10 ^ 19 ≤ 10 ^ l.length := Nat.pow_le_pow_right (by decide) (by omega)
      have h7 : (10 : Nat) ^ 19 = 10000000000000000000 := by decide
      omega
def magJ (l : Bytes) : Bytes := if l.head? = some 45 then l.drop 1 else l
/-- The number that the program takes: what ParseInt reads, without a plus and without leading zeros. -/
theorem num_atoi {l : Bytes} (h43 : l.head? ≠ some 43) : (∀ v, numJ l = some v → Lib.atoiAll l = .ok v ∧ ¬ (1 < (magJ l).length ∧ (magJ l).head? = some 48)) ∧ (numJ l = none → (∀ v, Lib.atoiAll l ≠ .ok v) ∨ (1 < (magJ l).length ∧ (magJ l).head? = some 48)) := by
  cases l with
  | nil => exact ⟨fun v h => by simp [numJ] at h, fun _ => .inl fun v => by simp [Lib.atoiAll]⟩
  | cons c r =>
    by_cases h45 : c = 45
    · subst h45
      have em : magJ (45 :: r) = r := rfl
      have en : numJ (45 :: r) = (if r ≠ [] ∧ r.length ≤ 19 ∧ r.all isDg = true ∧ ¬ (1 < r.length ∧ r.head? = some 48) ∧ dvalJ r ≤ 9223372036854775808 then some (-(dvalJ r : Int)) else none) := rfl
      rw [em, en, Lib.atoiAll_minus]
      rcases mag_cases r with ⟨m1, m2, m3, m4⟩ | ⟨m1, m2⟩
      · rw [m4]
        unfold Lib.signed
        by_cases hz : 1 < r.length ∧ r.head? = some 48
        · rw [if_neg (fun h => h.2.2.2.1 hz)]
          exact ⟨fun v h => (by cases h), fun _ => .inr hz⟩
        by_cases hb : dvalJ r ≤ 9223372036854775808
        · rw [if_pos ⟨m1, len_few m2 hz hb, m2, hz, hb⟩]
          refine ⟨fun v h => ?_, fun h => by cases h⟩
          cases h
          simp only
          rw [if_neg (by omega)]
          exact ⟨rfl, hz⟩
        · rw [if_neg (fun h => hb h.2.2.2.2)]
          refine ⟨fun v h => (by cases h), fun _ => .inl fun v => ?_⟩
          simp only
          rw [if_pos (by omega)]
          simp
      · rw [if_neg (by
          rintro ⟨h1, h2, h3, h4, h5⟩
          rcases m1 with h | h | h
          · exact h1 h
          · rw [h3] at h; cases h
          · omega)]
        refine ⟨fun v h => (by cases h), fun _ => .inl fun v => ?_⟩
        rcases hm : Lib.parseMag r with u | _ | _
        · exact absurd hm (m2 u)
        · simp [Lib.signed]
        · simp [Lib.signed]
    · have h45' : (c :: r).head? ≠ some 45 := by simpa using h45
      have em : magJ (c :: r) = c :: r := by unfold magJ; rw [if_neg h45']
      have en : numJ (c :: r) = (if (c :: r) ≠ [] ∧ (c :: r).length ≤ 19 ∧ (c :: r).all isDg = true ∧ ¬ (1 < (c :: r).length ∧ (c :: r).head? = some 48) ∧ dvalJ (c :: r) < 9223372036854775808 then some (dvalJ (c :: r) : Int) else none) := by unfold numJ; rw [if_neg h45']
      have n43 : c.toNat ≠ 43 := fun h => h43 (by have : c = 43 := UInt8.toNat_inj.1 h; rw [this]; rfl)
      have n45 : c.toNat ≠ 45 := fun h => h45 (UInt8.toNat_inj.1 h)
      rw [em, en, Lib.atoiAll_plain c r n43 n45]
      generalize c :: r = l
      rcases mag_cases l with ⟨m1, m2, m3, m4⟩ | ⟨m1, m2⟩
      · rw [m4]
        unfold Lib.signless
        by_cases hz : 1 < l.length ∧ l.head? = some 48
        · rw [if_neg (fun h => h.2.2.2.1 hz)]
          exact ⟨fun v h => (by cases h), fun _ => .inr hz⟩
        by_cases hb : dvalJ l < 9223372036854775808
        · rw [if_pos ⟨m1, len_few m2 hz (by omega), m2, hz, hb⟩]
          refine ⟨fun v h => ?_, fun h => by cases h⟩
          cases h
          simp only
          rw [if_neg (by omega)]
          exact ⟨rfl, hz⟩
        · rw [if_neg (fun h => hb h.2.2.2.2)]
          refine ⟨fun v h => (by cases h), fun _ => .inl fun v => ?_⟩
          simp only
          rw [if_pos (by omega)]
          simp
      · rw [if_neg (by
          rintro ⟨h1, h2, h3, h4, h5⟩
          rcases m1 with h | h | h
          · exact h1 h
          · rw [h3] at h; cases h
          · omega)]
        refine ⟨fun v h => (by cases h), fun _ => .inl fun v => ?_⟩
        rcases hm : Lib.parseMag l with u | _ | _
        · exact absurd hm (m2 u)
        · simp [Lib.signless]
        · simp [Lib.signless]
end Go.Proofs.YthlppbpccldikaaDoor
set_option linter.unusedVariables false
namespace Go.Proofs.YthlppbpccldikaaDoor
open Go.RowKit

/-- What ParseInt returns. -/
def PintR (x : Bytes) (e : Ending) : Prop :=
  (∃ v, Lib.atoiAll x = .ok v ∧ e = .returned (.tuple #[.int .i64 v, .nilIface])) ∨ ((∀ v, Lib.atoiAll x ≠ .ok v) ∧ ∃ z N, e = .returned (.tuple #[.int .i64 z, .iface 116 (.pointer (some ⟨N, 0, none⟩))]))
theorem pint_any (x : Bytes) (w : World) (hE : NumE w) (hx : x.length ≤ 1000000000) :
    Calls Tryd.prog 50 #[.string (S x), .int .i64 10, .int .i64 64] w fun e w' => PintR x e ∧ Below w.heap.size w w' := by
  have hs : (S x).size = x.length := by simp [S, ByteArray.size]
  have e0 : Lib.parseIntB 64 (S x).data.toList = Lib.atoiAll x := by rw [Lib.parseIntB_64, S_data]
  obtain ⟨⟨t1, p1, h1⟩, ⟨t2, p2, h2⟩⟩ := hE
  cases hm : Lib.atoiAll x with
  | ok v =>
    refine (Tryd.strconv_ParseInt_10_at64_ok (S x) (by omega) v (by rw [e0, hm]) w).mono fun e w' ⟨he, hw⟩ => ⟨.inl ⟨v, hm, he⟩, ?_⟩
    rcases hw with rfl | ⟨t, rfl⟩
    · exact Below.refl _ _
    · exact Lib.bytesWorld_below _ _ _
  | range =>
    refine (Any.strconv_ParseInt_10_at64_range Tryd.laysC174 (S x) (by omega) (by rw [e0, hm]) _ w h2 (.inr ⟨t2, p2, rfl⟩)).mono fun e w' ⟨N, he, _, _, hb⟩ => ⟨.inr ⟨fun v h => (by rw [hm] at h; cases h), _, N, he⟩, hb⟩
  | _ =>
    refine (Any.strconv_ParseInt_10_at64_syntax Tryd.laysC174 (S x) (by omega) (by rw [e0, hm]) _ w h1 (.inr ⟨t1, p1, rfl⟩)).mono fun e w' ⟨N, he, _, _, hb⟩ => ⟨.inr ⟨fun v h => (by rw [hm] at h; cases h), _, N, he⟩, hb⟩
def numCut : Bytes := [48, 49, 50, 51, 52, 53, 54, 55, 56, 57, 43, 45, 46, 101, 69]
set_option maxRecDepth 10000 in
theorem numCut_is (c : UInt8) : numCut.contains c = isNumB c := by
  have h : ∀ k < 256, numCut.contains (UInt8.ofNat k) = isNumB (UInt8.ofNat k) := by decide
  have := h c.toNat c.toNat_lt
  rwa [UInt8.ofNat_toNat] at this
theorem drop_run {p : UInt8 → Bool} : ∀ x : Bytes, x.dropWhile p = x.drop (run p x)
  | [] => rfl
  | a :: x => by
    rw [run]
    cases h : p a
    · simp [List.dropWhile, h]
    · simp only [List.dropWhile, h, if_true]
      rw [drop_run x]
      rfl
theorem trimNum_any (x : Bytes) (w : World) :
    Calls Tryd.prog 48 #[.string (S x), .string ⟨#[48, 49, 50, 51, 52, 53, 54, 55, 56, 57, 43, 45, 46, 101, 69]⟩] w fun e w' => e = .returned (.string (S (x.drop (run isNumB x)))) ∧ Below w.heap.size w w' := by
  have h := Any.strings_TrimLeft_ascii Tryd.lays161 (fun w => by kernel_rfl) (by kernel_rfl) (S x) (S numCut) w (by decide) (by intro j b hj; rw [S_data] at hj; have hm := List.mem_of_getElem? hj; clear hj; revert b; decide)
  rw [S_data, S_data] at h
  refine h.mono fun e w' ⟨h1, h2⟩ => ⟨?_, h2⟩
  rw [h1]
  unfold Lib.trimLeftS
  rw [show (fun c => numCut.contains c) = isNumB from funext numCut_is, drop_run]
  rfl
theorem trimMinus_any (x : Bytes) (w : World) :
    Calls Tryd.prog 49 #[.string (S x), .string ⟨#[45]⟩] w fun e w' => e = .returned (.string (S (magJ x))) ∧ w = w' := by
  have h := Tryd.strings_TrimPrefix (S x) (S [45]) w
  rw [S_data, S_data] at h
  refine h.mono fun e w' ⟨h1, h2⟩ => ⟨?_, h2.symm⟩
  rw [h1]
  cases x with
  | nil => rfl
  | cons c r =>
    by_cases hc : c = 45
    · subst hc; rfl
    · have e1 : magJ (c :: r) = c :: r := by unfold magJ; rw [if_neg (by simpa using hc)]
      rw [e1]
      have : (45 == c) = false := by rw [beq_eq_false_iff_ne]; exact fun e => hc e.symm
      simp [Lib.trimPrefix, Lib.hasPrefix, List.isPrefixOf, this]
      rfl
theorem mag_ne {x D : Bytes} {v : Int} (hD : magJ x = D) (h : Lib.atoiAll x = .ok v) : 0 < D.length := by
  subst hD
  cases x with
  | nil => simp [Lib.atoiAll] at h
  | cons c r =>
    by_cases h45 : c = 45
    · subst h45
      have em : magJ (45 :: r) = r := rfl
      rw [em]
      cases r with
      | nil =>
        rw [Lib.atoiAll_minus] at h
        simp [Lib.parseMag, Lib.signed] at h
      | cons _ _ => simp
    · have em : magJ (c :: r) = c :: r := by unfold magJ; rw [if_neg (by simpa using h45)]
      rw [em]; simp
theorem mag_len (x : Bytes) : (magJ x).length ≤ x.length := by unfold magJ; split <;> simp
/-- What number does. -/
def NumPR (b : Nat) (l : Bytes) (n : Nat) (d : Int) (E : Nat) (w w' : World) (r : Option Int) (e : Ending) : Prop :=
  Upd b w w' ∧ match r with
  | none => e = panJ (n, 15)
  | some v => e = .returned (.int .i64 v) ∧ Psr w' b l E d
set_option maxHeartbeats 4000000 in
set_option maxRecDepth 100000 in
theorem number11_any (b : Nat) (l : Bytes) (n : Nat) (d : Int) (w : World) (hC : Psr w b l n d) (hT : TabB b w) (hn : n < l.length) (hl : l.length ≤ 1000000000) (h43 : l[n] ≠ 43) (hnum : isNumB l[n] = true) :
    Calls Tryd.prog 36 #[.pointer (some ⟨b, 0, none⟩)] w fun e w' =>
      NumPR b l n d (numEnd l n) w w' (numJ ((l.drop n).take (run isNumB (l.drop n)))) e := by
  have hE : n + run isNumB (l.drop n) = numEnd l n := rfl
  have hrl := run_le isNumB (l.drop n)
  have hr1 : 1 ≤ run isNumB (l.drop n) := by rw [run_yes hn hnum]; omega
  have htl := trimNum_any (l.drop n)
  have hx1 : ((l.drop n).take (run isNumB (l.drop n))).head? ≠ some 43 := by
    rw [List.drop_eq_getElem_cons hn]
    obtain ⟨m, hm⟩ : ∃ m, run isNumB (l[n] :: l.drop (n + 1)) = m + 1 := ⟨run isNumB (l[n] :: l.drop (n + 1)) - 1, by rw [← List.drop_eq_getElem_cons hn]; omega⟩
    rw [hm, List.take_succ_cons]
    simpa using h43
  have hna := num_atoi hx1
  have hdl : (l.drop n).length = l.length - n := List.length_drop
  have t0 : (0 : Nat) < (l.drop n).length := by omega
  have ht0 : (l.drop n)[0]'t0 ≠ 43 := by simpa using h43
  have htr : ((l.drop n).drop (run isNumB (l.drop n))).length = (l.drop n).length - run isNumB (l.drop n) := List.length_drop
  have hc0 := hC.c0
  have hc1 := hC.c1
  have hf1 := hC.free 1
  have HC := Lib.hid hC
  have HT := Lib.hid hT
  obtain ⟨T, hTT⟩ : ∃ T, T = l.drop n := ⟨_, rfl⟩
  rw [← hTT] at hrl hr1 htl hx1 hna hdl htr hE ⊢
  have t0' : 0 < T.length := by omega
  have ht0' : T[0] ≠ 43 := by subst hTT; exact ht0
  have g43 : ((T[0].toNat : Int) == 43) = false := by
    rw [beq_eq_false_iff_ne]
    intro e
    exact ht0' (UInt8.toNat_inj.1 (by have h : T[0].toNat = 43 := (by omega); rw [h]; rfl))
  obtain ⟨R, hR⟩ : ∃ R, run isNumB T = R := ⟨_, rfl⟩
  rw [hR] at hrl hr1 htl hx1 hna htr hE ⊢
  obtain ⟨x, hx⟩ : ∃ x, T.take R = x := ⟨_, rfl⟩
  have hxl : x.length = R := by rw [← hx, List.length_take]; omega
  rw [hx] at hx1 hna ⊢
  obtain ⟨U, hU⟩ : ∃ U, T.drop R = U := ⟨_, rfl⟩
  rw [hU] at htl htr
  have hpi := fun W hW => pint_any x W hW (by omega)
  have htm := trimMinus_any x
  have hml := mag_len x
  obtain ⟨D, hD⟩ : ∃ D, magJ x = D := ⟨_, rfl⟩
  rw [hD] at hna htm hml
  have hR2 : (T.length : Int) - (U.length : Int) = (R : Int) := by omega
  have HTL := Lib.hid htl
  have HPI := Lib.hid hpi
  have HTM := Lib.hid htm
  have HNA := Lib.hid hna
  have HD := Lib.hid hD
  have HE := Lib.hid hE
  have HXL := Lib.hid hxl
  have HTT := Lib.hid hTT
  clear t0 ht0 ht0' htl hpi htm hna hE hxl hx1 hC hT hnum h43 hD hR hTT
  rw [← HE.out]
  have hRT : (R : Int) ≤ T.length := by omega
  have hRb : R ≤ 1000000000 := by omega
  have hTb : T.length ≤ 1000000000 := by omega
  clear hdl htr
  go_enter Tryd.func36, Tryd.ntmps36
  go_wp2_with fail
  go_quiet (fail)
  rw [← HTT.out]
  go_upto_region 5 with (first
    | (go_at_call 48; refine (HTL.out _).mono ?_; rintro e1 w2 ⟨rfl, hb2⟩)
    | (go_at_call 49; refine (HTM.out _).mono ?_; rintro e1 w3 ⟨rfl, rfl⟩)
    | (go_at_call 50; refine (HPI.out _ ((HT.out.upd (updDrewN w nq b)).upd (Upd.of_below hb2)).nume).mono ?_; rintro e1 w4 ⟨⟨v, hv, rfl⟩ | ⟨hno, z, N, rfl⟩, hb4⟩))
  · have hP4 := ((HC.out.drewN nq).below hb2).below hb4
    have hU4 : Upd b w w4 := ((updDrewN w nq b).next hb2).next hb4
    have hD0 := mag_ne HD.out hv
    have c0 := hP4.c0
    have c1 := hP4.c1
    have f1 := hP4.free 1
    have HP4 := Lib.hid hP4
    have HU4 := Lib.hid hU4
    have HV := Lib.hid hv
    clear hP4 hU4 hb2 hb4 hv
    have hD0' : (0 : Int) < D.length := by omega
    by_cases h48 : D[0] = 48
    · have g48 : ((D[0].toNat : Int) == 48) = true := by rw [h48]; rfl
      have hdh : D.head? = some 48 := by rw [← h48, List.head?_eq_getElem?, List.getElem?_eq_getElem hD0]
      by_cases h1 : 1 < D.length
      · have h1' : (1 : Int) < D.length := by omega
        have hnn : numJ x = none := by
          cases hj : numJ x with
          | none => rfl
          | some v' => exact absurd ⟨h1, hdh⟩ (HNA.out.1 v' hj).2
        have HNN := Lib.hid hnn
        clear h48 hdh hnn
        go_wp2_with fail
        simp only [bodyPost, true_and]
        rw [HNN.out]
        exact ⟨HU4.out, rfl⟩
      · have h1' : ¬ (1 : Int) < D.length := by omega
        have hnn : numJ x = some v := by
          cases hj : numJ x with
          | none =>
            rcases HNA.out.2 hj with h | h
            · exact absurd HV.out (h v)
            · exact absurd h.1 h1
          | some v' =>
            have := (HNA.out.1 v' hj).1
            rw [HV.out] at this
            cases this
            rfl
        have HNN := Lib.hid hnn
        clear h48 hdh hnn
        go_wp2_with fail
        go_ret
        rw [HNN.out]
        refine ⟨HU4.out.trans (Upd.set_ b 1 w4 (.int .i64 ((n : Int) + R))), rfl, ?_⟩
        rw [Int.natCast_add]
        exact HP4.out.move _
    · have g48 : ((D[0].toNat : Int) == 48) = false := by
        rw [beq_eq_false_iff_ne]
        intro e
        exact h48 (UInt8.toNat_inj.1 (by have h : D[0].toNat = 48 := (by omega); rw [h]; rfl))
      have hnn : numJ x = some v := by
        cases hj : numJ x with
        | none =>
          rcases HNA.out.2 hj with h | h
          · exact absurd HV.out (h v)
          · exfalso
            have h2 := h.2
            rw [List.head?_eq_getElem?, List.getElem?_eq_getElem hD0] at h2
            exact h48 (Option.some.inj h2)
        | some v' =>
          have := (HNA.out.1 v' hj).1
          rw [HV.out] at this
          cases this
          rfl
      have HNN := Lib.hid hnn
      clear h48 hnn
      go_wp2_with fail
      go_ret
      rw [HNN.out]
      refine ⟨HU4.out.trans (Upd.set_ b 1 w4 (.int .i64 ((n : Int) + R))), rfl, ?_⟩
      rw [Int.natCast_add]
      exact HP4.out.move _
  · have hP4 := ((HC.out.drewN nq).below hb2).below hb4
    have hU4 : Upd b w w4 := ((updDrewN w nq b).next hb2).next hb4
    have hnn : numJ x = none := by
      cases hj : numJ x with
      | none => rfl
      | some v' => exact absurd (HNA.out.1 v' hj).1 (hno v')
    have HNN := Lib.hid hnn
    have c0 := hP4.c0
    have c1 := hP4.c1
    have HU4 := Lib.hid hU4
    clear hP4 hU4 hb2 hb4 hnn hno
    go_wp2_with fail
    simp only [bodyPost, true_and]
    rw [HNN.out]
    exact ⟨HU4.out, rfl⟩
end Go.Proofs.YthlppbpccldikaaDoor
set_option linter.unusedVariables false
namespace Go.Proofs.YthlppbpccldikaaDoor
open Go.RowKit

theorem run_run2 (p : UInt8 → Bool) : ∀ x : Bytes, run p (x.drop (run p x)) = 0
  | [] => rfl
  | c :: x => by
    by_cases h : p c = true
    · rw [run, if_pos h, List.drop_succ_cons, run_run2 p x]
    · rw [run, if_neg h, List.drop_zero, run, if_neg h]
theorem spE_idem (l : Bytes) (n : Nat) : spEnd l (spEnd l n) = spEnd l n := by
  have h := run_run2 isSp (l.drop n)
  rw [List.drop_drop] at h
  unfold spEnd
  rw [h, Nat.add_zero]
/-- What elements and what it calls do: a state is carried on. -/
def ElR {σ : Type} (St : σ → World → Prop) (Bad : World → Prop) (b : Nat) (l : Bytes) (d : Int) (w' : World) (r : Except (Nat × Nat) (σ × Nat)) (e : Ending) : Prop :=
  match r with
  | .error q => Bad w' ∧ e = panJ q
  | .ok (s, n) => e = .returned undef ∧ St s w' ∧ Psr w' b l n d
/-- Behind an element: the end, or a comma and what follows. -/
def elK {σ : Type} (l : Bytes) (en : UInt8) (K : σ → Nat → Except (Nat × Nat) (σ × Nat)) (r : Except (Nat × Nat) (σ × Nat)) : Except (Nat × Nat) (σ × Nat) :=
  match r with
  | .error q => .error q
  | .ok (s, e) => if hasAt l (spEnd l e) [en] = true then .ok (s, spEnd l e + 1) else if hasAt l (spEnd l e) [44] = true then K s (spEnd l e + 1) else .error (wrongJ l (spEnd l e))
/-- Elements from their opening byte on. -/
def elG {σ : Type} (l : Bytes) (en : UInt8) (K : σ → Nat → Except (Nat × Nat) (σ × Nat)) (d n : Nat) (s : σ) : Except (Nat × Nat) (σ × Nat) :=
  if 100 < d then .error (n, 9) else if hasAt l (spEnd l (n + 1)) [en] = true then .ok (s, spEnd l (n + 1) + 1) else K s (spEnd l (n + 1))
set_option maxHeartbeats 4000000 in
set_option maxRecDepth 100000 in
theorem elements_any {σ : Type} (F : FuncId) (cap : Array Value) (hcf : ∀ W : World, (callFunc F cap).run Tryd.prog W = .ok (.enter F cap) W) (b : Nat) (l : Bytes) (d0 : Nat) (en : UInt8) (hen : en ≠ 0) (hl : l.length ≤ 1000000000) (hd : d0 ≤ 1000)
    (St : σ → World → Prop) (Bad : World → Prop) (step K : σ → Nat → Except (Nat × Nat) (σ × Nat)) (G : σ → Nat → Prop) (hmono : ∀ s n m, G s n → n ≤ m → G s m)
    (hupd : ∀ s W W', St s W → Upd b W W' → St s W') (hbad : ∀ s W, St s W → Bad W)
    (hstep : d0 + 1 ≤ 100 → ∀ s (n : Nat) W, St s W → Psr W b l n ((d0 : Int) + 1) → G s n → n ≤ l.length → Calls Tryd.prog F cap W fun e w' => ElR St Bad b l ((d0 : Int) + 1) w' (step s n) e)
    (hok : ∀ s n s' e, G s n → n ≤ l.length → step s n = .ok (s', e) → n < e ∧ e ≤ l.length ∧ G s' e)
    (hK : ∀ s n, G s n → n ≤ l.length → K s n = elK l en K (step s n))
    (n : Nat) (s0 : σ) (w : World) (hSt : St s0 w) (hP : Psr w b l n d0) (hn : n < l.length) (hlo : G s0 (n + 1)) :
    Calls Tryd.prog 37 #[.pointer (some ⟨b, 0, none⟩), .int .u8 en.toNat, .func (.func F) #[] cap] w fun e w' => ElR St Bad b l d0 w' (elG l en K (d0 + 1) n s0) e := by
  have c2 := hP.c2
  have f2 := hP.free 2
  have hP1 := hP.deep ((d0 : Int) + 1)
  have hS1 := hupd _ _ _ hSt (Upd.set_ b 2 w (.int .i64 ((d0 : Int) + 1)))
  have HP1 := Lib.hid hP1
  have HS1 := Lib.hid hS1
  have HUPD := Lib.hid hupd
  have HBAD := Lib.hid hbad
  have HSTEP := Lib.hid hstep
  have HOK := Lib.hid hok
  have HK := Lib.hid hK
  have e1 := hP1.c1
  unfold elG
  clear hP hSt hupd hbad hstep hok hK
  by_cases h100 : 100 < d0 + 1
  · rw [if_pos h100]
    have h100' : (100 : Int) < (d0 : Int) + 1 := by omega
    clear hP1 hS1
    go_enter Tryd.func37, Tryd.ntmps37
    go_wp2_with fail
    have HE : Hid (Bad (w.setCell ⟨b, 2, none⟩ (.int .i64 ((d0 : Int) + 1)))) := HBAD.out _ _ HS1.out
    generalize w.setCell ⟨b, 2, none⟩ (.int .i64 ((d0 : Int) + 1)) = W2 at *
    simp [bodyPost, ElR]
    exact HE.out
  · rw [if_neg h100]
    have h100' : ¬ (100 : Int) < (d0 : Int) + 1 := by omega
    have g1 := hP1.free 1
    have hP2 := hP1.move ((n : Int) + 1)
    have hS2 := HUPD.out _ _ _ hS1 (Upd.set_ b 1 _ (.int .i64 ((n : Int) + 1)))
    have hpk := fun (m : Nat) (hm : m ≤ l.length) (W : World) (hW : Psr W b l m ((d0 : Int) + 1)) => peek_any b l m _ W hW hm hl
    have hzn := spEnd_le (l := l) (n := n + 1) (by omega)
    have hzg := spEnd_ge l (n + 1)
    have hpb := peekB_at (l := l) (n := n + 1) hen
    have hpk0 := fun W hW => hpk (n + 1) (by omega) W hW
    obtain ⟨z, hz⟩ : ∃ z, spEnd l (n + 1) = z := ⟨_, rfl⟩
    rw [hz] at hzn hzg hpb hpk0 ⊢
    obtain ⟨k, hk⟩ : ∃ k, peekB l (n + 1) = k := ⟨_, rfl⟩
    rw [hk] at hpb hpk0
    have hken := u8_lt en
    have HPK := Lib.hid hpk
    have HPK0 := Lib.hid hpk0
    have HP2 := Lib.hid hP2
    have HS2 := Lib.hid hS2
    clear hpk hpk0 hP1 hS1 hP2 hS2 hz hk
    cases hh : hasAt l z [en] with
    | true =>
      have hke : ((k : Int) == (en.toNat : Int)) = true := by rw [hpb.1 hh, beq_iff_eq]
      rw [if_pos rfl]
      clear hpb hh
      go_enter Tryd.func37, Tryd.ntmps37
      go_upto_region 4 with fail
      generalize (w.setCell ⟨b, 2, none⟩ (.int .i64 ((d0 : Int) + 1))).setCell ⟨b, 1, none⟩ (.int .i64 ((n : Int) + 1)) = W2 at *
      go_wp2_with (go_at_call 33; refine (HPK0.out _ (by rw [Int.natCast_add]; exact HP2.out)).mono ?_; rintro e w1 ⟨rfl, hp3, hu3⟩; have k1 := hp3.c1; have k2 := hp3.c2; have f3 := hp3.free 1; have f4 := hp3.free 2)
      (try simp only [Exit.inBlock, Exit.then])
      refine bodyPost_ret (results_none rfl _ _ _) rfl ?_
      refine ⟨rfl, HUPD.out _ _ _ (HUPD.out _ _ _ (HUPD.out _ _ _ HS2.out hu3) (Upd.set_ b 1 _ _)) (Upd.set_ b 2 _ _), ?_⟩
      rw [Int.natCast_add]
      exact (hp3.move ((z : Int) + 1)).deep d0
    | false =>
      have hke : ((k : Int) == (en.toNat : Int)) = false := by
        rw [beq_eq_false_iff_ne]
        intro e
        rw [hpb.2 (by omega)] at hh
        cases hh
      rw [if_neg (by decide)]
      clear hpb hh
      obtain ⟨R, hR⟩ : ∃ R, K s0 z = R := ⟨_, rfl⟩
      rw [hR]
      have HR := Lib.hid hR
      clear hR
      go_enter Tryd.func37, Tryd.ntmps37
      go_upto_region 4 with fail
      generalize (w.setCell ⟨b, 2, none⟩ (.int .i64 ((d0 : Int) + 1))).setCell ⟨b, 1, none⟩ (.int .i64 ((n : Int) + 1)) = W2 at *
      go_wp2_with (go_at_call 33; refine (HPK0.out _ (by rw [Int.natCast_add]; exact HP2.out)).mono ?_; rintro e w1 ⟨rfl, hp3, hu3⟩)
      go_loopg [] (l.length - z) (fun k wr => ∃ (s : σ) (m : Nat), G s m ∧ m ≤ l.length ∧ k = l.length - m ∧ St s wr ∧ Psr wr b l m ((d0 : Int) + 1) ∧ K s m = R)
      case atStart => exact ⟨s0, z, hmono _ _ _ hlo hzg, hzn, rfl, HUPD.out _ _ _ HS2.out hu3, hp3, HR.out⟩
      case round =>
        clear hp3 hu3
        obtain ⟨s, m, hlm, hml, hkk, hst, hp, hkr⟩ := hrel
        have hKm := HK.out s m hlm hml
        rw [hkr] at hKm
        have hcl := HSTEP.out (by omega) s m _ hst hp hlm hml
        have hok := HOK.out s m
        cases hss : step s m with
        | error q =>
          rw [hss] at hKm hcl
          have HC := Lib.hid hcl
          have hRe : R = .error q := hKm
          clear hKm hcl hok hss hst hp
          go_wp2_with (refine HC.out.mono ?_; rintro e w4 ⟨hb4, rfl⟩)
          subst hRe
          simp [bodyPost, ElR]
          exact hb4
        | ok p =>
          obtain ⟨s', e'⟩ := p
          rw [hss] at hKm hcl
          obtain ⟨hme, hel, hge⟩ := hok s' e' hlm hml hss
          have hpk := HPK.out e' hel
          have hyn := spEnd_le (l := l) (n := e') hel
          have hyg := spEnd_ge l e'
          have hpb := peekB_at (l := l) (n := e') hen
          have hpc := peekB_at (l := l) (n := e') (c := 44) (by decide)
          have hxp := fun W hW => expect_any b l (spEnd l e') ((d0 : Int) + 1) 44 (by decide) W hW hyn hl
          unfold expJ at hxp
          rw [spE_idem] at hxp
          have hKe : elK l en K (.ok (s', e')) = if hasAt l (spEnd l e') [en] = true then .ok (s', spEnd l e' + 1) else if hasAt l (spEnd l e') [44] = true then K s' (spEnd l e' + 1) else .error (wrongJ l (spEnd l e')) := rfl
          rw [hKe] at hKm
          obtain ⟨y, hy⟩ : ∃ y, spEnd l e' = y := ⟨_, rfl⟩
          rw [hy] at hyn hyg hpb hpc hxp hKm hpk
          obtain ⟨kk, hkk2⟩ : ∃ k, peekB l e' = k := ⟨_, rfl⟩
          rw [hkk2] at hpb hpc hpk
          have HC := Lib.hid hcl
          have HPE := Lib.hid hpk
          clear hcl hok hss hst hp hpk hKe hy hkk2
          cases hA : hasAt l y [en] with
          | true =>
            have hke2 : ((kk : Int) == (en.toNat : Int)) = true := by rw [hpb.1 hA, beq_iff_eq]
            rw [hA, if_pos rfl] at hKm
            have HKM := Lib.hid hKm
            clear hpb hpc hxp hKm hA hke
            go_wp2_with (first
              | (go_at_call 33; refine (HPE.out _ hp4).mono ?_; rintro e w5 ⟨rfl, hp5, hu5⟩; have k1 := hp5.c1; have k2 := hp5.c2; have f3 := hp5.free 1; have f4 := hp5.free 2)
              | (refine HC.out.mono ?_; rintro e w4 ⟨rfl, hs4, hp4⟩))
            go_end0
            rw [HKM.out]
            refine ⟨rfl, HUPD.out _ _ _ (HUPD.out _ _ _ (HUPD.out _ _ _ hs4 hu5) (Upd.set_ b 1 _ _)) (Upd.set_ b 2 _ _), ?_⟩
            rw [Int.natCast_add]
            exact (hp5.move ((y : Int) + 1)).deep d0
          | false =>
            have hke2 : ((kk : Int) == (en.toNat : Int)) = false := by
              rw [beq_eq_false_iff_ne]
              intro e
              rw [hpb.2 (by omega)] at hA
              cases hA
            rw [hA, if_neg (by decide)] at hKm
            cases hB : hasAt l y [44] with
            | true =>
              rw [hB, if_pos rfl] at hKm hxp
              have hyl := hasAt_in hB
              have HKM := Lib.hid hKm
              have HXP := Lib.hid hxp
              clear hpb hpc hxp hKm hA hB hke
              go_wp2_with (first
                | (go_at_call 33; refine (HPE.out _ hp4).mono ?_; rintro e w5 ⟨rfl, hp5, hu5⟩)
                | (go_at_call 51; refine (HXP.out _ hp5).mono ?_; rintro e w6 ⟨hu6, rfl, hp6⟩)
                | (refine HC.out.mono ?_; rintro e w4 ⟨rfl, hs4, hp4⟩))
              go_roundg (l.length - (y + 1))
              case measure => omega
              case rel => exact ⟨s', y + 1, hmono _ _ _ hge (by omega), by omega, rfl, HUPD.out _ _ _ (HUPD.out _ _ _ hs4 hu5) hu6, hp6, HKM.out.symm⟩
            | false =>
              rw [hB, if_neg (by decide)] at hKm hxp
              have HXP := Lib.hid hxp
              clear hpb hpc hxp hA hB hke
              go_wp2_with (first
                | (go_at_call 33; refine (HPE.out _ hp4).mono ?_; rintro e w5 ⟨rfl, hp5, hu5⟩)
                | (go_at_call 51; refine (HXP.out _ hp5).mono ?_; rintro e w6 ⟨hu6, rfl⟩)
                | (refine HC.out.mono ?_; rintro e w4 ⟨rfl, hs4, hp4⟩))
              have HB := Lib.hid (HBAD.out _ _ (HUPD.out _ _ _ (HUPD.out _ _ _ hs4 hu5) hu6))
              subst hKm
              simp [bodyPost, ElR]
              exact HB.out
end Go.Proofs.YthlppbpccldikaaDoor
set_option linter.unusedVariables false
namespace Go.Proofs.YthlppbpccldikaaDoor
open Go.RowKit

set_option maxHeartbeats 1000000 in
theorem memEq_any (k0 : Bytes) (c1 c2 c3 c4 c5 c6 c7 c8 : Value) (g : Nat) (k : Bytes) (w : World) (hg : w.cell? ⟨g, 0, none⟩ = some (.string (S k))) :
    Calls Tryd.prog 53 #[.agg #[.string (S k0), c1, c2, c3, c4, c5, c6, c7, c8], .pointer (some ⟨g, 0, none⟩)] w fun e w' => e = .returned (.bool (k0 == k)) ∧ Below w.heap.size w w' := by
  have hlt := lt_of_cellJ hg
  have hg2 : (w.alloc (.cells #[.string (S k0), c1, c2, c3, c4, c5, c6, c7, c8] 45)).cell? ⟨g, 0, none⟩ = some (.string (S k)) := (((Below.refl _ w).alloc (Nat.le_refl _) (.cells #[.string (S k0), c1, c2, c3, c4, c5, c6, c7, c8] 45)).cell (p := ⟨g, 0, none⟩) hlt).trans hg
  go_enter Tryd.func53, Tryd.ntmps53
  go_wp2
  go_ret
  exact ⟨rfl, (Below.refl _ _).alloc (Nat.le_refl _) _⟩
set_option maxHeartbeats 4000000 in
theorem contains11_any (ms : List JM) (u : Value) (g : Nat) (k : Bytes) (p : Nat → Prop) (w : World) (hg : w.cell? ⟨g, 0, none⟩ = some (.string (S k))) (h : ElsP memE w p u ms) (hp : ∀ j, p j → j < w.heap.size) (hl : ms.length ≤ 1000000000) :
    Calls Tryd.prog 52 #[u, .func (.func 53) #[] #[.pointer (some ⟨g, 0, none⟩)]] w fun e w' => e = .returned (.bool (ms.any fun m => m.key == k)) ∧ Below w.heap.size w w' := by
  have hix : Calls Tryd.prog 66 #[u, .func (.func 53) #[] #[.pointer (some ⟨g, 0, none⟩)]] w fun e w' => (∃ r : Int, e = .returned (.int .i64 r) ∧ ((0 : Int) ≤ r ↔ (ms.any fun m => m.key == k) = true)) ∧ Below w.heap.size w w' := by
    obtain ⟨A0, c0, rfl, _⟩ := h.slice
    have hlt := lt_of_cellJ hg
    have HG := Lib.hid hg
    have HH := Lib.hid h
    have HP := Lib.hid hp
    clear h hp hg
    go_enter Tryd.func66, Tryd.ntmps66
    go_wp2_with fail
    go_loopw [8] (fun i8 wr => ∃ i : Nat, i ≤ ms.length ∧ i8 = .int .i64 i ∧ (∀ j (hj : j < ms.length), j < i → (ms[j].key == k) = false) ∧ Below w.heap.size w wr) (fun i8 _ => ms.length - (intOf i8).toNat)
    case atStart => exact ⟨0, Nat.zero_le _, rfl, fun j _ hj => by omega, Below.refl _ _⟩
    case round =>
      obtain ⟨i, hi, rfl, hno, hb⟩ := hrel
      have HB := Lib.hid hb
      have HNO := Lib.hid hno
      clear hb hno
      by_cases hlt2 : i < ms.length
      · have hlt2' : (i : Int) < ms.length := by omega
        obtain ⟨b', off, cs, rfl, hbl, hr, hcs⟩ := HH.out.at_ hlt2
        have hr2 := rangeAt_keep hr (HB.out.block b' (HP.out _ hbl))
        have hcl := hcs.len
        obtain ⟨_, _, _, _, hc'⟩ := hcs.cells
        have hgr : wr.cell? ⟨g, 0, none⟩ = some (.string (S k)) := (HB.out.cell (p := ⟨g, 0, none⟩) hlt).trans HG.out
        have HGR := Lib.hid hgr
        have HR2 := Lib.hid hr2
        subst hc'
        clear hgr hr2 hr hcs
        cases hq : (ms[i].key == k) with
        | true =>
          have hany : (ms.any fun m => m.key == k) = true := List.any_eq_true.mpr ⟨ms[i], List.getElem_mem hlt2, hq⟩
          have HA := Lib.hid hany
          have HQ := Lib.hid hq
          clear hany hq
          go_wp2_with (first
            | (go_at_call 53; refine (memEq_any _ _ _ _ _ _ _ _ _ g k _ HGR.out).mono ?_; rintro e w2 ⟨rfl, hb2⟩; rw [HQ.out])
            | (with_reducible refine gate ?_; refine wp_load_mem rfl _ rfl b' (off + i * 9) rfl _ rfl HR2.out ?_))
          (try simp only [Exit.inBlock, Exit.then])
          go_ret
          exact ⟨⟨_, rfl, by rw [HA.out]; simp⟩, HB.out.trans (hb2.mono HB.out.size)⟩
        | false =>
          have hnx : ∀ j (hj : j < ms.length), j < i + 1 → (ms[j].key == k) = false := fun j hj hji => by
            by_cases ej : j = i
            · subst ej; exact hq
            · exact HNO.out j hj (by omega)
          have HNX := Lib.hid hnx
          have HQ := Lib.hid hq
          clear hnx hq
          go_wp2_with (first
            | (go_at_call 53; refine (memEq_any _ _ _ _ _ _ _ _ _ g k _ HGR.out).mono ?_; rintro e w2 ⟨rfl, hb2⟩; rw [HQ.out])
            | (with_reducible refine gate ?_; refine wp_load_mem rfl _ rfl b' (off + i * 9) rfl _ rfl HR2.out ?_))
          go_roundw
          case rel => exact ⟨i + 1, by omega, by go_num, HNX.out, HB.out.trans (hb2.mono HB.out.size)⟩
          case measure => simp [intOf]; omega
      · obtain rfl : i = ms.length := by omega
        go_wp2_with fail
        go_ret
        refine ⟨⟨_, rfl, ?_⟩, HB.out⟩
        have hany : (ms.any fun m => m.key == k) = false := by
          rw [List.any_eq_false]
          intro m hm
          obtain ⟨j, hj, rfl⟩ := List.mem_iff_getElem.mp hm
          rw [HNO.out j hj hj]; decide
        rw [hany]
        simp
  have HIX := Lib.hid hix
  clear hix
  cases hb : (ms.any fun m => m.key == k) with
  | true =>
    go_enter Tryd.func52, Tryd.ntmps52
    go_wp2_with (go_at_call 66; refine HIX.out.mono ?_; rintro e w2 ⟨⟨r, rfl, hr⟩, hb2⟩; have hr2 := hr.2 hb)
    go_ret
    exact ⟨ret_bool (by simp), hb2⟩
  | false =>
    go_enter Tryd.func52, Tryd.ntmps52
    go_wp2_with (go_at_call 66; refine HIX.out.mono ?_; rintro e w2 ⟨⟨r, rfl, hr⟩, hb2⟩; have hr2 : ¬ (0 : Int) ≤ r := fun h => (by rw [hr.1 h] at hb; cases hb))
    go_ret
    exact ⟨ret_bool (by simp), hb2⟩
end Go.Proofs.YthlppbpccldikaaDoor
set_option linter.unusedVariables false
namespace Go.Proofs.YthlppbpccldikaaDoor
open Go.RowKit

theorem run_store_midJ {w : World} {g off : Nat} {ty T : TypeId} {cur : Array Value} {cs : List Value} (hh : w.heap[g]? = some (.cells cur T (0, 0))) (hi : (Tryd.prog.info? ty).map (·.size) = some cs.length) (hle : off + cs.length ≤ cur.size) (h1 : ∀ u ∈ cs, u.oneCell' = true) :
    (storeVar ty ⟨g, off, none⟩ (.agg cs.toArray)).run Tryd.prog w = .ok () (w.setRow g (cur.toList.take off ++ cs ++ cur.toList.drop (off + cs.length)).toArray) := by
  have hst := run_storeCells_at Tryd.prog g off T cs 0 cur w hh (by omega) h1
  cases hq : Tryd.prog.info? ty with
  | none => simp [hq] at hi
  | some i =>
    have hs' : cs.length = i.size := by simp [hq] at hi; omega
    simp [storeVar, sizeOf, typeInfo, hq, Value.cells, hs']
    rw [hs'] at hst
    simpa using hst
theorem wp_store_midJ {ops : Array Oper} {rest : List Oper} {o : Oper} {a : Act} {w : World} {Q : Exit → Act → World → Prop} (hgd : o.guard = none) (ty : TypeId) (x y : Operand) (ho : o.op = .store ty x y)
    (g off : Nat) (T : TypeId) (cur : Array Value) (cs : List Value) (hx : a.eval x = .pointer (some ⟨g, off, none⟩)) (hy : a.eval y = .agg cs.toArray) (hg : w.heap[g]? = some (.cells cur T (0, 0))) (hi : (Tryd.prog.info? ty).map (·.size) = some cs.length) (hle : off + cs.length ≤ cur.size) (h1 : ∀ u ∈ cs, u.oneCell' = true)
    (h : ∀ w', w'.heap[g]? = some (.cells (cur.toList.take off ++ cs ++ cur.toList.drop (off + cs.length)).toArray T (0, 0)) → Upd g w w' → wpList Tryd.prog ops Q rest (a.put o.dst undef) w') : wpList Tryd.prog ops Q (o :: rest) a w := by
  refine wpList_plain hgd fun K hK => ?_
  unfold Oper.wp execOp
  simp only [ho, hx, hy, Instr.storeAt, Instr.sureAddr, Sem.run_bind, Sem.run_pure, Result.andThen_ok, run_store_midJ hg hi hle h1]
  exact hK _ _ (h _ (setRow_heap w g cur _ T (0, 0) hg) (upd_setRow w g _))
end Go.Proofs.YthlppbpccldikaaDoor
