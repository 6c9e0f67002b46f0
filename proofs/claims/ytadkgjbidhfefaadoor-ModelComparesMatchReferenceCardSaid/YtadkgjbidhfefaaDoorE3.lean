/-
  Several texts in one file, in build order:
  - Walks of chapter 13's statements: is a feed too large to be tested?
  - Chapter 13's statements: the examples of the chapter.
  - Walks of chapter 13: equality of paths, of lists of entries, of feeds (program and reference) and of archives.
  - Walks of chapter 13: equality of feeds (program and reference) and of archives.
  - Walks of chapter 13: equality of archives.
  - Walks of chapter 13: FeedKey, of the program and of the reference.
  - Walks of chapter 13: FeedKey (the program).
  - Walks of chapter 13's statements: the comparisons and Equal.
-/
import Derived.Test.YtadkgjbidhfefaaDoorE2
import Derived.Test.YtadkgjbidhfefaaDoorJcon
import Derived.Test.YtadkgjbidhfefaaDoorZRchA13
import Derived.Test.YtadkgjbidhfefaaDoorZChkF13
import Derived.Test.YtadkgjbidhfefaaDoorZEqE13
import Derived.Test.YtadkgjbidhfefaaDoorZOrdf13
import Derived.Test.YtadkgjbidhfefaaDoorE4
import Derived.Deep.DeepCutAuto
set_option linter.unusedVariables false
namespace Go.Proofs.YtadkgjbidhfefaaDoor
open Go.RowKit

set_option maxHeartbeats 2000000 in
set_option maxRecDepth 100000 in
theorem large13_any (f : Fe) (u : Value) (w : World) (hu : FeeV w (· < w.heap.size) f u) (hf : FLen f) :
    Calls Tryd.prog 34 #[u] w fun x w' => x = .returned (.bool (wtF 0 [f])) ∧ Below w.heap.size w w' := by
  obtain ⟨cs, rfl, hp⟩ := hu
  obtain ⟨PA, pc, EA, ec, rfl, hpp, hee, h3, h4⟩ := id hp
  have hA0 : Below w.heap.size w (w.alloc (feeBox f PA pc EA ec)) := (Below.refl _ _).alloc (Nat.le_refl _) _
  have hp1 : FeeP (w.alloc (feeBox f PA pc EA ec)) (· < w.heap.size) f _ := hp.keep hA0.block (fun _ h => h)
  have hrow := els_one feeE_ok (w := w.alloc (feeBox f PA pc EA ec)) (p := (· < w.heap.size)) (x := f) hp1 (fun k hk => by have h1 : k < w.heap.size := hk; simp; omega) (· < ((w.alloc (feeBox f PA pc EA ec)).alloc (feeBox f PA pc EA ec)).heap.size) (fun k hk => by have h1 : k < w.heap.size := hk; simp; omega) (by simp)
  have hz : (w.alloc (feeBox f PA pc EA ec)).heap.size = w.heap.size + 1 := by simp
  rw [hz] at hrow
  have htl := tooLarge13_any [f] _ ((w.alloc (feeBox f PA pc EA ec)).alloc (feeBox f PA pc EA ec)) hrow (by simp) (fun x hx => by rw [List.mem_singleton.1 hx]; exact hf)
  have k := cells6 (heap_alloc_new w (feeBox f PA pc EA ec))
  obtain ⟨k0, k1, k2, k3, k4, k5⟩ := k
  have HA0 := Lib.hid hA0
  cases hq : wtF 0 [f] with
  | true =>
    rw [hq] at htl
    simp only [if_true] at htl
    have HTL := Lib.hid htl
    clear htl hq hrow hp hp1 hpp hee hz hA0
    go_enter Tryd.func34, Tryd.ntmps34
    go_wp2_with (go_at_call 26; refine HTL.out.mono ?_; rintro x w1 ⟨rfl, hb1⟩)
    go_ret
    exact ⟨rfl, (HA0.out.alloc (by simp) _).trans (hb1.mono (by simp; omega))⟩
  | false =>
    rw [hq] at htl
    simp only [Bool.false_eq_true, if_false] at htl
    have HTL := Lib.hid htl
    clear htl hq hrow hp hp1 hpp hee hz hA0
    go_enter Tryd.func34, Tryd.ntmps34
    go_wp2_with (go_at_call 26; refine HTL.out.mono ?_; rintro x w1 ⟨rfl, hb1⟩)
    go_ret
    exact ⟨rfl, (HA0.out.alloc (by simp) _).trans (hb1.mono (by simp; omega))⟩
end Go.Proofs.YtadkgjbidhfefaaDoor
set_option linter.unusedVariables false
namespace Go.Proofs.YtadkgjbidhfefaaDoor
open Go.RowKit

theorem h2a (W : World) (A B : Obj) (n : Nat) (hn : W.heap.size = n) : ((W.alloc A).alloc B).heap[n]? = some A := by
  subst hn; exact (Below.heap_alloc _ _ _ (by simp)).trans (heap_alloc_new W A)
theorem h2b (W : World) (A B : Obj) (n : Nat) (hn : W.heap.size + 1 = n) : ((W.alloc A).alloc B).heap[n]? = some B := by
  subst hn; have := heap_alloc_new (W.alloc A) B; simpa using this
theorem els_one13 {W : World} {b : Nat} {s0 : Bytes} (hb : W.heap[b]? = some (.cells #[.string (S s0)] 9)) : ElsP strE W (· < W.heap.size) (.slice (some ⟨b, 0, none⟩) 1 1) [s0] :=
  ⟨_, 1, rfl, Nat.le_refl _, .inr ⟨b, 0, rfl, heap_lt hb, fun i a hi => ⟨_, rfl, fun j v hj => by
    match j, hj with
    | 0, hj =>
      simp at hj; subst hj
      rw [Lib.cell_of_heap hb]
      match i, hi with
      | 0, hi => simp at hi; subst hi; rfl
      | i + 1, hi => simp at hi
    | j + 1, hj => simp at hj⟩⟩⟩
theorem els_two13 {W : World} {b : Nat} {s0 s1 : Bytes} (hb : W.heap[b]? = some (.cells #[.string (S s0), .string (S s1)] 9)) : ElsP strE W (· < W.heap.size) (.slice (some ⟨b, 0, none⟩) 2 2) [s0, s1] :=
  ⟨_, 2, rfl, Nat.le_refl _, .inr ⟨b, 0, rfl, heap_lt hb, fun i a hi => ⟨_, rfl, fun j v hj => by
    match j, hj with
    | 0, hj =>
      simp at hj; subst hj
      rw [Lib.cell_of_heap hb]
      match i, hi with
      | 0, hi => simp at hi; subst hi; rfl
      | 1, hi => simp at hi; subst hi; rfl
      | i + 2, hi => simp at hi
    | j + 1, hj => simp at hj⟩⟩⟩
def xE : En := ⟨[120], [], [], [], 7⟩
def aE : En := ⟨[97], [], [], [], 0⟩
def bE : En := ⟨[98], [], [], [], 0⟩
def zE : En := ⟨[], [], [], [], 0⟩
def fF : Fe := ⟨[], [102], [], [], 0, []⟩
theorem dec_one_dig (n : Nat) (h : n < 10) : Lib.itoa (n : Int) = [UInt8.ofNat (48 + n)] := by
  unfold Lib.itoa
  rw [if_neg (by omega)]
  exact Lib.decDigits_one h
theorem xE_key : keyOf (entVal xE) = [91, 34, 120, 34, 44, 34, 34, 44, 34, 34, 44, 34, 34, 44, 55, 93] := by
  rw [key_ent, show Lib.itoa xE.upd = [55] from dec_one_dig 7 (by decide)]
  decide +kernel
theorem later_ab : lat3 cmpK aE bE = bE := by
  have ha : kE aE = [91, 34, 97, 34, 44, 34, 34, 44, 34, 34, 44, 34, 34, 44, 48, 93] := by
    unfold kE
    rw [key_ent, show Lib.itoa aE.upd = [48] from dec_one_dig 0 (by decide)]
    decide +kernel
  have hb : kE bE = [91, 34, 98, 34, 44, 34, 34, 44, 34, 34, 44, 34, 34, 44, 48, 93] := by
    unfold kE
    rw [key_ent, show Lib.itoa bE.upd = [48] from dec_one_dig 0 (by decide)]
    decide +kernel
  unfold lat3 cmpK lex3
  simp only [ha, hb]
  rw [show cmpI aE.upd bE.upd = 0 from rfl]
  rfl
theorem fF_ok : ordFs [fF] = true := by decide +kernel
theorem zE_no : vldE zE = false := rfl

set_option maxHeartbeats 4000000 in
set_option maxRecDepth 100000 in
theorem alive13_any (w : World) (hT : TabJ w) : Calls Tryd.prog 27 #[] w fun e w' => e = .returned (.bool true) ∧ Below w.heap.size w w' := by
  have h1 : ∀ (W : World) (a b : Nat), W.heap[a]? = some (.cells #[.string ⟨#[97]⟩, .string ⟨#[98]⟩] 9) → W.heap[b]? = some (.cells #[.string ⟨#[97]⟩, .string ⟨#[98]⟩, .string ⟨#[99]⟩] 9) →
      Calls Tryd.prog 36 #[.slice (some ⟨a, 0, none⟩) 2 2, .slice (some ⟨b, 0, none⟩) 3 3] W fun e w' => e = .returned (.int .i64 (-1)) ∧ w' = W := fun W a b ha hb =>
    cmpPaths_any [[97], [98]] [[97], [98], [99]] _ _ W _ (els_two13 ha) (els_three hb) (by decide) (by decide)
  have h2 : ∀ (W : World) (a b : Nat), W.heap[a]? = some (.cells #[.string ⟨#[97]⟩, .string ⟨#[98]⟩, .string ⟨#[99]⟩] 9) → W.heap[b]? = some (.cells #[.string ⟨#[98]⟩] 9) →
      Calls Tryd.prog 36 #[.slice (some ⟨a, 0, none⟩) 3 3, .slice (some ⟨b, 0, none⟩) 1 1] W fun e w' => e = .returned (.int .i64 (-1)) ∧ w' = W := fun W a b ha hb =>
    cmpPaths_any [[97], [98], [99]] [[98]] _ _ W _ (els_three ha) (els_one13 hb) (by decide) (by decide)
  have h3 : ∀ W : World, Calls Tryd.prog 37 #[.agg #[.string ⟨#[]⟩, .string ⟨#[]⟩, .string ⟨#[]⟩, .string ⟨#[]⟩, .int .i64 5], .agg #[.string ⟨#[]⟩, .string ⟨#[]⟩, .string ⟨#[]⟩, .string ⟨#[]⟩, .int .i64 4]] W fun e w' => e = .returned (.int .i64 (-1)) ∧ Below W.heap.size W w' := fun W =>
    cmpEntries_any ⟨[], [], [], [], 5⟩ ⟨[], [], [], [], 4⟩ W
  have h4 : ∀ W : World, Below w.heap.size w W → Calls Tryd.prog 41 #[.agg #[.string ⟨#[120]⟩, .string ⟨#[]⟩, .string ⟨#[]⟩, .string ⟨#[]⟩, .int .i64 7]] W fun e w' => e = .returned (.string ⟨#[91, 34, 120, 34, 44, 34, 34, 44, 34, 34, 44, 34, 34, 44, 55, 93]⟩) ∧ Below W.heap.size W w' := fun W hW => by
    have := entryKey_any xE W (hT.next hW) (by constructor <;> decide) (by decide)
    rw [xE_key] at this
    exact this
  have h5 : ∀ (W : World) (b : Nat), Below w.heap.size w W → W.heap[b]? = some (.cells #[.slice none 0 0, .string ⟨#[102]⟩, .string ⟨#[]⟩, .string ⟨#[]⟩, .int .i64 0, .slice none 0 0] 55) →
      Calls Tryd.prog 32 #[.agg #[.slice (some ⟨b, 0, none⟩) 1 1]] W fun e w' => e = .returned (.int .i64 0) ∧ Below W.heap.size W w' := fun W b hW hb => by
    have := checkA_any [fF] (.slice (some ⟨b, 0, none⟩) 1 1) W (hT.next hW) ⟨_, 1, rfl, Nat.le_refl _, .inr ⟨b, 0, rfl, heap_lt hb, fun i a hi => by
      match i, hi with
      | 0, hi =>
        simp at hi; subst hi
        exact ⟨_, ⟨none, 0, none, 0, rfl, ElsP.nil _ _ _, ElsP.nil _ _ _, Nat.le_refl _, Nat.le_refl _⟩, (show W.rangeAt b (0 + 0 * 6) _ from range_of_heap hb)⟩
      | i + 1, hi => simp at hi⟩⟩ (by decide) (fun f hf => by
        rw [List.mem_singleton.1 hf]
        exact ⟨by decide, by decide, by decide, (fun e he => by cases he), by decide⟩)
    rw [fF_ok] at this
    exact this
  have h6 : ∀ W : World, Below w.heap.size w W → Calls Tryd.prog 30 #[.agg #[.string ⟨#[]⟩, .string ⟨#[]⟩, .string ⟨#[]⟩, .string ⟨#[]⟩, .int .i64 0]] W fun e w' => e = .returned (.int .i64 22) ∧ Below W.heap.size W w' := fun W hW =>
    checkEntry_any zE W (hT.next hW) (by decide)
  have h7 : ∀ W : World, Below w.heap.size w W → Calls Tryd.prog 38 #[.agg #[.string ⟨#[97]⟩, .string ⟨#[]⟩, .string ⟨#[]⟩, .string ⟨#[]⟩, .int .i64 0], .agg #[.string ⟨#[98]⟩, .string ⟨#[]⟩, .string ⟨#[]⟩, .string ⟨#[]⟩, .int .i64 0]] W fun e w' => e = .returned (.agg #[.string ⟨#[98]⟩, .string ⟨#[]⟩, .string ⟨#[]⟩, .string ⟨#[]⟩, .int .i64 0]) ∧ Below W.heap.size W w' := fun W hW => by
    have := laterEntry_any aE bE W (hT.next hW) (by constructor <;> decide) (by constructor <;> decide) (by decide) (by decide)
    rw [later_ab] at this
    exact this
  have hfld : ∀ W : World, (Instr.field 59 (.agg #[.string ⟨#[98]⟩, .string ⟨#[]⟩, .string ⟨#[]⟩, .string ⟨#[]⟩, .int .i64 0]) 0).run Tryd.prog W = .ok (.string ⟨#[98]⟩) W := fun W => by kernel_rfl
  have H1 := Lib.hid h1
  have H2 := Lib.hid h2
  have H3 := Lib.hid h3
  have H4 := Lib.hid h4
  have H5 := Lib.hid h5
  have H6 := Lib.hid h6
  have H7 := Lib.hid h7
  clear h1 h2 h3 h4 h5 h6 h7 hT
  go_enter Tryd.func27, Tryd.ntmps27
  go_wp2_with fail
  refine (H1.out _ _ _ ?_ ?_).mono ?_
  · exact h2a _ _ _ _ (by simp)
  · exact h2b _ _ _ _ (by simp)
  rintro e w1 ⟨rfl, rfl⟩
  go_wp2_with fail
  refine (H2.out _ _ _ ?_ ?_).mono ?_
  · exact h2a _ _ _ _ (by simp)
  · exact h2b _ _ _ _ (by simp)
  rintro e w2 ⟨rfl, rfl⟩
  have B2 : ∀ A B C D : Obj, Below w.heap.size w ((((w.alloc A).alloc B).alloc C).alloc D) := fun A B C D => ((((Below.refl _ _).alloc (Nat.le_refl _) A).alloc (by simp) B).alloc (by simp; omega) C).alloc (by simp; omega) D
  have HB2 := Lib.hid B2
  clear B2
  go_wp2_with fail
  refine (H3.out _).mono ?_
  rintro e w3 ⟨rfl, hb3⟩
  have B3 := Lib.hid ((HB2.out _ _ _ _).trans (hb3.mono (by simp; omega)))
  clear hb3
  go_wp2_with fail
  refine (H4.out _ B3.out).mono ?_
  rintro e w4 ⟨rfl, hb4⟩
  have B4 := Lib.hid (B3.out.trans (hb4.mono B3.out.size))
  clear hb4
  go_wp2_with fail
  refine (H5.out _ _ (B4.out.alloc B4.out.size _) (heap_alloc_new w4 _)).mono ?_
  rintro e w5 ⟨rfl, hb5⟩
  have B5 := Lib.hid ((B4.out.alloc B4.out.size _).trans (hb5.mono (by have := B4.out.size; simp; omega)))
  clear hb5
  go_wp2_with fail
  refine (H6.out _ B5.out).mono ?_
  rintro e w6 ⟨rfl, hb6⟩
  have B6 := Lib.hid (B5.out.trans (hb6.mono B5.out.size))
  clear hb6
  go_wp2_with fail
  refine (H7.out _ B6.out).mono ?_
  rintro e w7 ⟨rfl, hb7⟩
  go_wp2_with fail
  go_ret
  exact ⟨rfl, B6.out.trans (hb7.mono B6.out.size)⟩
end Go.Proofs.YtadkgjbidhfefaaDoor
set_option linter.unusedVariables false
namespace Go.Proofs.YtadkgjbidhfefaaDoor
open Go.RowKit

def eqEs : List En → List En → Bool
  | [], [] => true
  | a :: l, b :: r => enEq a b && eqEs l r
  | _, _ => false
theorem eqEs_iff : ∀ {l r : List En}, eqEs l r = true ↔ l = r
  | [], [] => by simp [eqEs]
  | [], b :: r => by simp [eqEs]
  | a :: l, [] => by simp [eqEs]
  | a :: l, b :: r => by rw [eqEs, Bool.and_eq_true, enEq_iff, eqEs_iff, List.cons.injEq]
theorem eqEs_len {l r : List En} (h : l.length ≠ r.length) : eqEs l r = false := by
  cases hq : eqEs l r with
  | false => rfl
  | true => exact absurd (congrArg List.length (eqEs_iff.1 hq)) h
theorem eqEs_step {l r : List En} {i : Nat} (h1 : i < l.length) (h2 : i < r.length) : eqEs (l.drop i) (r.drop i) = (enEq l[i] r[i] && eqEs (l.drop (i + 1)) (r.drop (i + 1))) := by
  rw [List.drop_eq_getElem_cons h1, List.drop_eq_getElem_cons h2]; rfl
theorem eqPs_step {l r : List Bytes} {i : Nat} (h1 : i < l.length) (h2 : i < r.length) : (l.drop i == r.drop i) = (l[i] == r[i] && (l.drop (i + 1) == r.drop (i + 1))) := by
  rw [List.drop_eq_getElem_cons h1, List.drop_eq_getElem_cons h2]; rfl
theorem eqPs_len {l r : List Bytes} (h : l.length ≠ r.length) : (l == r) = false := by
  rw [beq_eq_false_iff_ne]; exact fun e => h (congrArg List.length e)
/-- Equal feeds. -/
def sameF (f g : Fe) : Bool := (f.path == g.path) && ((f.id == g.id) && ((f.title == g.title) && ((f.link == g.link) && ((f.upd == g.upd) && eqEs f.ents g.ents))))

set_option maxHeartbeats 2000000 in
set_option maxRecDepth 100000 in
theorem eqStrs_any (l r : List Bytes) (u v : Value) (w : World) (hl : ElsP strE w (· < w.heap.size) u l) (hr : ElsP strE w (· < w.heap.size) v r) (hll : l.length ≤ 1000000000000) (hrl : r.length ≤ 1000000000000) :
    Calls Tryd.prog 99 #[u, v] w fun e w' => e = .returned (.bool (l == r)) ∧ Below w.heap.size w w' := by
  obtain ⟨A, c, rfl, _⟩ := hl.slice
  obtain ⟨B, d, rfl, _⟩ := hr.slice
  by_cases hn : l.length = r.length
  · obtain ⟨T, hT⟩ : ∃ T, (l == r) = T := ⟨_, rfl⟩
    rw [hT]
    have HT := Lib.hid hT
    have HL := Lib.hid hl
    have HR := Lib.hid hr
    have HN := Lib.hid hn
    have hnn : ((l.length : Int) != r.length) = false := by rw [bne, beq_iff_eq.2 (by omega)]; rfl
    clear hT hl hr hn
    go_enter Tryd.func99, Tryd.ntmps99
    go_wp2_with fail
    clear hnn
    go_loopw [13] (fun i13 wr => ∃ i : Nat, i ≤ l.length ∧ i13 = .int .i64 i ∧ (l.drop i == r.drop i) = T ∧ Below w.heap.size w wr) (fun i13 _ => l.length - (intOf i13).toNat)
    case atStart => exact ⟨0, Nat.zero_le _, rfl, HT.out, Below.refl _ _⟩
    case round =>
      obtain ⟨i, hi, rfl, hres, hb⟩ := hrel
      clear HT
      have HB := Lib.hid hb
      have hsz := hb.size
      clear hb
      by_cases hlt : i < l.length
      · have hlt' : (i : Int) < l.length := by omega
        have hlr : i < r.length := by have := HN.out; omega
        have hlr2 : (i : Int) < r.length := by omega
        obtain ⟨b, off, rfl, hpb, hc1⟩ := strs_cell (HL.out.keep strE_ok HB.out.block (fun _ h => h)) hlt
        obtain ⟨b2, off2, rfl, hpb2, hc2⟩ := strs_cell (HR.out.keep strE_ok HB.out.block (fun _ h => h)) hlr
        rw [eqPs_step hlt hlr] at hres
        generalize l[i] = x at *
        generalize r[i] = y at *
        cases hq : (x == y) with
        | true =>
          have t : (x != y) = false := by rw [bne, hq]; rfl
          rw [hq, Bool.true_and] at hres
          have HRES := Lib.hid hres
          clear hres
          go_wp2_with fail
          go_quiet (fail)
          go_wp2_with fail
          go_roundw
          case rel => exact ⟨i + 1, by omega, by go_num, HRES.out, HB.out.trans ((below_drewN13 _ _).mono hsz)⟩
          case measure => simp [intOf]; omega
        | false =>
          have t : (x != y) = true := by rw [bne, hq]; rfl
          rw [hq, Bool.false_and] at hres
          subst hres
          go_wp2_with fail
          go_quiet (fail)
          go_wp2_with fail
          go_ret
          exact ⟨rfl, HB.out.trans ((below_drewN13 _ _).mono hsz)⟩
      · obtain rfl : i = l.length := by omega
        have e : T = true := by
          have h1 := HN.out
          rw [← hres, List.drop_length, List.drop_of_length_le (by omega)]; rfl
        subst e
        clear hres
        go_wp2_with fail
        go_ret
        exact ⟨rfl, HB.out⟩
  · have t : ((l.length : Int) != r.length) = true := by rw [bne_iff_ne]; omega
    rw [eqPs_len hn]
    clear hn hl hr
    go_enter Tryd.func99, Tryd.ntmps99
    go_wp2_with fail
    go_ret
    exact ⟨rfl, Below.refl _ _⟩

set_option maxHeartbeats 2000000 in
set_option maxRecDepth 100000 in
theorem eqEnts_any (l r : List En) (u v : Value) (w : World) (hl : ElsP entE w (· < w.heap.size) u l) (hr : ElsP entE w (· < w.heap.size) v r) (hll : l.length ≤ 1000000000000) (hrl : r.length ≤ 1000000000000) :
    Calls Tryd.prog 100 #[u, v] w fun e w' => e = .returned (.bool (eqEs l r)) ∧ Below w.heap.size w w' := by
  obtain ⟨A, c, rfl, _⟩ := hl.slice
  obtain ⟨B, d, rfl, _⟩ := hr.slice
  by_cases hn : l.length = r.length
  · obtain ⟨T, hT⟩ : ∃ T, eqEs l r = T := ⟨_, rfl⟩
    rw [hT]
    have HT := Lib.hid hT
    have HL := Lib.hid hl
    have HR := Lib.hid hr
    have HN := Lib.hid hn
    have hnn : ((l.length : Int) != r.length) = false := by rw [bne, beq_iff_eq.2 (by omega)]; rfl
    clear hT hl hr hn
    go_enter Tryd.func100, Tryd.ntmps100
    go_wp2_with fail
    clear hnn
    go_loopw [13] (fun i13 wr => ∃ i : Nat, i ≤ l.length ∧ i13 = .int .i64 i ∧ eqEs (l.drop i) (r.drop i) = T ∧ Below w.heap.size w wr) (fun i13 _ => l.length - (intOf i13).toNat)
    case atStart => exact ⟨0, Nat.zero_le _, rfl, HT.out, Below.refl _ _⟩
    case round =>
      obtain ⟨i, hi, rfl, hres, hb⟩ := hrel
      clear HT
      have HB := Lib.hid hb
      have hsz := hb.size
      clear hb
      by_cases hlt : i < l.length
      · have hlt' : (i : Int) < l.length := by omega
        have hlr : i < r.length := by have := HN.out; omega
        have hlr2 : (i : Int) < r.length := by omega
        obtain ⟨b, off, rfl, hpb, hc1⟩ := ents_at (HL.out.keep entE_ok HB.out.block (fun _ h => h)) hlt
        obtain ⟨b2, off2, rfl, hpb2, hc2⟩ := ents_at (HR.out.keep entE_ok HB.out.block (fun _ h => h)) hlr
        rw [eqEs_step hlt hlr] at hres
        generalize l[i] = x at *
        generalize r[i] = y at *
        have hne := fun W => run_ne_ent x y W
        have k0 := hc1 0 _ rfl
        have k1 := hc1 1 _ rfl
        have k2 := hc1 2 _ rfl
        have k3 := hc1 3 _ rfl
        have k4 := hc1 4 _ rfl
        have j0 := hc2 0 _ rfl
        have j1 := hc2 1 _ rfl
        have j2 := hc2 2 _ rfl
        have j3 := hc2 3 _ rfl
        have j4 := hc2 4 _ rfl
        simp only [Nat.add_zero] at k0 j0
        cases hq : enEq x y with
        | true =>
          rw [hq] at hne
          rw [hq, Bool.true_and] at hres
          have HRES := Lib.hid hres
          clear hres
          go_wp2_with fail
          go_quiet (fail)
          go_wp2_with fail
          go_roundw
          case rel => exact ⟨i + 1, by omega, by go_num, HRES.out, HB.out.trans ((below_drewN13 _ _).mono hsz)⟩
          case measure => simp [intOf]; omega
        | false =>
          rw [hq] at hne
          rw [hq, Bool.false_and] at hres
          subst hres
          go_wp2_with fail
          go_quiet (fail)
          go_wp2_with fail
          go_ret
          exact ⟨rfl, HB.out.trans ((below_drewN13 _ _).mono hsz)⟩
      · obtain rfl : i = l.length := by omega
        have e : T = true := by
          have h1 := HN.out
          rw [← hres, List.drop_length, List.drop_of_length_le (by omega)]; rfl
        subst e
        clear hres
        go_wp2_with fail
        go_ret
        exact ⟨rfl, HB.out⟩
  · have t : ((l.length : Int) != r.length) = true := by rw [bne_iff_ne]; omega
    rw [eqEs_len hn]
    clear hn hl hr
    go_enter Tryd.func100, Tryd.ntmps100
    go_wp2_with fail
    go_ret
    exact ⟨rfl, Below.refl _ _⟩
end Go.Proofs.YtadkgjbidhfefaaDoor
set_option linter.unusedVariables false
set_option linter.unusedSimpArgs false
namespace Go.Proofs.YtadkgjbidhfefaaDoor
open Go.RowKit

set_option maxHeartbeats 8000000 in
set_option maxRecDepth 100000 in
theorem sameFeed_any (f g : Fe) (u v : Value) (w : World) (hu : FeeV w (· < w.heap.size) f u) (hv : FeeV w (· < w.heap.size) g v) (hf : f.path.length ≤ 1000000000000 ∧ f.ents.length ≤ 1000000000000) (hg : g.path.length ≤ 1000000000000 ∧ g.ents.length ≤ 1000000000000) :
    Calls Tryd.prog 81 #[u, v] w fun x w' => x = .returned (.bool (sameF f g)) ∧ Below w.heap.size w w' := by
  obtain ⟨PA, pc, EA, ec, rfl, hp, he, hpc, hec⟩ := hu.open_
  obtain ⟨PB, pd, EB, ed, rfl, hq, hd, hpd, hed⟩ := hv.open_
  have HA : Hid (Below w.heap.size w ((w.alloc (feeBox f PA pc EA ec)).alloc (feeBox g PB pd EB ed))) := ((Below.refl _ _).alloc (Nat.le_refl _) _).alloc (by simp) _
  have hx : ∀ W, Below ((w.alloc (feeBox f PA pc EA ec)).alloc (feeBox g PB pd EB ed)).heap.size ((w.alloc (feeBox f PA pc EA ec)).alloc (feeBox g PB pd EB ed)) W → (W.cell? ⟨w.heap.size, 0, none⟩ = some (.slice PA f.path.length pc) ∧ W.cell? ⟨w.heap.size, 1, none⟩ = some (.string (S f.id)) ∧ W.cell? ⟨w.heap.size, 2, none⟩ = some (.string (S f.title)) ∧ W.cell? ⟨w.heap.size, 3, none⟩ = some (.string (S f.link)) ∧ W.cell? ⟨w.heap.size, 4, none⟩ = some (.int .i64 f.upd) ∧ W.cell? ⟨w.heap.size, 5, none⟩ = some (.slice EA f.ents.length ec)) ∧ (W.cell? ⟨w.heap.size + 1, 0, none⟩ = some (.slice PB g.path.length pd) ∧ W.cell? ⟨w.heap.size + 1, 1, none⟩ = some (.string (S g.id)) ∧ W.cell? ⟨w.heap.size + 1, 2, none⟩ = some (.string (S g.title)) ∧ W.cell? ⟨w.heap.size + 1, 3, none⟩ = some (.string (S g.link)) ∧ W.cell? ⟨w.heap.size + 1, 4, none⟩ = some (.int .i64 g.upd) ∧ W.cell? ⟨w.heap.size + 1, 5, none⟩ = some (.slice EB g.ents.length ed)) := fun W hW => by
    have e1 := (hW.block w.heap.size (by simp; omega)).trans ((Below.heap_alloc _ _ _ (by simp)).trans (heap_alloc_new w (feeBox f PA pc EA ec)))
    have e2 : W.heap[w.heap.size + 1]? = some (feeBox g PB pd EB ed) := (hW.block (w.heap.size + 1) (by simp)).trans (by have := heap_alloc_new (w.alloc (feeBox f PA pc EA ec)) (feeBox g PB pd EB ed); simpa using this)
    exact ⟨cells6 e1, cells6 e2⟩
  have KEEP := Lib.hid hx
  have h1 := fun W => fun (hW : Below w.heap.size w W) => eqStrs_any f.path g.path _ _ W (hp.keep strE_ok hW.block (fun k hk => Nat.lt_of_lt_of_le hk hW.size)) (hq.keep strE_ok hW.block (fun k hk => Nat.lt_of_lt_of_le hk hW.size)) hf.1 hg.1
  have h2 := fun W => fun (hW : Below w.heap.size w W) => eqEnts_any f.ents g.ents _ _ W (he.keep entE_ok hW.block (fun k hk => Nat.lt_of_lt_of_le hk hW.size)) (hd.keep entE_ok hW.block (fun k hk => Nat.lt_of_lt_of_le hk hW.size)) hf.2 hg.2
  unfold sameF
  have e1 : (f.id == g.id) = (f.id == g.id) := rfl
  generalize (f.path == g.path) = q0 at *
  generalize hq1 : (f.id == g.id) = q1 at *
  generalize hq2 : (f.title == g.title) = q2 at *
  generalize hq3 : (f.link == g.link) = q3 at *
  generalize hq4 : (f.upd == g.upd) = q4 at *
  generalize eqEs f.ents g.ents = q5 at *
  have HP := Lib.hid h1
  have HE := Lib.hid h2
  clear h1 h2 hx hu hv hp he hq hd hf hg e1
  obtain ⟨⟨a0, a1, a2, a3, a4, a5⟩, b0, b1, b2, b3, b4, b5⟩ := KEEP.out _ (Below.refl _ _)
  cases q0 with
  | false =>
    rw [Bool.false_and]
    go_enter Tryd.func81, Tryd.ntmps81
    go_wp2_with (first
      | (go_at_call 99; (with_reducible refine (HP.out _ HA.out).mono ?_); rintro x w1 ⟨rfl, hb1⟩; have R1 := Lib.hid (HA.out.trans (hb1.mono HA.out.size)); obtain ⟨⟨a0, a1, a2, a3, a4, a5⟩, b0, b1, b2, b3, b4, b5⟩ := KEEP.out _ hb1; clear hb1)
      | (go_at_call 100; (with_reducible refine (HE.out _ R1.out).mono ?_); rintro x w2 ⟨rfl, hb2⟩; have R2 := Lib.hid (R1.out.trans (hb2.mono R1.out.size)); clear hb2))
    go_ret
    exact ⟨rfl, R1.out⟩
  | true =>
    rw [Bool.true_and]
    cases q1 with
    | false =>
      rw [Bool.false_and]
      go_enter Tryd.func81, Tryd.ntmps81
      go_wp2_with (first
        | (go_at_call 99; (with_reducible refine (HP.out _ HA.out).mono ?_); rintro x w1 ⟨rfl, hb1⟩; have R1 := Lib.hid (HA.out.trans (hb1.mono HA.out.size)); obtain ⟨⟨a0, a1, a2, a3, a4, a5⟩, b0, b1, b2, b3, b4, b5⟩ := KEEP.out _ hb1; clear hb1)
        | (go_at_call 100; (with_reducible refine (HE.out _ R1.out).mono ?_); rintro x w2 ⟨rfl, hb2⟩; have R2 := Lib.hid (R1.out.trans (hb2.mono R1.out.size)); clear hb2))
      go_ret
      exact ⟨rfl, R1.out⟩
    | true =>
      rw [Bool.true_and]
      cases q2 with
      | false =>
        rw [Bool.false_and]
        go_enter Tryd.func81, Tryd.ntmps81
        go_wp2_with (first
          | (go_at_call 99; (with_reducible refine (HP.out _ HA.out).mono ?_); rintro x w1 ⟨rfl, hb1⟩; have R1 := Lib.hid (HA.out.trans (hb1.mono HA.out.size)); obtain ⟨⟨a0, a1, a2, a3, a4, a5⟩, b0, b1, b2, b3, b4, b5⟩ := KEEP.out _ hb1; clear hb1)
          | (go_at_call 100; (with_reducible refine (HE.out _ R1.out).mono ?_); rintro x w2 ⟨rfl, hb2⟩; have R2 := Lib.hid (R1.out.trans (hb2.mono R1.out.size)); clear hb2))
        go_ret
        exact ⟨rfl, R1.out⟩
      | true =>
        rw [Bool.true_and]
        cases q3 with
        | false =>
          rw [Bool.false_and]
          go_enter Tryd.func81, Tryd.ntmps81
          go_wp2_with (first
            | (go_at_call 99; (with_reducible refine (HP.out _ HA.out).mono ?_); rintro x w1 ⟨rfl, hb1⟩; have R1 := Lib.hid (HA.out.trans (hb1.mono HA.out.size)); obtain ⟨⟨a0, a1, a2, a3, a4, a5⟩, b0, b1, b2, b3, b4, b5⟩ := KEEP.out _ hb1; clear hb1)
            | (go_at_call 100; (with_reducible refine (HE.out _ R1.out).mono ?_); rintro x w2 ⟨rfl, hb2⟩; have R2 := Lib.hid (R1.out.trans (hb2.mono R1.out.size)); clear hb2))
          go_ret
          exact ⟨rfl, R1.out⟩
        | true =>
          rw [Bool.true_and]
          cases q4 with
          | false =>
            rw [Bool.false_and]
            go_enter Tryd.func81, Tryd.ntmps81
            go_wp2_with (first
              | (go_at_call 99; (with_reducible refine (HP.out _ HA.out).mono ?_); rintro x w1 ⟨rfl, hb1⟩; have R1 := Lib.hid (HA.out.trans (hb1.mono HA.out.size)); obtain ⟨⟨a0, a1, a2, a3, a4, a5⟩, b0, b1, b2, b3, b4, b5⟩ := KEEP.out _ hb1; clear hb1)
              | (go_at_call 100; (with_reducible refine (HE.out _ R1.out).mono ?_); rintro x w2 ⟨rfl, hb2⟩; have R2 := Lib.hid (R1.out.trans (hb2.mono R1.out.size)); clear hb2))
            go_ret
            exact ⟨rfl, R1.out⟩
          | true =>
            rw [Bool.true_and]
            go_enter Tryd.func81, Tryd.ntmps81
            go_wp2_with (first
              | (go_at_call 99; (with_reducible refine (HP.out _ HA.out).mono ?_); rintro x w1 ⟨rfl, hb1⟩; have R1 := Lib.hid (HA.out.trans (hb1.mono HA.out.size)); obtain ⟨⟨a0, a1, a2, a3, a4, a5⟩, b0, b1, b2, b3, b4, b5⟩ := KEEP.out _ hb1; clear hb1)
              | (go_at_call 100; (with_reducible refine (HE.out _ R1.out).mono ?_); rintro x w2 ⟨rfl, hb2⟩; have R2 := Lib.hid (R1.out.trans (hb2.mono R1.out.size)); clear hb2))
            go_ret
            exact ⟨rfl, R2.out⟩

set_option maxHeartbeats 16000000 in
set_option maxRecDepth 100000 in
theorem refSameFeed_any (f g : Fe) (u v : Value) (w : World) (hu : FeeV w (· < w.heap.size) f u) (hv : FeeV w (· < w.heap.size) g v) (hf : f.path.length ≤ 1000000000000 ∧ f.ents.length ≤ 1000000000000) (hg : g.path.length ≤ 1000000000000 ∧ g.ents.length ≤ 1000000000000) :
    Calls Tryd.prog 49 #[u, v] w fun x w' => x = .returned (.bool (sameF f g)) ∧ Below w.heap.size w w' := by
  obtain ⟨PA, pc, EA, ec, rfl, hp, he, hpc, hec⟩ := hu.open_
  obtain ⟨PB, pd, EB, ed, rfl, hq, hd, hpd, hed⟩ := hv.open_
  have HA : Hid (Below w.heap.size w ((w.alloc (feeBox f PA pc EA ec)).alloc (feeBox g PB pd EB ed))) := ((Below.refl _ _).alloc (Nat.le_refl _) _).alloc (by simp) _
  have hx : ∀ W, Below ((w.alloc (feeBox f PA pc EA ec)).alloc (feeBox g PB pd EB ed)).heap.size ((w.alloc (feeBox f PA pc EA ec)).alloc (feeBox g PB pd EB ed)) W → (W.cell? ⟨w.heap.size, 0, none⟩ = some (.slice PA f.path.length pc) ∧ W.cell? ⟨w.heap.size, 1, none⟩ = some (.string (S f.id)) ∧ W.cell? ⟨w.heap.size, 2, none⟩ = some (.string (S f.title)) ∧ W.cell? ⟨w.heap.size, 3, none⟩ = some (.string (S f.link)) ∧ W.cell? ⟨w.heap.size, 4, none⟩ = some (.int .i64 f.upd) ∧ W.cell? ⟨w.heap.size, 5, none⟩ = some (.slice EA f.ents.length ec)) ∧ (W.cell? ⟨w.heap.size + 1, 0, none⟩ = some (.slice PB g.path.length pd) ∧ W.cell? ⟨w.heap.size + 1, 1, none⟩ = some (.string (S g.id)) ∧ W.cell? ⟨w.heap.size + 1, 2, none⟩ = some (.string (S g.title)) ∧ W.cell? ⟨w.heap.size + 1, 3, none⟩ = some (.string (S g.link)) ∧ W.cell? ⟨w.heap.size + 1, 4, none⟩ = some (.int .i64 g.upd) ∧ W.cell? ⟨w.heap.size + 1, 5, none⟩ = some (.slice EB g.ents.length ed)) := fun W hW => by
    have e1 := (hW.block w.heap.size (by simp; omega)).trans ((Below.heap_alloc _ _ _ (by simp)).trans (heap_alloc_new w (feeBox f PA pc EA ec)))
    have e2 : W.heap[w.heap.size + 1]? = some (feeBox g PB pd EB ed) := (hW.block (w.heap.size + 1) (by simp)).trans (by have := heap_alloc_new (w.alloc (feeBox f PA pc EA ec)) (feeBox g PB pd EB ed); simpa using this)
    exact ⟨cells6 e1, cells6 e2⟩
  have KEEP := Lib.hid hx
  have h1 := fun W => fun (hW : Below w.heap.size w W) => refCmpPaths_any f.path g.path _ _ W (hp.keep strE_ok hW.block (fun k hk => Nat.lt_of_lt_of_le hk hW.size)) (hq.keep strE_ok hW.block (fun k hk => Nat.lt_of_lt_of_le hk hW.size)) hf.1 hg.1
  have t0 : (cmpP f.path g.path != 0) = !(f.path == g.path) := by
    have : (cmpP f.path g.path == 0) = (f.path == g.path) := by
      rw [Bool.eq_iff_iff, beq_iff_eq, beq_iff_eq]
      exact cmpP_zero
    rw [bne, this]
  unfold sameF
  obtain ⟨q0, hq0⟩ : ∃ q, (f.path == g.path) = q := ⟨_, rfl⟩
  rw [hq0] at t0
  rw [hq0]
  obtain ⟨q1, hq1⟩ : ∃ q, (f.id == g.id) = q := ⟨_, rfl⟩
  have t1 : (f.id != g.id) = !q1 := by rw [bne, hq1]
  obtain ⟨q2, hq2⟩ : ∃ q, (f.title == g.title) = q := ⟨_, rfl⟩
  have t2 : (f.title != g.title) = !q2 := by rw [bne, hq2]
  obtain ⟨q3, hq3⟩ : ∃ q, (f.link == g.link) = q := ⟨_, rfl⟩
  have t3 : (f.link != g.link) = !q3 := by rw [bne, hq3]
  obtain ⟨q4, hq4⟩ : ∃ q, (f.upd == g.upd) = q := ⟨_, rfl⟩
  have t4 : (f.upd != g.upd) = !q4 := by rw [bne, hq4]
  rw [hq1, hq2, hq3, hq4]
  have t0' : (cmpP f.path g.path == 0) = q0 := by rw [bne] at t0; cases q0 <;> simpa using t0
  clear hq0
  generalize cmpP f.path g.path = cp at *
  have HP := Lib.hid h1
  have HF := Lib.hid he
  have HG := Lib.hid hd
  have HD := Lib.hid hg
  have hfe := hf.2
  clear h1 hx hu hv hp he hq hd hf hg
  obtain ⟨⟨a0, a1, a2, a3, a4, a5⟩, b0, b1, b2, b3, b4, b5⟩ := KEEP.out _ (Below.refl _ _)
  cases q0 with
  | false =>
    rw [Bool.false_and]
    rw [Bool.not_false] at t0
    clear HD HG HF
    go_enter Tryd.func49, Tryd.ntmps49
    go_wp2_with (go_at_call 46; (with_reducible refine (HP.out _ HA.out).mono ?_); rintro x w1 ⟨rfl, hb1⟩; have R1 := Lib.hid (HA.out.trans (hb1.mono HA.out.size)); have RB := Lib.hid hb1; obtain ⟨⟨a0, a1, a2, a3, a4, a5⟩, b0, b1, b2, b3, b4, b5⟩ := KEEP.out _ hb1; clear hb1)
    go_ret
    exact ⟨rfl, R1.out⟩
  | true =>
    rw [Bool.true_and]
    rw [Bool.not_true] at t0
    cases q1 with
    | false =>
      rw [Bool.false_and]
      rw [Bool.not_false] at t1
      clear HD HG HF
      go_enter Tryd.func49, Tryd.ntmps49
      go_wp2_with (go_at_call 46; (with_reducible refine (HP.out _ HA.out).mono ?_); rintro x w1 ⟨rfl, hb1⟩; have R1 := Lib.hid (HA.out.trans (hb1.mono HA.out.size)); have RB := Lib.hid hb1; obtain ⟨⟨a0, a1, a2, a3, a4, a5⟩, b0, b1, b2, b3, b4, b5⟩ := KEEP.out _ hb1; clear hb1)
      go_ret
      exact ⟨rfl, R1.out⟩
    | true =>
      rw [Bool.true_and]
      rw [Bool.not_true] at t1
      cases q2 with
      | false =>
        rw [Bool.false_and]
        rw [Bool.not_false] at t2
        clear HD HG HF
        go_enter Tryd.func49, Tryd.ntmps49
        go_wp2_with (go_at_call 46; (with_reducible refine (HP.out _ HA.out).mono ?_); rintro x w1 ⟨rfl, hb1⟩; have R1 := Lib.hid (HA.out.trans (hb1.mono HA.out.size)); have RB := Lib.hid hb1; obtain ⟨⟨a0, a1, a2, a3, a4, a5⟩, b0, b1, b2, b3, b4, b5⟩ := KEEP.out _ hb1; clear hb1)
        go_ret
        exact ⟨rfl, R1.out⟩
      | true =>
        rw [Bool.true_and]
        rw [Bool.not_true] at t2
        cases q3 with
        | false =>
          rw [Bool.false_and]
          rw [Bool.not_false] at t3
          clear HD HG HF
          go_enter Tryd.func49, Tryd.ntmps49
          go_wp2_with (go_at_call 46; (with_reducible refine (HP.out _ HA.out).mono ?_); rintro x w1 ⟨rfl, hb1⟩; have R1 := Lib.hid (HA.out.trans (hb1.mono HA.out.size)); have RB := Lib.hid hb1; obtain ⟨⟨a0, a1, a2, a3, a4, a5⟩, b0, b1, b2, b3, b4, b5⟩ := KEEP.out _ hb1; clear hb1)
          go_ret
          exact ⟨rfl, R1.out⟩
        | true =>
          rw [Bool.true_and]
          rw [Bool.not_true] at t3
          cases q4 with
          | false =>
            rw [Bool.false_and]
            rw [Bool.not_false] at t4
            clear HD HG HF
            go_enter Tryd.func49, Tryd.ntmps49
            go_wp2_with (go_at_call 46; (with_reducible refine (HP.out _ HA.out).mono ?_); rintro x w1 ⟨rfl, hb1⟩; have R1 := Lib.hid (HA.out.trans (hb1.mono HA.out.size)); have RB := Lib.hid hb1; obtain ⟨⟨a0, a1, a2, a3, a4, a5⟩, b0, b1, b2, b3, b4, b5⟩ := KEEP.out _ hb1; clear hb1)
            go_ret
            exact ⟨rfl, R1.out⟩
          | true =>
            rw [Bool.true_and]
            rw [Bool.not_true] at t4
            by_cases hn : f.ents.length = g.ents.length
            · have tn : ((f.ents.length : Int) != g.ents.length) = false := by rw [bne, beq_iff_eq.2 (by omega)]; rfl
              have HN := Lib.hid hn
              obtain ⟨T, hT⟩ : ∃ T, eqEs f.ents g.ents = T := ⟨_, rfl⟩
              rw [hT]
              have HT := Lib.hid hT
              clear hT hn
              go_enter Tryd.func49, Tryd.ntmps49
              go_wp2_with (go_at_call 46; (with_reducible refine (HP.out _ HA.out).mono ?_); rintro x w1 ⟨rfl, hb1⟩; have R1 := Lib.hid (HA.out.trans (hb1.mono HA.out.size)); have RB := Lib.hid hb1; obtain ⟨⟨a0, a1, a2, a3, a4, a5⟩, b0, b1, b2, b3, b4, b5⟩ := KEEP.out _ hb1; clear hb1)
              clear a0 a1 a2 a3 a4 a5 b0 b1 b2 b3 b4 b5 t0 t1 t2 t3 t4 tn hq1 hq2 hq3 hq4
              go_loopw [5] (fun i5 wr => ∃ i : Nat, i ≤ f.ents.length ∧ i5 = .int .i64 i ∧ eqEs (f.ents.drop i) (g.ents.drop i) = T ∧ Below w1.heap.size w1 wr) (fun i5 _ => f.ents.length - (intOf i5).toNat)
              case atStart => exact ⟨0, Nat.zero_le _, rfl, HT.out, Below.refl _ _⟩
              case round =>
                obtain ⟨i, hi, rfl, hres, hb⟩ := hrel
                clear HT
                have HB := Lib.hid hb
                have hsz := hb.size
                have HW := Lib.hid (R1.out.trans (hb.mono R1.out.size))
                obtain ⟨⟨a0, a1, a2, a3, a4, a5⟩, b0, b1, b2, b3, b4, b5⟩ := KEEP.out _ (RB.out.trans (hb.mono RB.out.size))
                clear hb
                by_cases hlt : i < f.ents.length
                · have hlt' : (i : Int) < f.ents.length := by omega
                  have hlr : i < g.ents.length := by have := HN.out; omega
                  have hlr2 : (i : Int) < g.ents.length := by omega
                  obtain ⟨b, off, rfl, hpb, hc1⟩ := ents_at (HF.out.keep entE_ok HW.out.block (fun _ h => h)) hlt
                  obtain ⟨b', off', rfl, hpb', hc2⟩ := ents_at (HG.out.keep entE_ok HW.out.block (fun _ h => h)) hlr
                  rw [eqEs_step hlt hlr] at hres
                  generalize f.ents[i] = x at *
                  generalize g.ents[i] = y at *
                  have hne := fun W => run_ne_ent x y W
                  have k0 := hc1 0 _ rfl
                  have k1 := hc1 1 _ rfl
                  have k2 := hc1 2 _ rfl
                  have k3 := hc1 3 _ rfl
                  have k4 := hc1 4 _ rfl
                  have j0 := hc2 0 _ rfl
                  have j1 := hc2 1 _ rfl
                  have j2 := hc2 2 _ rfl
                  have j3 := hc2 3 _ rfl
                  have j4 := hc2 4 _ rfl
                  simp only [Nat.add_zero] at k0 j0
                  cases hq : enEq x y with
                  | true =>
                    rw [hq] at hne
                    rw [hq, Bool.true_and] at hres
                    have HRES := Lib.hid hres
                    clear hres
                    go_wp2_with fail
                    go_quiet (fail)
                    go_wp2_with fail
                    go_roundw
                    case rel => exact ⟨i + 1, by omega, by go_num, HRES.out, HB.out.trans ((below_drewN13 _ _).mono hsz)⟩
                    case measure => simp [intOf]; omega
                  | false =>
                    rw [hq] at hne
                    rw [hq, Bool.false_and] at hres
                    subst hres
                    go_wp2_with fail
                    go_quiet (fail)
                    go_wp2_with fail
                    go_ret
                    exact ⟨rfl, HW.out.trans ((below_drewN13 _ _).mono HW.out.size)⟩
                · obtain rfl : i = f.ents.length := by omega
                  have e : T = true := by
                    have h1 := HN.out
                    rw [← hres, List.drop_length, List.drop_of_length_le (by omega)]; rfl
                  subst e
                  clear hres
                  go_wp2_with fail
                  go_ret
                  exact ⟨rfl, HW.out⟩
            · have tn : ((f.ents.length : Int) != g.ents.length) = true := by rw [bne_iff_ne]; omega
              rw [eqEs_len hn]
              clear hn HG HF
              go_enter Tryd.func49, Tryd.ntmps49
              go_wp2_with (go_at_call 46; (with_reducible refine (HP.out _ HA.out).mono ?_); rintro x w1 ⟨rfl, hb1⟩; have R1 := Lib.hid (HA.out.trans (hb1.mono HA.out.size)); have RB := Lib.hid hb1; obtain ⟨⟨a0, a1, a2, a3, a4, a5⟩, b0, b1, b2, b3, b4, b5⟩ := KEEP.out _ hb1; clear hb1)
              go_ret
              exact ⟨rfl, R1.out⟩
end Go.Proofs.YtadkgjbidhfefaaDoor
set_option linter.unusedVariables false
set_option linter.unusedSimpArgs false
namespace Go.Proofs.YtadkgjbidhfefaaDoor
open Go.RowKit

def eqFs : List Fe → List Fe → Bool
  | [], [] => true
  | a :: l, b :: r => sameF a b && eqFs l r
  | _, _ => false
theorem eqFs_len : ∀ {l r : List Fe}, l.length ≠ r.length → eqFs l r = false
  | [], [], h => absurd rfl h
  | [], _ :: _, _ => rfl
  | _ :: _, [], _ => rfl
  | a :: l, b :: r, h => by rw [eqFs, eqFs_len (fun e => h (by simp [e])), Bool.and_false]
theorem eqFs_step {l r : List Fe} {i : Nat} (h1 : i < l.length) (h2 : i < r.length) : eqFs (l.drop i) (r.drop i) = (sameF l[i] r[i] && eqFs (l.drop (i + 1)) (r.drop (i + 1))) := by
  rw [List.drop_eq_getElem_cons h1, List.drop_eq_getElem_cons h2]; rfl
def FMany (l : List Fe) : Prop := ∀ f ∈ l, f.path.length ≤ 1000000000000 ∧ f.ents.length ≤ 1000000000000

set_option maxHeartbeats 8000000 in
set_option maxRecDepth 100000 in
theorem eqFunc_any (l r : List Fe) (u v : Value) (w : World) (hl : ElsP feeE w (· < w.heap.size) u l) (hr : ElsP feeE w (· < w.heap.size) v r) (hll : l.length ≤ 1000000000000) (hrl : r.length ≤ 1000000000000) (hs : FMany l) (ht : FMany r) :
    Calls Tryd.prog 80 #[u, v, .func (.func 81) #[] #[]] w fun e w' => e = .returned (.bool (eqFs l r)) ∧ Below w.heap.size w w' := by
  obtain ⟨A, c, rfl, _⟩ := hl.slice
  obtain ⟨B, d, rfl, _⟩ := hr.slice
  by_cases hn : l.length = r.length
  · obtain ⟨T, hT⟩ : ∃ T, eqFs l r = T := ⟨_, rfl⟩
    rw [hT]
    have HT := Lib.hid hT
    have HL := Lib.hid hl
    have HR := Lib.hid hr
    have HN := Lib.hid hn
    have HS := Lib.hid hs
    have HS2 := Lib.hid ht
    have hnn : ((l.length : Int) != r.length) = false := by rw [bne, beq_iff_eq.2 (by omega)]; rfl
    clear hT hl hr hn hs ht
    go_enter Tryd.func80, Tryd.ntmps80
    go_wp2_with fail
    clear hnn
    go_loopw [17] (fun i17 wr => ∃ i : Nat, i ≤ l.length ∧ i17 = .int .i64 i ∧ eqFs (l.drop i) (r.drop i) = T ∧ Below w.heap.size w wr) (fun i17 _ => l.length - (intOf i17).toNat)
    case atStart => exact ⟨0, Nat.zero_le _, rfl, HT.out, Below.refl _ _⟩
    case round =>
      obtain ⟨i, hi, rfl, hres, hb⟩ := hrel
      clear HT
      have HB := Lib.hid hb
      have hsz := hb.size
      clear hb
      by_cases hlt : i < l.length
      · have hlt' : (i : Int) < l.length := by omega
        have hlr : i < r.length := by have := HN.out; omega
        have hlr2 : (i : Int) < r.length := by omega
        obtain ⟨b, off, cs, rfl, hpb, hra, hcs⟩ := fees_at (HL.out.keep feeE_ok HB.out.block (fun _ h => h)) hlt
        obtain ⟨b2, off2, ds, rfl, hpb2, hrb, hds⟩ := fees_at (HR.out.keep feeE_ok HB.out.block (fun _ h => h)) hlr
        have hxs := HS.out _ (List.getElem_mem hlt)
        have hys := HS2.out _ (List.getElem_mem hlr)
        rw [eqFs_step hlt hlr] at hres
        generalize l[i] = x at *
        generalize r[i] = y at *
        have hsf := fun W => fun (hW : Below wr.heap.size wr W) => sameFeed_any x y (.agg cs.toArray) (.agg ds.toArray) W ⟨_, rfl, hcs.keep (fun k hk => hW.block k (Nat.lt_of_lt_of_le hk hsz)) (fun k hk => Nat.lt_of_lt_of_le (Nat.lt_of_lt_of_le hk hsz) hW.size)⟩ ⟨_, rfl, hds.keep (fun k hk => hW.block k (Nat.lt_of_lt_of_le hk hsz)) (fun k hk => Nat.lt_of_lt_of_le (Nat.lt_of_lt_of_le hk hsz) hW.size)⟩ hxs hys
        obtain ⟨PA, pc, EA, ec, rfl, _, _, _, _⟩ := hcs
        obtain ⟨PB, pd, EB, ed, rfl, _, _, _, _⟩ := hds
        obtain ⟨q, hq⟩ : ∃ q, sameF x y = q := ⟨_, rfl⟩
        rw [hq] at hsf hres
        have HSF := Lib.hid hsf
        have HRA := Lib.hid hra
        have hbl : b2 < wr.heap.size := Nat.lt_of_lt_of_le hpb2 hsz
        have HRB := Lib.hid (show (wr.alloc (feeBox x PA pc EA ec)).rangeAt b2 (off2 + i * 6) _ from rangeAt_keep hrb (Below.heap_alloc _ _ _ hbl))
        have W2 : Hid (Below wr.heap.size wr ((wr.alloc (feeBox x PA pc EA ec)).alloc (feeBox y PB pd EB ed))) := ((Below.refl _ _).alloc (Nat.le_refl _) _).alloc (by simp) _
        have HRES := Lib.hid hres
        clear hsf hra hrb hres hxs hys hq
        cases q with
        | true =>
          have hres := HRES.out
          rw [Bool.true_and] at hres
          have HRS := Lib.hid hres
          clear hres HRES
          go_wp2_with (first
            | (with_reducible refine gate ?_; refine wp_load_fee rfl _ rfl b (off + i * 6) rfl _ rfl HRA.out ?_)
            | (with_reducible refine gate ?_; refine wp_load_fee rfl _ rfl b2 (off2 + i * 6) rfl _ rfl HRB.out ?_)
            | (go_at_call 81; (with_reducible refine (HSF.out _ W2.out).mono ?_); rintro e w3 ⟨rfl, hb3⟩; have R3 := Lib.hid (W2.out.trans (hb3.mono W2.out.size)); clear hb3))
          go_roundw
          case rel => exact ⟨i + 1, by omega, by go_num, HRS.out, HB.out.trans (R3.out.mono hsz)⟩
          case measure => simp [intOf]; omega
        | false =>
          have hres := HRES.out
          rw [Bool.false_and] at hres
          subst hres
          clear HRES
          go_wp2_with (first
            | (with_reducible refine gate ?_; refine wp_load_fee rfl _ rfl b (off + i * 6) rfl _ rfl HRA.out ?_)
            | (with_reducible refine gate ?_; refine wp_load_fee rfl _ rfl b2 (off2 + i * 6) rfl _ rfl HRB.out ?_)
            | (go_at_call 81; (with_reducible refine (HSF.out _ W2.out).mono ?_); rintro e w3 ⟨rfl, hb3⟩; have R3 := Lib.hid (W2.out.trans (hb3.mono W2.out.size)); clear hb3))
          go_ret
          exact ⟨rfl, HB.out.trans (R3.out.mono hsz)⟩
      · obtain rfl : i = l.length := by omega
        have e : T = true := by
          have h1 := HN.out
          rw [← hres, List.drop_length, List.drop_of_length_le (by omega)]; rfl
        subst e
        clear hres
        go_wp2_with fail
        go_ret
        exact ⟨rfl, HB.out⟩
  · have t : ((l.length : Int) != r.length) = true := by rw [bne_iff_ne]; omega
    rw [eqFs_len hn]
    clear hn hl hr hs ht
    go_enter Tryd.func80, Tryd.ntmps80
    go_wp2_with fail
    go_ret
    exact ⟨rfl, Below.refl _ _⟩

set_option maxHeartbeats 4000000 in
set_option maxRecDepth 100000 in
theorem equalA_any (l r : List Fe) (u v : Value) (w : World) (hl : ElsP feeE w (· < w.heap.size) u l) (hr : ElsP feeE w (· < w.heap.size) v r) (hll : l.length ≤ 1000000000000) (hrl : r.length ≤ 1000000000000) (hs : FMany l) (ht : FMany r) :
    Calls Tryd.prog 48 #[.agg #[u], .agg #[v]] w fun e w' => e = .returned (.bool (eqFs l r)) ∧ Below w.heap.size w w' := by
  have HA : Hid (∀ x y, Below w.heap.size w ((w.alloc x).alloc y)) := fun x y => ((Below.refl _ _).alloc (Nat.le_refl _) x).alloc (by simp) y
  have hef := fun W => fun (hW : Below w.heap.size w W) => eqFunc_any l r u v W (hl.keep feeE_ok hW.block (fun k hk => Nat.lt_of_lt_of_le hk hW.size)) (hr.keep feeE_ok hW.block (fun k hk => Nat.lt_of_lt_of_le hk hW.size)) hll hrl hs ht
  obtain ⟨A, c, rfl, _⟩ := hl.slice
  obtain ⟨B, d, rfl, _⟩ := hr.slice
  generalize eqFs l r = q at *
  have HE := Lib.hid hef
  have k0 : ((w.alloc (.cells #[.slice A l.length c] 50)).alloc (.cells #[.slice B r.length d] 50)).cell? ⟨w.heap.size, 0, none⟩ = some (.slice A l.length c) := by
    rw [Lib.cell_of_heap ((Below.heap_alloc _ _ _ (by simp)).trans (heap_alloc_new w _))]; rfl
  have k1 : ((w.alloc (.cells #[.slice A l.length c] 50)).alloc (.cells #[.slice B r.length d] 50)).cell? ⟨w.heap.size + 1, 0, none⟩ = some (.slice B r.length d) := by
    have := heap_alloc_new (w.alloc (.cells #[.slice A l.length c] 50)) (.cells #[.slice B r.length d] 50)
    rw [Lib.cell_of_heap (by simpa using this)]; rfl
  clear hef hl hr hs ht
  go_enter Tryd.func48, Tryd.ntmps48
  go_wp2_with (go_at_call 80; (with_reducible refine (HE.out _ (HA.out _ _)).mono ?_); rintro e w3 ⟨rfl, hb3⟩)
  go_ret
  exact ⟨rfl, (HA.out _ _).trans (hb3.mono (HA.out _ _).size)⟩
end Go.Proofs.YtadkgjbidhfefaaDoor
set_option linter.unusedVariables false
namespace Go.Proofs.YtadkgjbidhfefaaDoor
open Go.RowKit

theorem feeVal_fit (f : Fe) (h : -9223372036854775808 ≤ f.upd ∧ f.upd ≤ 9223372036854775807) (hs : FSz f) : JFit (feeVal f) := by
  have hp := hs.path
  refine fit_jarr _ (by simp) fun x hx => ?_
  rcases List.mem_append.1 hx with hx | hx
  · rcases List.mem_cons.1 hx with rfl | hx
    · refine fit_jarr _ (by simp; omega) fun y hy => ?_
      obtain ⟨s, _, rfl⟩ := List.mem_map.1 hy
      exact fit_jstr s
    · obtain ⟨s, _, rfl⟩ := List.mem_map.1 hx
      exact fit_jstr s
  · rw [List.mem_singleton.1 hx]; exact fit_jint _ h
theorem feeVal_ful (f : Fe) : jful (feeVal f) = 6 + (f.path.length + (f.path.map List.length).sum) + (f.id.length + f.title.length + f.link.length) := by
  unfold feeVal
  rw [jful_jarr, jfulL_app, jfulL, jful_jarr, jfulL_map_jstr, jfulL_map_jstr, jfulL, jfulL, jful_jint]
  simp
  omega

set_option maxHeartbeats 4000000 in
set_option maxRecDepth 100000 in
theorem refFeedKey_any (f : Fe) (u : Value) (w : World) (hf : -9223372036854775808 ≤ f.upd ∧ f.upd ≤ 9223372036854775807) (hs : FSz f) (hu : FeeV w (· < w.heap.size) f u) :
    Calls Tryd.prog 44 #[u] w fun x w' => x = .returned (.string (S (keyOf (feeVal f)))) ∧ Below w.heap.size w w' := by
  rw [key_fee]
  obtain ⟨PA, pc, EA, ec, rfl, hp, he, hpc, hec⟩ := hu.open_
  have hhead := hs.head
  have hpl := hs.path
  have hps := hs.strs
  have hqp := fun (W : World) (hW : Below w.heap.size w W) => refQuoteL_any f.path _ W (hp.keep strE_ok hW.block (fun k hk => Nat.lt_of_lt_of_le hk hW.size)) (by omega) (by omega)
  have hq := fun (W : World) (b : Nat) (hb : W.heap[b]? = some (.cells #[.string (S f.id), .string (S f.title), .string (S f.link)] 9)) => refQuoteL_any (strsF f) _ W (els_three hb) (by simp [strsF]) (by simp [strsF]; omega)
  have hd := fun W => decimal_any f.upd hf.1 hf.2 W
  have hil := itoa_len f.upd hf.1 hf.2
  have hql : (quoL (strsF f)).length ≤ 900000 := by
    have := jtxL_jstr_len true (strsF f)
    unfold quoL
    split
    · simp only [strsF, List.map_cons, List.map_nil, List.sum_cons, List.sum_nil, List.length_cons, List.length_nil] at this ⊢; omega
    · simp
  have hqlp : (quoL f.path).length ≤ 1200000 := by
    have := jtxL_jstr_len true f.path
    unfold quoL
    split
    · omega
    · simp
  have hx : ∀ W, Below (w.heap.size + 1) (w.alloc (.cells #[.slice PA f.path.length pc, .string (S f.id), .string (S f.title), .string (S f.link), .int .i64 f.upd, .slice EA f.ents.length ec] 55)) W → W.cell? ⟨w.heap.size, 0, none⟩ = some (.slice PA f.path.length pc) ∧ W.cell? ⟨w.heap.size, 1, none⟩ = some (.string (S f.id)) ∧ W.cell? ⟨w.heap.size, 2, none⟩ = some (.string (S f.title)) ∧ W.cell? ⟨w.heap.size, 3, none⟩ = some (.string (S f.link)) ∧ W.cell? ⟨w.heap.size, 4, none⟩ = some (.int .i64 f.upd) := fun W hW => by
    obtain ⟨k0, k1, k2, k3, k4, k5⟩ := cells6 ((hW.block w.heap.size (by omega)).trans (heap_alloc_new w (.cells #[.slice PA f.path.length pc, .string (S f.id), .string (S f.title), .string (S f.link), .int .i64 f.upd, .slice EA f.ents.length ec] 55)))
    exact ⟨k0, k1, k2, k3, k4⟩
  have KEEP := Lib.hid hx
  have HA0 := Lib.hid (show Below w.heap.size w (w.alloc (.cells #[.slice PA f.path.length pc, .string (S f.id), .string (S f.title), .string (S f.link), .int .i64 f.upd, .slice EA f.ents.length ec] 55)) from (Below.refl _ _).alloc (Nat.le_refl _) _)
  have HD := Lib.hid hd
  generalize quoL (strsF f) = Q at *
  generalize quoL f.path = PQ at *
  generalize f.path.length = pn at *
  generalize Lib.itoa f.upd = N at *
  have HQ := Lib.hid hq
  have HQP := Lib.hid hqp
  clear hx hd hq hqp hf hs hu hp he
  by_cases hQ : Q = []
  · subst hQ
    rw [if_pos (.inl rfl)]
    obtain ⟨k0, k1, k2, k3, k4⟩ := KEEP.out _ (Below.refl _ _)
    go_enter Tryd.func44, Tryd.ntmps44
    go_wp2_with (first
      | (go_at_call 77; (with_reducible refine (HQP.out _ HA0.out).mono ?_); rintro x w1 ⟨rfl, hb1⟩; have r1 := (Below.refl (w.heap.size + 1) (w.alloc (.cells #[.slice PA pn pc, .string (S f.id), .string (S f.title), .string (S f.link), .int .i64 f.upd, .slice EA f.ents.length ec] 55))).trans (hb1.mono (by simp)); have HR1 := Lib.hid r1; clear k0 k1 k2 k3 k4 hb1; obtain ⟨k0, k1, k2, k3, k4⟩ := KEEP.out _ r1; clear r1)
      | (go_at_call 77; (with_reducible refine (HQ.out _ _ (heap_alloc_new w1 _)).mono ?_); rintro x w2 ⟨rfl, hb2⟩; have HR2 := Lib.hid ((HR1.out.alloc (by have := HR1.out.size; simpa using this) (.cells #[.string (S f.id), .string (S f.title), .string (S f.link)] 9)).trans (hb2.mono (by have := HR1.out.size; simp at this; simp; omega))); clear k0 k1 k2 k3 k4 hb2; obtain ⟨k0, k1, k2, k3, k4⟩ := KEEP.out _ HR2.out))
    go_ret
    exact ⟨rfl, HA0.out.trans (HR2.out.mono (Nat.le_succ _))⟩
  · have t : Q.isEmpty = false := by cases Q with | nil => exact absurd rfl hQ | cons _ _ => rfl
    have t2 : (Q == []) = false := by rw [beq_eq_false_iff_ne]; exact hQ
    by_cases hP : PQ = [] ∧ 0 < pn
    · obtain ⟨hP, hpn⟩ := hP
      subst hP
      have hpn' : (0 : Int) < pn := by omega
      rw [if_pos (.inr ⟨rfl, hpn⟩)]
      have HPN := Lib.hid hpn
      clear hpn hQ
      obtain ⟨k0, k1, k2, k3, k4⟩ := KEEP.out _ (Below.refl _ _)
      go_enter Tryd.func44, Tryd.ntmps44
      go_wp2_with (first
        | (go_at_call 77; (with_reducible refine (HQP.out _ HA0.out).mono ?_); rintro x w1 ⟨rfl, hb1⟩; have r1 := (Below.refl (w.heap.size + 1) (w.alloc (.cells #[.slice PA pn pc, .string (S f.id), .string (S f.title), .string (S f.link), .int .i64 f.upd, .slice EA f.ents.length ec] 55))).trans (hb1.mono (by simp)); have HR1 := Lib.hid r1; clear k0 k1 k2 k3 k4 hb1; obtain ⟨k0, k1, k2, k3, k4⟩ := KEEP.out _ r1; clear r1)
        | (go_at_call 77; (with_reducible refine (HQ.out _ _ (heap_alloc_new w1 _)).mono ?_); rintro x w2 ⟨rfl, hb2⟩; have hz1 : w.heap.size + 1 ≤ w1.heap.size := (by have := HR1.out.size; simpa using this); have HR2 := Lib.hid ((HR1.out.alloc hz1 (.cells #[.string (S f.id), .string (S f.title), .string (S f.link)] 9)).trans (hb2.mono (by simp; omega))); clear k0 k1 k2 k3 k4 hb2; obtain ⟨k0, k1, k2, k3, k4⟩ := KEEP.out _ HR2.out))
      go_ret
      exact ⟨rfl, HA0.out.trans (HR2.out.mono (Nat.le_succ _))⟩
    · rw [if_neg (fun h => h.elim hQ hP)]
      obtain ⟨L1, e1⟩ : ∃ L1 : Bytes, L1 = [91, 91] ++ PQ := ⟨_, rfl⟩
      obtain ⟨L2, e2⟩ : ∃ L2 : Bytes, L2 = L1 ++ [93, 44] := ⟨_, rfl⟩
      obtain ⟨L3, e3⟩ : ∃ L3 : Bytes, L3 = L2 ++ Q := ⟨_, rfl⟩
      obtain ⟨L4, e4⟩ : ∃ L4 : Bytes, L4 = L3 ++ [44] := ⟨_, rfl⟩
      obtain ⟨L5, e5⟩ : ∃ L5 : Bytes, L5 = L4 ++ N := ⟨_, rfl⟩
      obtain ⟨L6, e6⟩ : ∃ L6 : Bytes, L6 = L5 ++ [93] := ⟨_, rfl⟩
      have g1 : ∀ W : World, (Op.stringOp .add ⟨#[91, 91]⟩ (S PQ)).run Tryd.prog W = .ok (.string (S L1)) W := run_catJ [91, 91] PQ L1 e1 (by simp only [List.length_cons, List.length_nil]; omega)
      have g2 : ∀ W : World, (Op.stringOp .add (S L1) ⟨#[93, 44]⟩).run Tryd.prog W = .ok (.string (S L2)) W := run_catJ L1 [93, 44] L2 e2 (by rw [e1]; simp only [List.length_append, List.length_cons, List.length_nil]; omega)
      have g3 : ∀ W : World, (Op.stringOp .add (S L2) (S Q)).run Tryd.prog W = .ok (.string (S L3)) W := run_catJ L2 Q L3 e3 (by rw [e2, e1]; simp only [List.length_append, List.length_cons, List.length_nil]; omega)
      have g4 : ∀ W : World, (Op.stringOp .add (S L3) ⟨#[44]⟩).run Tryd.prog W = .ok (.string (S L4)) W := run_catJ L3 [44] L4 e4 (by rw [e3, e2, e1]; simp only [List.length_append, List.length_cons, List.length_nil]; omega)
      have g5 : ∀ W : World, (Op.stringOp .add (S L4) (S N)).run Tryd.prog W = .ok (.string (S L5)) W := run_catJ L4 N L5 e5 (by rw [e4, e3, e2, e1]; simp only [List.length_append, List.length_cons, List.length_nil]; omega)
      have g6 : ∀ W : World, (Op.stringOp .add (S L5) ⟨#[93]⟩).run Tryd.prog W = .ok (.string (S L6)) W := run_catJ L5 [93] L6 e6 (by rw [e5, e4, e3, e2, e1]; simp only [List.length_append, List.length_cons, List.length_nil]; omega)
      have he : L6 = [91, 91] ++ PQ ++ [93, 44] ++ Q ++ [44] ++ N ++ [93] := by rw [e6, e5, e4, e3, e2, e1]
      rw [← he]
      have hways : (PQ == []) = false ∨ PQ = [] ∧ ¬ (0 : Int) < pn := by
        by_cases h : PQ = []
        · exact .inr ⟨h, fun h2 => hP ⟨h, by omega⟩⟩
        · exact .inl (by rw [beq_eq_false_iff_ne]; exact h)
      have hways2 : PQ.isEmpty = (PQ == []) := by cases PQ <;> rfl
      clear e1 e2 e3 e4 e5 e6 he hQ hP
      obtain ⟨k0, k1, k2, k3, k4⟩ := KEEP.out _ (Below.refl _ _)
      rcases hways with t3 | ⟨rfl, t4⟩
      · have t5 := hways2.trans t3
        clear hways2
        go_enter Tryd.func44, Tryd.ntmps44
        go_wp2_with (first
          | (go_at_call 77; (with_reducible refine (HQP.out _ HA0.out).mono ?_); rintro x w1 ⟨rfl, hb1⟩; have r1 := (Below.refl (w.heap.size + 1) (w.alloc (.cells #[.slice PA pn pc, .string (S f.id), .string (S f.title), .string (S f.link), .int .i64 f.upd, .slice EA f.ents.length ec] 55))).trans (hb1.mono (by simp)); have HR1 := Lib.hid r1; clear k0 k1 k2 k3 k4 hb1; obtain ⟨k0, k1, k2, k3, k4⟩ := KEEP.out _ r1; clear r1)
          | (go_at_call 77; (with_reducible refine (HQ.out _ _ (heap_alloc_new w1 _)).mono ?_); rintro x w2 ⟨rfl, hb2⟩; have hz1 : w.heap.size + 1 ≤ w1.heap.size := (by have := HR1.out.size; simpa using this); have HR2 := Lib.hid ((HR1.out.alloc hz1 (.cells #[.string (S f.id), .string (S f.title), .string (S f.link)] 9)).trans (hb2.mono (by simp; omega))); clear k0 k1 k2 k3 k4 hb2; obtain ⟨k0, k1, k2, k3, k4⟩ := KEEP.out _ HR2.out)
          | (go_at_call 78; refine (HD.out _).mono ?_; rintro x w3 ⟨rfl, hb3⟩; have HR3 := Lib.hid (HR2.out.trans (hb3.mono (by have := HR2.out.size; simpa using this))); clear hb3))
        go_ret
        exact ⟨rfl, HA0.out.trans (HR3.out.mono (Nat.le_succ _))⟩
      · clear hways2
        go_enter Tryd.func44, Tryd.ntmps44
        go_wp2_with (first
          | (go_at_call 77; (with_reducible refine (HQP.out _ HA0.out).mono ?_); rintro x w1 ⟨rfl, hb1⟩; have r1 := (Below.refl (w.heap.size + 1) (w.alloc (.cells #[.slice PA pn pc, .string (S f.id), .string (S f.title), .string (S f.link), .int .i64 f.upd, .slice EA f.ents.length ec] 55))).trans (hb1.mono (by simp)); have HR1 := Lib.hid r1; clear k0 k1 k2 k3 k4 hb1; obtain ⟨k0, k1, k2, k3, k4⟩ := KEEP.out _ r1; clear r1)
          | (go_at_call 77; (with_reducible refine (HQ.out _ _ (heap_alloc_new w1 _)).mono ?_); rintro x w2 ⟨rfl, hb2⟩; have hz1 : w.heap.size + 1 ≤ w1.heap.size := (by have := HR1.out.size; simpa using this); have HR2 := Lib.hid ((HR1.out.alloc hz1 (.cells #[.string (S f.id), .string (S f.title), .string (S f.link)] 9)).trans (hb2.mono (by simp; omega))); clear k0 k1 k2 k3 k4 hb2; obtain ⟨k0, k1, k2, k3, k4⟩ := KEEP.out _ HR2.out)
          | (go_at_call 78; refine (HD.out _).mono ?_; rintro x w3 ⟨rfl, hb3⟩; have HR3 := Lib.hid (HR2.out.trans (hb3.mono (by have := HR2.out.size; simpa using this))); clear hb3))
        go_ret
        exact ⟨rfl, HA0.out.trans (HR3.out.mono (Nat.le_succ _))⟩
end Go.Proofs.YtadkgjbidhfefaaDoor
set_option linter.unusedVariables false
set_option linter.unusedSimpArgs false
namespace Go.Proofs.YtadkgjbidhfefaaDoor
open Go.RowKit

theorem ElRow.own {α : Type} {E : Elt α} (hE : E.Ok) {W : World} {base : Nat} {v : Value} {l : List α} (h : ElRow E W base (fun _ => False) v l) : ElsP E W (fun k => base ≤ k ∧ k < W.heap.size) v l :=
  h.elsP hE (fun _ h => h.elim) (fun k hk => h.lt k hk)
/-- A slice of one element that lies in a block of the call's own. -/
theorem ElRow.single {α : Type} {E : Elt α} (hE : E.Ok) {W : World} {base b : Nat} {p : Nat → Prop} {x : α} {cs : List Value} (hx : E.El W p x cs) (hb : base ≤ b) (hh : W.heap[b]? = some (.cells cs.toArray E.T (0, 0))) : ElRow E W base p (.slice (some ⟨b, 0, none⟩) 1 1) [x] := by
  have hl := hE.len hx
  refine ⟨[cs], rfl, ?_, ?_⟩
  · intro i a ds ha hd
    cases i with
    | zero => simp at ha hd; subst ha hd; exact hx
    | succ i => simp at ha
  · refine ⟨by simp [hl], .inr ⟨b, 1, cs.toArray, rfl, hb, hh, Nat.le_refl _, by decide, by simp [hl], by simp [hl, List.take_of_length_le (Nat.le_of_eq hl)]⟩⟩
theorem els_append_all_step {α : Type} {E : Elt α} (hE : E.Ok) {ops : Array Oper} {o : Oper} {a : Act} {K : Act → World → Prop} {Q : Exit → Act → World → Prop} {Z : Prop} (hgd : o.guard = none) (d s : Operand)
    (ho : o.op = .call { callee := .builtin .append, args := #[d, s], argTypes := #[E.TS, E.TS] })
    (w : World) (base : Nat) (p : Nat → Prop) (v : Value) (xs : List α) (hd : a.eval d = v) (hx : ElRow E w base p v xs) (A : Option Addr) (n c : Nat) (l : List α) (hs : a.eval s = .slice A n c) (h : ElsP E w p (.slice A n c) l) (hbase : base ≤ w.heap.size) (hl : xs.length + l.length < 10000000000)
    (hB : ∀ j, p j → v.ownBlock ≠ some j) (hB2 : ∀ j, p j → j < w.heap.size)
    (hK : ∀ v' w', ElRow E w' base p v' (xs ++ l) → Grew w v v' w' → Below base w w' → (v'.ownBlock = v.ownBlock ∨ v'.ownBlock = some w.heap.size) → K (a.put o.dst v') w') :
    if Region.wanted o (yielded ops a.tmps) = true then Oper.wp Tryd.prog o a w K Q else Z := by
  rw [if_pos (by simp [Region.wanted, hgd])]
  obtain ⟨v', w', hrun, h1, h2, h3, h4⟩ := run_append_els hE w o.type base p v xs hx A n c l h hbase hl hB hB2
  unfold Oper.wp
  simp [execOp, ho, resolve, invoke, builtin, hd, hs, hrun, Result.andThen]
  exact hK _ _ h1 h2 h3 h4
theorem al2a (W : World) (A B : Obj) : ((W.alloc A).alloc B).heap[W.heap.size]? = some A := (Below.heap_alloc _ _ _ (by simp)).trans (heap_alloc_new W A)
theorem al2b (W : World) (A B : Obj) : ((W.alloc A).alloc B).heap[W.heap.size + 1]? = some B := by
  have := heap_alloc_new (W.alloc A) B; simpa using this
/-- The slice of one value, the values of three strings appended. -/
theorem fee_app_step {ops : Array Oper} {o : Oper} {a : Act} {K : Act → World → Prop} {Q : Exit → Act → World → Prop} {Z : Prop} (hgd : o.guard = none) (d s : Operand)
    (ho : o.op = .call { callee := .builtin .append, args := #[d, s], argTypes := #[22, 22] })
    (w : World) (base bt m : Nat) (J : JV) (cs : List Value) (ss js : List JV) (hjs : J :: ss = js) (A : Option Addr) (c b3 : Nat) (hd : a.eval d = .slice (some ⟨bt, 0, none⟩) 1 1) (hT : w.heap[bt]? = some (.cells cs.toArray 25 (0, 0))) (h1 : base ≤ bt) (h2 : m ≤ bt) (hJ : valE.El w (fun k => base ≤ k ∧ k < m) J cs)
    (hs : a.eval s = .slice A 3 c) (hR : ElRow valE w b3 (fun _ => False) (.slice A 3 c) ss) (hb3 : base ≤ b3) (hne : ∀ k, (Value.slice A 3 c).ownBlock = some k → k ≠ bt) (hl : ss.length = 3)
    (hK : ∀ A' c' w', (∃ p : Nat → Prop, ElRow valE w' base p (.slice A' 4 c') js ∧ ∀ j, p j → (Value.slice A' 4 c').ownBlock ≠ some j ∧ base ≤ j ∧ j < w'.heap.size) → Below base w w' → K (a.put o.dst (.slice A' 4 c')) w') :
    if Region.wanted o (yielded ops a.tmps) = true then Oper.wp Tryd.prog o a w K Q else Z := by
  subst hjs
  have hlt := heap_lt hT
  have hp1 : valE.El w (fun k => base ≤ k ∧ k < w.heap.size ∧ k ≠ bt) J cs := valE_ok.keep hJ (fun _ _ => rfl) (fun k hk => ⟨hk.1, by have := hk.2; omega, by have := hk.2; omega⟩)
  refine els_append_all_step (E := valE) valE_ok hgd d s ho w base (fun k => base ≤ k ∧ k < w.heap.size ∧ k ≠ bt) _ [J] hd (ElRow.single valE_ok hp1 h1 hT) A 3 c ss hs (hR.elsP valE_ok (fun _ h => h.elim) (fun k hk => ⟨by have := (hR.lt k hk).1; omega, (hR.lt k hk).2, hne k hk⟩)) (by omega) (by simp; omega) (fun j hj e => hj.2.2 (by simp [Value.ownBlock] at e; exact e.symm)) (fun j hj => hj.2.1) ?_
  intro v' w' hr hg hb ho'
  obtain ⟨A', c', rfl, _⟩ := hr.slice
  have hln : ([J] ++ ss).length = 4 := by simp [hl]
  simp only [hln] at hr ho' ⊢
  refine hK A' c' w' ⟨_, hr, fun j hj => ⟨fun e => ?_, hj.1, Nat.lt_of_lt_of_le hj.2.1 hb.size⟩⟩ hb
  rcases ho' with h | h
  · rw [h] at e
    simp [Value.ownBlock] at e
    exact hj.2.2 e.symm
  · rw [h] at e
    have := hj.2.1
    simp at e
    omega

set_option maxHeartbeats 8000000 in
set_option maxRecDepth 100000 in
theorem feedKey_any (f : Fe) (u : Value) (w : World) (hT : TabJ w) (hf : -9223372036854775808 ≤ f.upd ∧ f.upd ≤ 9223372036854775807) (hs : FSz f) (hu : FeeV w (· < w.heap.size) f u) :
    Calls Tryd.prog 43 #[u] w fun x w' => x = .returned (.string (S (keyOf (feeVal f)))) ∧ Below w.heap.size w w' := by
  obtain ⟨PA, pc, EA, ec, rfl, hp, he, hpc, hec⟩ := hu.open_
  have hhead := hs.head
  have hpl := hs.path
  have hps := hs.strs
  have hful := feeVal_ful f
  have hfit := feeVal_fit f hf hs
  have hwr := fun (u : Value) (W : World) (hW : Below w.heap.size w W) (hv : ValV W (· < W.heap.size) (feeVal f) u) => write12_any (feeVal f) u W (by omega) hfit (hT.next hW) hv
  unfold keyOf
  have hfv : feeVal f = jarr (jarr (f.path.map jstr) :: [f.id, f.title, f.link].map jstr ++ [jint f.upd]) := rfl
  generalize hK : outJ (feeVal f) (jvd (feeVal f) 1) = KB at *
  generalize errJ (jvd (feeVal f) 1) = ER at *
  rw [hfv] at hwr
  have hW0 : Below w.heap.size w (w.alloc (.cells #[.slice PA f.path.length pc, .string (S f.id), .string (S f.title), .string (S f.link), .int .i64 f.upd, .slice EA f.ents.length ec] 55)) := (Below.refl _ _).alloc (Nat.le_refl _) _
  have hsp := fun (W : World) (hW : Below (w.heap.size + 1) (w.alloc (.cells #[.slice PA f.path.length pc, .string (S f.id), .string (S f.title), .string (S f.link), .int .i64 f.upd, .slice EA f.ents.length ec] 55)) W) => stringValues_any f.path _ W (· < W.heap.size) (fun _ h => h) (hp.keep strE_ok (fun k hk => (hW0.trans (hW.mono (Nat.le_succ _))).block k hk) (fun k hk => Nat.lt_of_lt_of_le hk (hW0.trans (hW.mono (Nat.le_succ _))).size)) (by omega)
  have hs3 := fun (W : World) (b : Nat) (hb : W.heap[b]? = some (.cells #[.string (S f.id), .string (S f.title), .string (S f.link)] 9)) => stringValues_any [f.id, f.title, f.link] _ W (· < W.heap.size) (fun _ h => h) (els_three hb) (by simp)
  have hl3 : ([f.id, f.title, f.link].map jstr).length = 3 := by simp
  have hn3 : [f.id, f.title, f.link].length = 3 := rfl
  have hlp : (f.path.map jstr).length = f.path.length := by simp
  simp only [hn3] at hs3
  generalize f.path.map jstr = ps at *
  generalize [f.id, f.title, f.link].map jstr = ss at *
  have har1 := fun (u : Value) (W : World) (h : ElsP valE W (fun k => w.heap.size + 1 ≤ k ∧ k < W.heap.size) u ps) => array13_any ps u W _ (fun _ h => h.2) h (by omega)
  generalize jarr ps = JP at *
  have hjl : (JP :: ss).length = 4 := by simp [hl3]
  generalize hjs : JP :: ss = js at *
  have har2 := fun (u : Value) (W : World) (h : ElsP valE W (fun k => k < W.heap.size) u (js ++ [jint f.upd])) => array13_any (js ++ [jint f.upd]) u W _ (fun _ h => h) h (by simp [hjl])
  have hx : ∀ W, Below (w.heap.size + 1) (w.alloc (.cells #[.slice PA f.path.length pc, .string (S f.id), .string (S f.title), .string (S f.link), .int .i64 f.upd, .slice EA f.ents.length ec] 55)) W → W.cell? ⟨w.heap.size, 0, none⟩ = some (.slice PA f.path.length pc) ∧ W.cell? ⟨w.heap.size, 1, none⟩ = some (.string (S f.id)) ∧ W.cell? ⟨w.heap.size, 2, none⟩ = some (.string (S f.title)) ∧ W.cell? ⟨w.heap.size, 3, none⟩ = some (.string (S f.link)) ∧ W.cell? ⟨w.heap.size, 4, none⟩ = some (.int .i64 f.upd) := fun W hW => by
    obtain ⟨k0, k1, k2, k3, k4, k5⟩ := cells6 ((hW.block w.heap.size (by omega)).trans (heap_alloc_new w (.cells #[.slice PA f.path.length pc, .string (S f.id), .string (S f.title), .string (S f.link), .int .i64 f.upd, .slice EA f.ents.length ec] 55)))
    exact ⟨k0, k1, k2, k3, k4⟩
  have hz0 : w.heap.size + 1 ≤ (w.alloc (.cells #[.slice PA f.path.length pc, .string (S f.id), .string (S f.title), .string (S f.link), .int .i64 f.upd, .slice EA f.ents.length ec] 55)).heap.size := by simp
  have KEEP := Lib.hid hx
  have HSP := Lib.hid hsp
  have HS3 := Lib.hid hs3
  have HA1 := Lib.hid har1
  have HA2 := Lib.hid har2
  have HWR := Lib.hid hwr
  have HL3 := Lib.hid hl3
  have HZ0 := Lib.hid hz0
  have HJS := Lib.hid hjs
  have HJL := Lib.hid hjl
  have HW0 := Lib.hid hW0
  clear hx hsp hs3 har1 har2 hwr hl3 hn3 hlp hf hs hu hp he hful hfit hfv hK hT hpl hps hhead hz0 hW0 hjs hjl
  generalize f.path.length = pn at *
  go_enter Tryd.func43, Tryd.ntmps43
  go_wp2_with fail
  generalize w.alloc (.cells #[.slice PA pn pc, .string (S f.id), .string (S f.title), .string (S f.link), .int .i64 f.upd, .slice EA f.ents.length ec] 55) = W0 at *
  go_cut [3] (fun s3 wx => ∃ A c p, s3 = .slice A 4 c ∧ ElRow valE wx (w.heap.size + 1) p (.slice A 4 c) js ∧ (∀ j, p j → (Value.slice A 4 c).ownBlock ≠ some j ∧ w.heap.size + 1 ≤ j ∧ j < wx.heap.size) ∧ Below (w.heap.size + 1) W0 wx)
  case first =>
    go_region_held3 (fun x => x.cell? ⟨w.heap.size, 0, none⟩ = some (.slice PA pn pc) ∧ x.cell? ⟨w.heap.size, 1, none⟩ = some (.string (S f.id)) ∧ x.cell? ⟨w.heap.size, 2, none⟩ = some (.string (S f.title)) ∧ x.cell? ⟨w.heap.size, 3, none⟩ = some (.string (S f.link)) ∧ x.cell? ⟨w.heap.size, 4, none⟩ = some (.int .i64 f.upd))
      (first | exact KEEP.out _ R4.out | exact KEEP.out _ (R3.out.alloc hz3 _) | exact KEEP.out _ R3.out | exact KEEP.out _ ((R.out.alloc hz _).alloc (by simp; omega) _) | exact KEEP.out _ (R.out.alloc hz _) | exact KEEP.out _ R.out | exact KEEP.out _ ((Below.refl _ _).alloc HZ0.out _).drew | exact KEEP.out _ (Below.refl _ _).drew)
      (first
        | ((go_at_call 76; (with_reducible refine (HSP.out _ ((Below.refl _ _).alloc HZ0.out _).drew).mono ?_); rintro x W ⟨A1, c1, rfl, hrow, hb⟩; have R := Lib.hid (((Below.refl _ _).alloc HZ0.out (.cells #[.string (S f.id), .string (S f.title), .string (S f.link)] 9)).drew.trans (hb.mono (by have := HZ0.out; simp; omega))); have HB := Lib.hid ((hb.block W0.heap.size (by simp)).trans (heap_alloc_new W0 (.cells #[.string (S f.id), .string (S f.title), .string (S f.link)] 9))); have hz : w.heap.size + 1 ≤ W.heap.size := (by have := R.out.size; have := HZ0.out; omega); have HR1 := Lib.hid (hrow.base_ (base' := w.heap.size + 1) (by have := HZ0.out; simp; omega)); clear hrow hb))
        | ((go_at_call 76; (with_reducible refine (HSP.out _ (Below.refl _ _).drew).mono ?_); rintro x W ⟨A1, c1, rfl, hrow, hb⟩; have R := Lib.hid ((Below.refl _ _).drew.trans (hb.mono (by have := HZ0.out; simp; omega))); have hz : w.heap.size + 1 ≤ W.heap.size := (by have := R.out.size; have := HZ0.out; omega); have HR1 := Lib.hid (hrow.base_ (base' := w.heap.size + 1) (by have := HZ0.out; simp; omega)); clear hrow hb))
        | ((go_at_call 18; (with_reducible refine (HA1.out _ _ (ElRow.own valE_ok (HR1.out.below valE_ok ((Below.refl _ _).alloc (Nat.le_refl _) (.cells #[.string (S f.id), .string (S f.title), .string (S f.link)] 9)) (fun _ h => h.elim)))).mono ?_); rintro x W ⟨v, rfl, hv, hb⟩; have HB := Lib.hid ((hb.block _ (by simp)).trans (heap_alloc_new _ (.cells #[.string (S f.id), .string (S f.title), .string (S f.link)] 9))); have hz1 := hz; have hzb := hb.size; have R := Lib.hid ((R.out.alloc hz _).trans (hb.mono (by simp; omega))); have hz : w.heap.size + 1 ≤ W.heap.size := (by have := R.out.size; have := HZ0.out; omega); obtain ⟨cs, rfl, hcs⟩ := hv; obtain ⟨IA, ic, MA, mc, rfl⟩ := hcs.cells; obtain ⟨m, hm⟩ : ∃ m, W.heap.size = m := ⟨_, rfl⟩; have HV := Lib.hid (valE_ok.keep (p' := fun k => w.heap.size + 1 ≤ k ∧ k < m) hcs (fun _ _ => rfl) (fun k hk => (by simp at hk hzb; omega))); have HM := Lib.hid (show m ≤ W.heap.size by omega); clear hcs hm; clear hb HR1))
        | ((go_at_call 18; (with_reducible refine (HA1.out _ _ (ElRow.own valE_ok HR1.out)).mono ?_); rintro x W ⟨v, rfl, hv, hb⟩; (try have HB := Lib.hid ((hb.block _ (heap_lt HB.out)).trans HB.out)); have hz1 := hz; have hzb := hb.size; have R := Lib.hid (R.out.trans (hb.mono hz)); have hz : w.heap.size + 1 ≤ W.heap.size := (by have := R.out.size; have := HZ0.out; omega); obtain ⟨cs, rfl, hcs⟩ := hv; obtain ⟨IA, ic, MA, mc, rfl⟩ := hcs.cells; obtain ⟨m, hm⟩ : ∃ m, W.heap.size = m := ⟨_, rfl⟩; have HV := Lib.hid (valE_ok.keep (p' := fun k => w.heap.size + 1 ≤ k ∧ k < m) hcs (fun _ _ => rfl) (fun k hk => (by omega))); have HM := Lib.hid (show m ≤ W.heap.size by omega); clear hcs hm; clear hb HR1))
        | ((go_at_call 76; (with_reducible refine (HS3.out _ _ (al2b _ (.cells #[.int .i64 JP.kind, .bool JP.b, .int .i64 JP.n, .string (S JP.s), .slice IA JP.items.length ic, .slice MA JP.mems.length mc, .int .i64 JP.pos] 25) _)).mono ?_); rintro x W3 ⟨A3, c3, rfl, hrow, hb⟩; have hbX : Below W.heap.size W W3 := (((Below.refl _ _).alloc (Nat.le_refl _) _).alloc (by simp) _).trans (hb.mono (by simp; omega)); have HR3 := Lib.hid hrow; have R3 := Lib.hid (R.out.trans (hbX.mono hz)); have hz3 : w.heap.size + 1 ≤ W3.heap.size := (by have := R3.out.size; have := HZ0.out; omega); have HV3 := Lib.hid (valE_ok.keep HV.out (fun k hk => hbX.block k (by have := hk.2; have := HM.out; omega)) (fun _ h => h)); have HM3 := Lib.hid (show m ≤ W3.heap.size by have := HM.out; have := hbX.size; omega); have HT := Lib.hid ((hb.block W.heap.size (by simp; omega)).trans (al2a _ _ _)); have HNE := Lib.hid (show ∀ k, (Value.slice A3 3 c3).ownBlock = some k → k ≠ W.heap.size from fun k hk => by have := (hrow.lt k hk).1; simp at this; omega); clear hb hrow hbX))
        | ((go_at_call 76; (with_reducible refine (HS3.out _ _ (al2a _ _ (.cells #[.int .i64 JP.kind, .bool JP.b, .int .i64 JP.n, .string (S JP.s), .slice IA JP.items.length ic, .slice MA JP.mems.length mc, .int .i64 JP.pos] 25))).mono ?_); rintro x W3 ⟨A3, c3, rfl, hrow, hb⟩; have hbX : Below W.heap.size W W3 := (((Below.refl _ _).alloc (Nat.le_refl _) _).alloc (by simp) _).trans (hb.mono (by simp; omega)); have HR3 := Lib.hid hrow; have R3 := Lib.hid (R.out.trans (hbX.mono hz)); have hz3 : w.heap.size + 1 ≤ W3.heap.size := (by have := R3.out.size; have := HZ0.out; omega); have HV3 := Lib.hid (valE_ok.keep HV.out (fun k hk => hbX.block k (by have := hk.2; have := HM.out; omega)) (fun _ h => h)); have HM3 := Lib.hid (show m ≤ W3.heap.size by have := HM.out; have := hbX.size; omega); have HT := Lib.hid ((hb.block (W.heap.size + 1) (by simp)).trans (al2b _ _ _)); have HNE := Lib.hid (show ∀ k, (Value.slice A3 3 c3).ownBlock = some k → k ≠ W.heap.size + 1 from fun k hk => by have := (hrow.lt k hk).1; simp at this; omega); clear hb hrow hbX))
        | ((go_at_call 76; (with_reducible refine (HS3.out _ _ ((Below.heap_alloc _ (.cells #[.int .i64 JP.kind, .bool JP.b, .int .i64 JP.n, .string (S JP.s), .slice IA JP.items.length ic, .slice MA JP.mems.length mc, .int .i64 JP.pos] 25) _ (heap_lt HB.out)).trans HB.out)).mono ?_); rintro x W3 ⟨A3, c3, rfl, hrow, hb⟩; have hbX : Below W.heap.size W W3 := ((Below.refl _ _).alloc (Nat.le_refl _) _).trans (hb.mono (by simp)); have HR3 := Lib.hid hrow; have R3 := Lib.hid (R.out.trans (hbX.mono hz)); have hz3 : w.heap.size + 1 ≤ W3.heap.size := (by have := R3.out.size; have := HZ0.out; omega); have HV3 := Lib.hid (valE_ok.keep HV.out (fun k hk => hbX.block k (by have := hk.2; have := HM.out; omega)) (fun _ h => h)); have HM3 := Lib.hid (show m ≤ W3.heap.size by have := HM.out; have := hbX.size; omega); have HT := Lib.hid ((hb.block W.heap.size (by simp)).trans (heap_alloc_new _ _)); have HNE := Lib.hid (show ∀ k, (Value.slice A3 3 c3).ownBlock = some k → k ≠ W.heap.size from fun k hk => by have := (hrow.lt k hk).1; simp at this; omega); clear hb hrow hbX))
        | ((go_at_call 76; (with_reducible refine (HS3.out _ _ (heap_alloc_new W _)).mono ?_); rintro x W3 ⟨A3, c3, rfl, hrow, hb⟩; have hbX : Below W.heap.size W W3 := ((Below.refl _ _).alloc (Nat.le_refl _) _).trans (hb.mono (by simp)); have HR3 := Lib.hid hrow; have R3 := Lib.hid (R.out.trans (hbX.mono hz)); have hz3 : w.heap.size + 1 ≤ W3.heap.size := (by have := R3.out.size; have := HZ0.out; omega); have HV3 := Lib.hid (valE_ok.keep HV.out (fun k hk => hbX.block k (by have := hk.2; have := HM.out; omega)) (fun _ h => h)); have HM3 := Lib.hid (show m ≤ W3.heap.size by have := HM.out; have := hbX.size; omega); clear hb hrow hbX))
        | ((go_at_call 76; (with_reducible refine (HS3.out _ _ HB.out).mono ?_); rintro x W3 ⟨A3, c3, rfl, hrow, hb⟩; have hbX : Below W.heap.size W W3 := hb; have HR3 := Lib.hid hrow; have R3 := Lib.hid (R.out.trans (hbX.mono hz)); have hz3 : w.heap.size + 1 ≤ W3.heap.size := (by have := R3.out.size; have := HZ0.out; omega); have HV3 := Lib.hid (valE_ok.keep HV.out (fun k hk => hbX.block k (by have := hk.2; have := HM.out; omega)) (fun _ h => h)); have HM3 := Lib.hid (show m ≤ W3.heap.size by have := HM.out; have := hbX.size; omega); clear hb hrow hbX))
        | ((refine fee_app_step rfl _ _ rfl W3 (w.heap.size + 1) _ m JP _ ss js HJS.out A3 c3 _ rfl HT.out (by omega) (by have := HM.out; omega) HV3.out rfl HR3.out (by first | omega | (simp; omega)) HNE.out HL3.out ?_; intro A4 c4 W4 hr4 hb4; have HR4 := Lib.hid hr4; have R4 := Lib.hid (R3.out.trans hb4); clear hr4 hb4))
        | ((refine fee_app_step rfl _ _ rfl (W3.alloc (.cells #[.int .i64 JP.kind, .bool JP.b, .int .i64 JP.n, .string (S JP.s), .slice IA JP.items.length ic, .slice MA JP.mems.length mc, .int .i64 JP.pos] 25)) (w.heap.size + 1) W3.heap.size m JP _ ss js HJS.out A3 c3 _ rfl (heap_alloc_new W3 _) hz3 HM3.out (valE_ok.keep HV3.out (fun k hk => Below.heap_alloc _ _ _ (by have := hk.2; have := HM3.out; omega)) (fun _ h => h)) rfl (HR3.out.below valE_ok ((Below.refl _ _).alloc (Nat.le_refl _) _) (fun _ h => h.elim)) (by first | omega | (simp; omega)) (fun k hk => by have := (HR3.out.lt k hk).2; omega) HL3.out ?_; intro A4 c4 W4 hr4 hb4; have HR4 := Lib.hid hr4; have R4 := Lib.hid ((R3.out.alloc hz3 _).trans hb4); clear hr4 hb4)))
    all_goals
      go_wp2_with fail
      go_meet
      obtain ⟨p4, hr4, hp4⟩ := HR4.out
      exact ⟨A4, c4, p4, rfl, hr4, hp4, R4.out⟩
  case rest =>
    obtain ⟨A, c, p, rfl, hrow, hpj, hb⟩ := hcut
    have R := Lib.hid hb
    have HROW := Lib.hid hrow
    have HPJ := Lib.hid hpj
    have hz := hb.size
    have hz' : w.heap.size + 1 ≤ wc.heap.size := by have := HZ0.out; omega
    clear hrow hpj hb
    obtain ⟨k0, k1, k2, k3, k4⟩ := KEEP.out _ R.out
    go_wp2_with (first
      | (go_at_call 22; (with_reducible refine (int12_any f.upd _).mono ?_); rintro x w5 ⟨rfl, hb5⟩; have R5 := Lib.hid (R.out.trans (hb5.mono hz')); have hz5 : wc.heap.size ≤ w5.heap.size := hb5.size; have HR5 := Lib.hid (HROW.out.below valE_ok hb5 (fun j hj => (HPJ.out j hj).2.2)); clear hb5)
      | (with_reducible refine gate ?_; refine els_append valE_ok rfl _ _ rfl w5 (w.heap.size + 1) p (.slice A 4 c) js rfl HR5.out (jint f.upd) [.int .i64 2, .bool false, .int .i64 f.upd, .string (S []), .slice none 0 0, .slice none 0 0, .int .i64 0] w5.heap.size rfl rfl (jint_val f.upd _ _) (fun j hj => (HPJ.out j hj).1) (fun j hj => by have := (HPJ.out j hj).2.2; omega) (by omega) (by have := HJL.out; omega) ?_; intro g8 c8 w8 hat8 hlt8 hrow8 hgr8 hb8; have R8 := Lib.hid (R5.out.trans hb8); have hz8 : w.heap.size + 1 ≤ w8.heap.size := (by have := hb8.size; omega); have HE8 := Lib.hid (hrow8.elsP valE_ok (p' := (· < w8.heap.size)) (fun j hj => by have := (HPJ.out j hj).2.2; have := hb8.size; show j < w8.heap.size; omega) (fun k hk => (hrow8.lt k hk).2)); clear hat8 hrow8 hgr8 hb8)
      | (go_at_call 18; (with_reducible refine (HA2.out _ _ HE8.out).mono ?_); rintro x w9 ⟨v9, rfl, hv9, hb9⟩; have R9 := Lib.hid (R8.out.trans (hb9.mono hz8)); have hz9 : w.heap.size + 1 ≤ w9.heap.size := (by have := hb9.size; omega); have HV9 := Lib.hid (hv9.keep (p' := (· < w9.heap.size)) (fun _ _ => rfl) (fun k hk => hk.elim (fun h => Nat.lt_of_lt_of_le h hb9.size) (fun h => h.2))); clear hv9 hb9)
      | (go_at_call 14; (with_reducible refine (HWR.out _ _ (HW0.out.trans (R9.out.mono (Nat.le_succ _))) HV9.out).mono ?_); rintro x w10 ⟨rfl, hb10⟩; have R10 := Lib.hid (R9.out.trans (hb10.mono hz9)); clear hb10))
    go_ret
    exact ⟨rfl, HW0.out.trans (R10.out.mono (Nat.le_succ _))⟩
end Go.Proofs.YtadkgjbidhfefaaDoor
set_option linter.unusedVariables false
set_option linter.unusedSimpArgs false
namespace Go.Proofs.YtadkgjbidhfefaaDoor
open Go.RowKit

/-- Two parameters. -/
structure Box2F (w : World) (B : Nat) (x y : Obj) : Prop where
  one : w.heap[B]? = some x
  two : w.heap[B + 1]? = some y
theorem Box2F.new (w : World) (x y : Obj) : Box2F ((w.alloc x).alloc y) w.heap.size x y := by
  refine ⟨?_, ?_⟩
  · exact (Below.heap_alloc _ _ _ (by simp)).trans (heap_alloc_new w _)
  · have := heap_alloc_new (w.alloc x) y
    simpa using this
theorem Box2F.next {w w' : World} {B : Nat} {x y : Obj} (h : Box2F w B x y) (hb : Below w.heap.size w w') : Box2F w' B x y :=
  ⟨(hb.block _ (heap_lt h.one)).trans h.one, (hb.block _ (heap_lt h.two)).trans h.two⟩
theorem els_one_at {W : World} {b : Nat} {f : Fe} {cs : List Value} (hx : FeeP W (· < W.heap.size) f cs) (hh : W.heap[b]? = some (.cells cs.toArray 55 (0, 0))) : ElsP feeE W (· < W.heap.size) (.slice (some ⟨b, 0, none⟩) 1 1) [f] := by
  have h := ElRow.single feeE_ok (base := 0) hx (Nat.zero_le _) hh
  exact h.elsP feeE_ok (fun _ h => h) (fun k hk => (h.lt k hk).2)
theorem al4_0 (W : World) (x y z t : Obj) : ((((W.alloc x).alloc y).alloc z).alloc t).heap[W.heap.size]? = some x :=
  (Below.heap_alloc _ _ _ (by simp; omega)).trans ((Below.heap_alloc _ _ _ (by simp; omega)).trans ((Below.heap_alloc _ _ _ (by simp)).trans (heap_alloc_new W x)))
theorem al4_1 (W : World) (x y z t : Obj) : ((((W.alloc x).alloc y).alloc z).alloc t).heap[W.heap.size + 1]? = some y := by
  have h := heap_alloc_new (W.alloc x) y
  rw [show (W.alloc x).heap.size = W.heap.size + 1 by simp] at h
  exact (Below.heap_alloc _ _ _ (by simp)).trans ((Below.heap_alloc _ _ _ (by simp)).trans h)
theorem al4_2 (W : World) (x y z t : Obj) : ((((W.alloc x).alloc y).alloc z).alloc t).heap[W.heap.size + 1 + 1]? = some z := by
  have h := heap_alloc_new ((W.alloc x).alloc y) z
  rw [show ((W.alloc x).alloc y).heap.size = W.heap.size + 1 + 1 by simp] at h
  exact (Below.heap_alloc _ _ _ (by simp)).trans h
theorem al4_3 (W : World) (x y z t : Obj) : ((((W.alloc x).alloc y).alloc z).alloc t).heap[W.heap.size + 1 + 1 + 1]? = some t := by
  have h := heap_alloc_new (((W.alloc x).alloc y).alloc z) t
  rw [show (((W.alloc x).alloc y).alloc z).heap.size = W.heap.size + 1 + 1 + 1 by simp] at h
  exact h
theorem al4_below (W : World) (x y z t : Obj) : Below W.heap.size W ((((W.alloc x).alloc y).alloc z).alloc t) := ((((Below.refl _ _).alloc (Nat.le_refl _) _).alloc (by simp) _).alloc (by simp; omega) _).alloc (by simp; omega) _
theorem sameF_self (f : Fe) : sameF f f = true := by unfold sameF; simp [eqEs_iff.2 rfl]

set_option maxHeartbeats 16000000 in
set_option maxRecDepth 100000 in
theorem law13compares_any (f g : Fe) (u v : Value) (w : World) (hT : TabJ w) (hu : FeeV w (· < w.heap.size) f u) (hv : FeeV w (· < w.heap.size) g v) (lf : FLen f) (lg : FLen g) :
    Calls Tryd.prog 11 #[u, v] w fun x w' => x = .returned (.bool true) ∧ Below w.heap.size w w' := by
  have kp : ∀ {a : Fe} {x : Value} (W : World), Below w.heap.size w W → FeeV w (· < w.heap.size) a x → FeeV W (· < W.heap.size) a x := fun W hW hx => hx.keep hW.block (fun k hk => Nat.lt_of_lt_of_le hk hW.size)
  have hal := fun W => fun (hW : Below w.heap.size w W) => alive13_any W (hT.next hW)
  have l1 := fun W => fun (hW : Below w.heap.size w W) => large13_any f u W (kp W hW hu) lf
  have l2 := fun W => fun (hW : Below w.heap.size w W) => large13_any g v W (kp W hW hv) lg
  have sz : ∀ {a : Fe}, wtF 0 [a] = false → FSz a := fun ha => (wtF_no ha (by omega)).2 _ (by simp)
  have hgs := fun (s1 : FSz f) (s2 : FSz g) W => fun (hW : Below w.heap.size w W) => refSameFeed_any f g u v W (kp W hW hu) (kp W hW hv) ⟨by have := s1.path; omega, by have := s1.many; omega⟩ ⟨by have := s2.path; omega, by have := s2.many; omega⟩
  have hcf := fun (s1 : FSz f) (s2 : FSz g) W => fun (hW : Below w.heap.size w W) => cmpFeeds_any f g u v W (kp W hW hu) (kp W hW hv) (by have := s1.path; omega) (by have := s2.path; omega)
  have hrf := fun (s1 : FSz f) (s2 : FSz g) W => fun (hW : Below w.heap.size w W) => refCmpFeeds_any f g u v W (kp W hW hu) (kp W hW hv) (by have := s1.path; omega) (by have := s2.path; omega)
  obtain ⟨P1, p1, E1, e1, rfl, hp1, he1, hpc1, hec1⟩ := hu.open_
  obtain ⟨P2, p2, E2, e2, rfl, hp2, he2, hpc2, hec2⟩ := hv.open_
  have hcp := fun (s1 : FSz f) (s2 : FSz g) W => fun (hW : Below w.heap.size w W) => cmpPaths_any f.path g.path _ _ W (· < w.heap.size) (hp1.keep strE_ok hW.block (fun _ h => h)) (hp2.keep strE_ok hW.block (fun _ h => h)) (by have := s1.path; omega) (by have := s2.path; omega)
  have hrp := fun (s1 : FSz f) (s2 : FSz g) W => fun (hW : Below w.heap.size w W) => refCmpPaths_any f.path g.path _ _ W (hp1.keep strE_ok hW.block (fun k hk => Nat.lt_of_lt_of_le hk hW.size)) (hp2.keep strE_ok hW.block (fun k hk => Nat.lt_of_lt_of_le hk hW.size)) (by have := s1.path; omega) (by have := s2.path; omega)
  have B0 := Lib.hid (Box2F.new w (feeBox f P1 p1 E1 e1) (feeBox g P2 p2 E2 e2))
  have W0 : Hid (Below w.heap.size w ((w.alloc (feeBox f P1 p1 E1 e1)).alloc (feeBox g P2 p2 E2 e2))) := ((Below.refl _ _).alloc (Nat.le_refl _) _).alloc (by simp) _
  have HAL := Lib.hid hal
  have L1 := Lib.hid l1
  have L2 := Lib.hid l2
  have HCE : Hid (∀ W, Box2F W w.heap.size (feeBox f P1 p1 E1 e1) (feeBox g P2 p2 E2 e2) → (W.cell? ⟨w.heap.size, 0, none⟩ = some (.slice P1 f.path.length p1) ∧ W.cell? ⟨w.heap.size, 1, none⟩ = some (.string (S f.id)) ∧ W.cell? ⟨w.heap.size, 2, none⟩ = some (.string (S f.title)) ∧ W.cell? ⟨w.heap.size, 3, none⟩ = some (.string (S f.link)) ∧ W.cell? ⟨w.heap.size, 4, none⟩ = some (.int .i64 f.upd) ∧ W.cell? ⟨w.heap.size, 5, none⟩ = some (.slice E1 f.ents.length e1)) ∧ (W.cell? ⟨w.heap.size + 1, 0, none⟩ = some (.slice P2 g.path.length p2) ∧ W.cell? ⟨w.heap.size + 1, 1, none⟩ = some (.string (S g.id)) ∧ W.cell? ⟨w.heap.size + 1, 2, none⟩ = some (.string (S g.title)) ∧ W.cell? ⟨w.heap.size + 1, 3, none⟩ = some (.string (S g.link)) ∧ W.cell? ⟨w.heap.size + 1, 4, none⟩ = some (.int .i64 g.upd) ∧ W.cell? ⟨w.heap.size + 1, 5, none⟩ = some (.slice E2 g.ents.length e2))) := fun W hW => ⟨cells6 hW.one, cells6 hW.two⟩
  by_cases hq : wtF 0 [f] = true ∨ wtF 0 [g] = true
  · generalize wtF 0 [f] = k1 at *
    generalize wtF 0 [g] = k2 at *
    clear hgs hcf hrf hcp hrp sz kp l1 l2 hal hT hu hv lf lg hp1 hp2 he1 he2
    obtain ⟨⟨a0, a1, a2, a3, a4, a5⟩, b0, b1, b2, b3, b4, b5⟩ := HCE.out _ B0.out
    cases k1 <;> cases k2
    case false.false => exact absurd hq (by decide)
    all_goals
      clear hq
      go_enter Tryd.func11, Tryd.ntmps11
      go_wp2_with (first
        | (go_at_call 34; (with_reducible refine (L1.out _ W0.out).mono ?_); rintro x w1 ⟨rfl, hb1⟩; have W1 := Lib.hid (W0.out.trans (hb1.mono W0.out.size)); obtain ⟨⟨a0, a1, a2, a3, a4, a5⟩, b0, b1, b2, b3, b4, b5⟩ := HCE.out _ (B0.out.next hb1); clear hb1)
        | (go_at_call 34; (with_reducible refine (L2.out _ W1.out).mono ?_); rintro x w2 ⟨rfl, hb2⟩; have W2 := Lib.hid (W1.out.trans (hb2.mono W1.out.size)); clear hb2)
        | (go_at_call 27; (with_reducible refine (HAL.out _ W2.out).mono ?_); rintro x w4 ⟨rfl, hb4⟩; have W4 := Lib.hid (W2.out.trans (hb4.mono W2.out.size)); clear hb4)
        | (go_at_call 27; (with_reducible refine (HAL.out _ W1.out).mono ?_); rintro x w4 ⟨rfl, hb4⟩; have W4 := Lib.hid (W1.out.trans (hb4.mono W1.out.size)); clear hb4))
      go_ret
      exact ⟨rfl, W4.out⟩
  · have q1 : wtF 0 [f] = false := by cases hx : wtF 0 [f] with | false => rfl | true => exact absurd (.inl hx) hq
    have q2 : wtF 0 [g] = false := by cases hx : wtF 0 [g] with | false => rfl | true => exact absurd (.inr hx) hq
    have s1 := sz q1
    have s2 := sz q2
    rw [q1] at L1
    rw [q2] at L2
    have HSR := Lib.hid (hgs s1 s2)
    have HF := Lib.hid (hcf s1 s2)
    have HFR := Lib.hid (hrf s1 s2)
    have HP := Lib.hid (hcp s1 s2)
    have HPR := Lib.hid (hrp s1 s2)
    have HE1 := Lib.hid he1
    have HE2 := Lib.hid he2
    have mf : FMany [f] := fun x hx => by rw [List.mem_singleton.1 hx]; exact ⟨by have := s1.path; omega, by have := s1.many; omega⟩
    have mg : FMany [g] := fun x hx => by rw [List.mem_singleton.1 hx]; exact ⟨by have := s2.path; omega, by have := s2.many; omega⟩
    have hFP : ∀ W, Below w.heap.size w W → FeeP W (· < W.heap.size) f [.slice P1 f.path.length p1, .string (S f.id), .string (S f.title), .string (S f.link), .int .i64 f.upd, .slice E1 f.ents.length e1] := fun W hW => (show FeeP w (· < w.heap.size) f _ from ⟨P1, p1, E1, e1, rfl, hp1, he1, hpc1, hec1⟩).keep hW.block (fun k hk => Nat.lt_of_lt_of_le hk hW.size)
    have hGP : ∀ W, Below w.heap.size w W → FeeP W (· < W.heap.size) g [.slice P2 g.path.length p2, .string (S g.id), .string (S g.title), .string (S g.link), .int .i64 g.upd, .slice E2 g.ents.length e2] := fun W hW => (show FeeP w (· < w.heap.size) g _ from ⟨P2, p2, E2, e2, rfl, hp2, he2, hpc2, hec2⟩).keep hW.block (fun k hk => Nat.lt_of_lt_of_le hk hW.size)
    have hEq1 := fun (W : World) (hW : Below w.heap.size w W) (p q : Nat) (hp : W.heap[p]? = some (feeBox f P1 p1 E1 e1)) (hq : W.heap[q]? = some (feeBox g P2 p2 E2 e2)) => equalA_any [f] [g] _ _ W (els_one_at (hFP W hW) hp) (els_one_at (hGP W hW) hq) (by simp) (by simp) mf mg
    have hEq2 := fun (W : World) (hW : Below w.heap.size w W) (p : Nat) (hp : W.heap[p]? = some (feeBox f P1 p1 E1 e1)) => equalA_any [f] [f] _ _ W (els_one_at (hFP W hW) hp) (els_one_at (hFP W hW) hp) (by simp) (by simp) mf mf
    have hEq3 := fun (W : World) (hW : Below w.heap.size w W) (p : Nat) (hp : W.heap[p]? = some (feeBox f P1 p1 E1 e1)) => equalA_any [f] [] _ (.slice none 0 0) W (els_one_at (hFP W hW) hp) (ElsP.nil feeE W (· < W.heap.size)) (by simp) (by simp) mf (fun x hx => by cases hx)
    have z1 : eqFs [f] [g] = sameF f g := by rw [eqFs, eqFs, Bool.and_true]
    have z2 : eqFs [f] [f] = true := by rw [eqFs, eqFs, Bool.and_true, sameF_self]
    have z3 : eqFs [f] [] = false := rfl
    rw [z1] at hEq1
    rw [z2] at hEq2
    rw [z3] at hEq3
    have HEQ1 := Lib.hid hEq1
    have HEQ2 := Lib.hid hEq2
    have HEQ3 := Lib.hid hEq3
    have me1 := s1.many
    have me2 := s2.many
    clear hgs hcf hrf hcp hrp sz kp l1 l2 hal hT hu hv lf lg hp1 hp2 he1 he2 hq q1 q2 s1 s2 hFP hGP hEq1 hEq2 hEq3 z1 z2 z3 mf mg hpc1 hpc2 hec1 hec2
    generalize sameF f g = sf at *
    generalize cmpF f g = cf at *
    generalize cmpP f.path g.path = cp at *
    obtain ⟨⟨a0, a1, a2, a3, a4, a5⟩, b0, b1, b2, b3, b4, b5⟩ := HCE.out _ B0.out
    go_enter Tryd.func11, Tryd.ntmps11
    go_wp2_with (first
      | (go_at_call 34; (with_reducible refine (L1.out _ W0.out).mono ?_); rintro x w1 ⟨rfl, hb1⟩; have W1 := Lib.hid (W0.out.trans (hb1.mono W0.out.size)); have B1 := Lib.hid (B0.out.next hb1); obtain ⟨⟨a0, a1, a2, a3, a4, a5⟩, b0, b1, b2, b3, b4, b5⟩ := HCE.out _ B1.out; clear hb1)
      | (go_at_call 34; (with_reducible refine (L2.out _ W1.out).mono ?_); rintro x w2 ⟨rfl, hb2⟩; have HB0 := Lib.hid (W1.out.trans (hb2.mono W1.out.size)); have B2 := Lib.hid (B1.out.next hb2); obtain ⟨⟨a0, a1, a2, a3, a4, a5⟩, b0, b1, b2, b3, b4, b5⟩ := HCE.out _ B2.out; clear hb2))
    clear L1 L2 B0 W0 B1 W1
    go_loopw [21] (fun i21 wr => ∃ i : Nat, i ≤ f.ents.length ∧ i21 = .int .i64 i ∧ Below w2.heap.size w2 wr) (fun i21 _ => f.ents.length - (intOf i21).toNat)
    case atStart => exact ⟨0, Nat.zero_le _, rfl, Below.refl _ _⟩
    case round =>
      clear a0 a1 a2 a3 a4 a5 b0 b1 b2 b3 b4 b5
      obtain ⟨i, hi, rfl, hbr⟩ := hrel
      have BR := Lib.hid (B2.out.next hbr)
      have HB := Lib.hid (HB0.out.trans (hbr.mono HB0.out.size))
      have HR := Lib.hid hbr
      have hsz := HB.out.size
      have hsz2 := hbr.size
      clear hbr
      by_cases hlt : i < f.ents.length
      · have hlt' : (i : Int) < f.ents.length := by omega
        obtain ⟨b, off, rfl, hpb, hra⟩ := ents_at (HE1.out.keep entE_ok HB.out.block (fun _ h => h)) hlt
        generalize f.ents[i] = x0 at *
        have HRA := Lib.hid hra
        have W3 := Lib.hid (HB.out.alloc hsz (entBox x0))
        have hx0 := heap_alloc_new wr (entBox x0)
        have HW3 : Hid (Below w2.heap.size w2 (wr.alloc (entBox x0))) := HR.out.alloc hsz2 (entBox x0)
        have hzw : (wr.alloc (entBox x0)).heap.size = wr.heap.size + 1 := by simp
        obtain ⟨⟨a0, a1, a2, a3, a4, a5⟩, b0, b1, b2, b3, b4, b5⟩ := HCE.out _ (BR.out.next ((Below.refl _ _).alloc (Nat.le_refl _) (entBox x0)))
        have HX0 := Lib.hid hx0
        clear hra hx0
        go_wp2_with (with_reducible refine gate ?_; refine wp_load_ent rfl _ rfl b (off + i * 5) rfl _ rfl HRA.out ?_)
        clear a0 a1 a2 a3 a4 a5 b0 b1 b2 b3 b4 b5
        have hbx : wr.heap.size < (wr.alloc (entBox x0)).heap.size := by omega
        clear hzw
        obtain ⟨bx, hbxe⟩ : ∃ n, wr.heap.size = n := ⟨_, rfl⟩
        rw [hbxe] at hbx HX0
        simp only [hbxe]
        obtain ⟨wo, hwo⟩ : ∃ x, wr.alloc (entBox x0) = x := ⟨_, rfl⟩
        rw [hwo] at W3 HW3 HX0 hbx
        simp only [hwo]
        clear hwo HB HR BR hsz hsz2 HRA hbxe
        go_loopw [28] (fun i28 wr => ∃ j : Nat, j ≤ g.ents.length ∧ i28 = .int .i64 j ∧ Below wo.heap.size wo wr) (fun i28 _ => g.ents.length - (intOf i28).toNat)
        case atStart => exact ⟨0, Nat.zero_le _, rfl, Below.refl _ _⟩
        case round =>
          obtain ⟨j, hj, rfl, hbo⟩ := hrel
          have HBO := Lib.hid hbo
          have hszo := hbo.size
          have HB := Lib.hid (W3.out.trans (hbo.mono W3.out.size))
          have hsz := HB.out.size
          clear hbo
          by_cases hlj : j < g.ents.length
          · have hlj' : (j : Int) < g.ents.length := by omega
            obtain ⟨b, off, rfl, hpb, hra⟩ := ents_at (HE2.out.keep entE_ok HB.out.block (fun _ h => h)) hlj
            generalize g.ents[j] = y0 at *
            have HRA := Lib.hid hra
            have hbw : bx < wr.heap.size := by omega
            have hc1 := fun W => cmpEntries_any x0 y0 W
            have hc2 := fun W => refCmpEntries_any x0 y0 W
            generalize cmpE x0 y0 = ce at *
            have HC1 := Lib.hid hc1
            have HC2 := Lib.hid hc2
            have W4 := Lib.hid (HBO.out.alloc hszo (entBox y0))
            have KX : Hid (∀ W, Below (wr.heap.size + 1) (wr.alloc (entBox y0)) W → (W.cell? ⟨bx, 0, none⟩ = some (.string (S x0.id)) ∧ W.cell? ⟨bx, 1, none⟩ = some (.string (S x0.title)) ∧ W.cell? ⟨bx, 2, none⟩ = some (.string (S x0.link)) ∧ W.cell? ⟨bx, 3, none⟩ = some (.string (S x0.content)) ∧ W.cell? ⟨bx, 4, none⟩ = some (.int .i64 x0.upd)) ∧ (W.cell? ⟨wr.heap.size, 0, none⟩ = some (.string (S y0.id)) ∧ W.cell? ⟨wr.heap.size, 1, none⟩ = some (.string (S y0.title)) ∧ W.cell? ⟨wr.heap.size, 2, none⟩ = some (.string (S y0.link)) ∧ W.cell? ⟨wr.heap.size, 3, none⟩ = some (.string (S y0.content)) ∧ W.cell? ⟨wr.heap.size, 4, none⟩ = some (.int .i64 y0.upd))) := fun W hW => ⟨cells5 ((hW.block bx (by omega)).trans ((Below.heap_alloc _ _ _ hbw).trans ((HBO.out.block bx hbx).trans HX0.out))), cells5 ((hW.block wr.heap.size (by omega)).trans (heap_alloc_new wr (entBox y0)))⟩
            have hz0 : (wr.alloc (entBox y0)).heap.size = wr.heap.size + 1 := by simp
            have HZ0 := Lib.hid hz0
            clear hc1 hc2 hra hz0
            go_wp2_with (with_reducible refine gate ?_; refine wp_load_ent rfl _ rfl b (off + j * 5) rfl _ rfl HRA.out ?_)
            go_cut [38] (fun s38 wx => s38 = .bool false ∧ Below (wr.heap.size + 1) (wr.alloc (entBox y0)) wx)
            case first =>
              go_region_held3 (fun x => (x.cell? ⟨bx, 0, none⟩ = some (.string (S x0.id)) ∧ x.cell? ⟨bx, 1, none⟩ = some (.string (S x0.title)) ∧ x.cell? ⟨bx, 2, none⟩ = some (.string (S x0.link)) ∧ x.cell? ⟨bx, 3, none⟩ = some (.string (S x0.content)) ∧ x.cell? ⟨bx, 4, none⟩ = some (.int .i64 x0.upd)) ∧ (x.cell? ⟨wr.heap.size, 0, none⟩ = some (.string (S y0.id)) ∧ x.cell? ⟨wr.heap.size, 1, none⟩ = some (.string (S y0.title)) ∧ x.cell? ⟨wr.heap.size, 2, none⟩ = some (.string (S y0.link)) ∧ x.cell? ⟨wr.heap.size, 3, none⟩ = some (.string (S y0.content)) ∧ x.cell? ⟨wr.heap.size, 4, none⟩ = some (.int .i64 y0.upd)))
                (first | exact KX.out _ r2 | exact KX.out _ r1 | exact KX.out _ (Below.refl _ _).drew)
                (first
                  | ((go_at_call 37; (with_reducible refine (HC1.out _).mono ?_); rintro x y2 ⟨rfl, hb⟩; have r2 := r1.trans (hb.mono z1); clear hb))
                  | ((go_at_call 45; (with_reducible refine (HC2.out _).mono ?_); rintro x y2 ⟨rfl, hb⟩; have r2 := r1.trans (hb.mono z1); clear hb))
                  | ((go_at_call 37; (with_reducible refine (HC1.out _).mono ?_); rintro x y1 ⟨rfl, hb⟩; have r1 := (Below.refl (wr.heap.size + 1) (wr.alloc (entBox y0))).drew.trans (hb.mono (by have := HZ0.out; simp)); have z1 : wr.heap.size + 1 ≤ y1.heap.size := (by have := r1.size; have := HZ0.out; omega); clear hb))
                  | ((go_at_call 45; (with_reducible refine (HC2.out _).mono ?_); rintro x y1 ⟨rfl, hb⟩; have r1 := (Below.refl (wr.heap.size + 1) (wr.alloc (entBox y0))).drew.trans (hb.mono (by have := HZ0.out; simp)); have z1 : wr.heap.size + 1 ≤ y1.heap.size := (by have := r1.size; have := HZ0.out; omega); clear hb)))
              all_goals
                go_wp2_with fail
                go_meet
                exact ⟨rfl, r2⟩
            case rest =>
              obtain ⟨rfl, hbc⟩ := hcut
              have HBC := Lib.hid (W4.out.trans (hbc.mono (by omega)))
              clear hbc
              go_wp2_with fail
              go_roundw
              case rel => exact ⟨j + 1, by omega, by go_num, HBC.out⟩
              case measure => simp [intOf]; omega
          · obtain rfl : j = g.ents.length := by omega
            have hlj' : ¬ ((g.ents.length : Int) < g.ents.length) := by omega
            go_wp2_with fail
            go_roundw
            case rel => exact ⟨i + 1, by omega, by go_num, HW3.out.trans (HBO.out.mono HW3.out.size)⟩
            case measure => simp [intOf]; omega
      · obtain rfl : i = f.ents.length := by omega
        have hlt' : ¬ ((f.ents.length : Int) < f.ents.length) := by omega
        have KEEP : Hid (∀ W, Below wr.heap.size wr W → (W.cell? ⟨w.heap.size, 0, none⟩ = some (.slice P1 f.path.length p1) ∧ W.cell? ⟨w.heap.size, 1, none⟩ = some (.string (S f.id)) ∧ W.cell? ⟨w.heap.size, 2, none⟩ = some (.string (S f.title)) ∧ W.cell? ⟨w.heap.size, 3, none⟩ = some (.string (S f.link)) ∧ W.cell? ⟨w.heap.size, 4, none⟩ = some (.int .i64 f.upd) ∧ W.cell? ⟨w.heap.size, 5, none⟩ = some (.slice E1 f.ents.length e1)) ∧ (W.cell? ⟨w.heap.size + 1, 0, none⟩ = some (.slice P2 g.path.length p2) ∧ W.cell? ⟨w.heap.size + 1, 1, none⟩ = some (.string (S g.id)) ∧ W.cell? ⟨w.heap.size + 1, 2, none⟩ = some (.string (S g.title)) ∧ W.cell? ⟨w.heap.size + 1, 3, none⟩ = some (.string (S g.link)) ∧ W.cell? ⟨w.heap.size + 1, 4, none⟩ = some (.int .i64 g.upd) ∧ W.cell? ⟨w.heap.size + 1, 5, none⟩ = some (.slice E2 g.ents.length e2))) := fun W hW => HCE.out _ (BR.out.next hW)
        obtain ⟨⟨a0, a1, a2, a3, a4, a5⟩, b0, b1, b2, b3, b4, b5⟩ := KEEP.out _ (Below.refl _ _)
        go_wp2_with fail
        go_cut [9, 10] (fun s9 s10 wx => ∃ a b p q, s9 = .pointer (some ⟨a, 0, none⟩) ∧ s10 = .pointer (some ⟨b, 0, none⟩) ∧ wx.heap[a]? = some (.cells #[.slice (some ⟨p, 0, none⟩) 1 1] 50) ∧ wx.heap[b]? = some (.cells #[.slice (some ⟨q, 0, none⟩) 1 1] 50) ∧ wx.heap[p]? = some (feeBox f P1 p1 E1 e1) ∧ wx.heap[q]? = some (feeBox g P2 p2 E2 e2) ∧ Below wr.heap.size wr wx)
        case first =>
          go_region_held3 (fun x => (x.cell? ⟨w.heap.size, 0, none⟩ = some (.slice P1 f.path.length p1) ∧ x.cell? ⟨w.heap.size, 1, none⟩ = some (.string (S f.id)) ∧ x.cell? ⟨w.heap.size, 2, none⟩ = some (.string (S f.title)) ∧ x.cell? ⟨w.heap.size, 3, none⟩ = some (.string (S f.link)) ∧ x.cell? ⟨w.heap.size, 4, none⟩ = some (.int .i64 f.upd) ∧ x.cell? ⟨w.heap.size, 5, none⟩ = some (.slice E1 f.ents.length e1)) ∧ (x.cell? ⟨w.heap.size + 1, 0, none⟩ = some (.slice P2 g.path.length p2) ∧ x.cell? ⟨w.heap.size + 1, 1, none⟩ = some (.string (S g.id)) ∧ x.cell? ⟨w.heap.size + 1, 2, none⟩ = some (.string (S g.title)) ∧ x.cell? ⟨w.heap.size + 1, 3, none⟩ = some (.string (S g.link)) ∧ x.cell? ⟨w.heap.size + 1, 4, none⟩ = some (.int .i64 g.upd) ∧ x.cell? ⟨w.heap.size + 1, 5, none⟩ = some (.slice E2 g.ents.length e2)))
            (first
              | exact KEEP.out _ (Below.refl _ _)
              | exact KEEP.out _ (Below.refl _ _).drew
              | exact KEEP.out _ ((Below.refl _ _).alloc (Nat.le_refl _) _)
              | exact KEEP.out _ ((Below.refl _ _).alloc (Nat.le_refl _) _).drew
              | exact KEEP.out _ ((Below.refl _ _).drew.alloc (Nat.le_refl _) _)
              | exact KEEP.out _ (((Below.refl _ _).alloc (Nat.le_refl _) _).alloc (by simp) _)
              | exact KEEP.out _ (((Below.refl _ _).alloc (Nat.le_refl _) _).alloc (by simp) _).drew
              | exact KEEP.out _ (((Below.refl _ _).drew.alloc (Nat.le_refl _) _).alloc (by simp) _)
              | exact KEEP.out _ ((((Below.refl _ _).alloc (Nat.le_refl _) _).alloc (by simp) _).alloc (by simp; omega) _)
              | exact KEEP.out _ ((((Below.refl _ _).alloc (Nat.le_refl _) _).alloc (by simp) _).alloc (by simp; omega) _).drew
              | exact KEEP.out _ ((((Below.refl _ _).drew.alloc (Nat.le_refl _) _).alloc (by simp) _).alloc (by simp; omega) _)
              | exact KEEP.out _ (((((Below.refl _ _).alloc (Nat.le_refl _) _).alloc (by simp) _).alloc (by simp; omega) _).alloc (by simp; omega) _)
              | exact KEEP.out _ (((((Below.refl _ _).alloc (Nat.le_refl _) _).alloc (by simp) _).alloc (by simp; omega) _).alloc (by simp; omega) _).drew
              | exact KEEP.out _ (((((Below.refl _ _).drew.alloc (Nat.le_refl _) _).alloc (by simp) _).alloc (by simp; omega) _).alloc (by simp; omega) _))
            (fail)
          all_goals
            go_wp2_with fail
            go_meet
            exact ⟨_, _, _, _, rfl, rfl, (by first | exact al4_0 _ _ _ _ _ | exact al4_1 _ _ _ _ _ | exact al4_2 _ _ _ _ _ | exact al4_3 _ _ _ _ _), (by first | exact al4_0 _ _ _ _ _ | exact al4_1 _ _ _ _ _ | exact al4_2 _ _ _ _ _ | exact al4_3 _ _ _ _ _), (by first | exact al4_0 _ _ _ _ _ | exact al4_1 _ _ _ _ _ | exact al4_2 _ _ _ _ _ | exact al4_3 _ _ _ _ _), (by first | exact al4_0 _ _ _ _ _ | exact al4_1 _ _ _ _ _ | exact al4_2 _ _ _ _ _ | exact al4_3 _ _ _ _ _), (by first | exact (al4_below _ _ _ _ _) | exact (al4_below _ _ _ _ _).drew)⟩
        case rest =>
          clear a0 a1 a2 a3 a4 a5 b0 b1 b2 b3 b4 b5
          obtain ⟨a, b, p, q, rfl, rfl, ha, hb, hp, hq, hbc⟩ := hcut
          have HC := Lib.hid (HB.out.trans (hbc.mono hsz))
          have hsc := HC.out.size
          have KE : Hid (∀ W, Below wc.heap.size wc W → (W.cell? ⟨w.heap.size, 0, none⟩ = some (.slice P1 f.path.length p1) ∧ W.cell? ⟨w.heap.size, 1, none⟩ = some (.string (S f.id)) ∧ W.cell? ⟨w.heap.size, 2, none⟩ = some (.string (S f.title)) ∧ W.cell? ⟨w.heap.size, 3, none⟩ = some (.string (S f.link)) ∧ W.cell? ⟨w.heap.size, 4, none⟩ = some (.int .i64 f.upd) ∧ W.cell? ⟨w.heap.size, 5, none⟩ = some (.slice E1 f.ents.length e1)) ∧ (W.cell? ⟨w.heap.size + 1, 0, none⟩ = some (.slice P2 g.path.length p2) ∧ W.cell? ⟨w.heap.size + 1, 1, none⟩ = some (.string (S g.id)) ∧ W.cell? ⟨w.heap.size + 1, 2, none⟩ = some (.string (S g.title)) ∧ W.cell? ⟨w.heap.size + 1, 3, none⟩ = some (.string (S g.link)) ∧ W.cell? ⟨w.heap.size + 1, 4, none⟩ = some (.int .i64 g.upd) ∧ W.cell? ⟨w.heap.size + 1, 5, none⟩ = some (.slice E2 g.ents.length e2)) ∧ (W.cell? ⟨a, 0, none⟩ = some (.slice (some ⟨p, 0, none⟩) 1 1) ∧ W.cell? ⟨b, 0, none⟩ = some (.slice (some ⟨q, 0, none⟩) 1 1))) := fun W hW => by
            have h1 := KEEP.out _ (hbc.trans (hW.mono hbc.size))
            have h2 := (hW.block a (heap_lt ha)).trans ha
            have h3 := (hW.block b (heap_lt hb)).trans hb
            exact ⟨h1.1, h1.2, by rw [Lib.cell_of_heap h2]; rfl, by rw [Lib.cell_of_heap h3]; rfl⟩
          have HQ1 := Lib.hid (fun W => fun (hW : Below wc.heap.size wc W) => HEQ1.out W (HC.out.trans (hW.mono hsc)) p q ((hW.block p (heap_lt hp)).trans hp) ((hW.block q (heap_lt hq)).trans hq))
          have HQ2 := Lib.hid (fun W => fun (hW : Below wc.heap.size wc W) => HEQ2.out W (HC.out.trans (hW.mono hsc)) p ((hW.block p (heap_lt hp)).trans hp))
          have HQ3 := Lib.hid (fun W => fun (hW : Below wc.heap.size wc W) => HEQ3.out W (HC.out.trans (hW.mono hsc)) p ((hW.block p (heap_lt hp)).trans hp))
          clear ha hb hp hq hbc HEQ1 HEQ2 HEQ3 KEEP HCE
          go_wp2_with fail
          refine wp_region_held_drew (S := fun x => (x.cell? ⟨w.heap.size, 0, none⟩ = some (.slice P1 f.path.length p1) ∧ x.cell? ⟨w.heap.size, 1, none⟩ = some (.string (S f.id)) ∧ x.cell? ⟨w.heap.size, 2, none⟩ = some (.string (S f.title)) ∧ x.cell? ⟨w.heap.size, 3, none⟩ = some (.string (S f.link)) ∧ x.cell? ⟨w.heap.size, 4, none⟩ = some (.int .i64 f.upd) ∧ x.cell? ⟨w.heap.size, 5, none⟩ = some (.slice E1 f.ents.length e1)) ∧ (x.cell? ⟨w.heap.size + 1, 0, none⟩ = some (.slice P2 g.path.length p2) ∧ x.cell? ⟨w.heap.size + 1, 1, none⟩ = some (.string (S g.id)) ∧ x.cell? ⟨w.heap.size + 1, 2, none⟩ = some (.string (S g.title)) ∧ x.cell? ⟨w.heap.size + 1, 3, none⟩ = some (.string (S g.link)) ∧ x.cell? ⟨w.heap.size + 1, 4, none⟩ = some (.int .i64 g.upd) ∧ x.cell? ⟨w.heap.size + 1, 5, none⟩ = some (.slice E2 g.ents.length e2)) ∧ (x.cell? ⟨a, 0, none⟩ = some (.slice (some ⟨p, 0, none⟩) 1 1) ∧ x.cell? ⟨b, 0, none⟩ = some (.slice (some ⟨q, 0, none⟩) 1 1))) (by kernel_rfl) ?_ (fun hHeld => ?_)
          · (try dsimp only); exact KE.out _ (Below.refl _ _).drew
          refine wpAnyH_ready (rs := [0]) (by kernel_rfl) (by simp) ?_
          refine AllReadyH.cons (o := (⟨some 47, _, _, _, _, _⟩ : Oper)) rfl (fun K hK => ?_) ?_
          rotate_left
          · exact AllReadyH.nil
          go_simp
          (go_at_call 27; (with_reducible refine (HAL.out _ HC.out.drew).mono ?_); rintro x W ⟨rfl, hb⟩; have R := Lib.hid ((Below.refl wc.heap.size wc).drew.trans hb); have hz : wc.heap.size ≤ W.heap.size := R.out.size; clear hb)
          refine hK.out _ _ ?_ (fun hHeld => ?_)
          · (try dsimp only); exact KE.out _ R.out
          clear hK K
          try simp only [Act.put, List.setIfInBounds_toArray, List.set_cons_zero, List.set_cons_succ]
          refine wpAnyH_take (i := 1) (oi := (⟨some 48, _, _, _, _, _⟩ : Oper)) (v := ?_) rfl (by kernel_rfl) (by kernel_rfl) (by kernel_rfl) (fun _ _ _ h => h) (Or.inl ⟨by rfl, ?_⟩) (by assumption) ?_
          rotate_left
          · intro wS hSw; (try dsimp only at hSw); go_simp <;> with_reducible rfl
          simp only [Act.put, List.setIfInBounds_toArray, List.set_cons_zero, List.set_cons_succ]
          refine wpAnyH_take (i := 2) (oi := (⟨some 49, _, _, _, _, _⟩ : Oper)) (v := ?_) rfl (by kernel_rfl) (by kernel_rfl) (by kernel_rfl) (fun _ _ _ h => h) (Or.inl ⟨by rfl, ?_⟩) (by assumption) ?_
          rotate_left
          · intro wS hSw; (try dsimp only at hSw); go_simp <;> with_reducible rfl
          simp only [Act.put, List.setIfInBounds_toArray, List.set_cons_zero, List.set_cons_succ]
          refine wpAnyH_take (i := 3) (oi := (⟨some 50, _, _, _, _, _⟩ : Oper)) (v := ?_) rfl (by kernel_rfl) (by kernel_rfl) (by kernel_rfl) (fun _ _ _ h => h) (Or.inl ⟨by rfl, ?_⟩) (by assumption) ?_
          rotate_left
          · intro wS hSw; (try dsimp only at hSw); go_simp <;> with_reducible rfl
          simp only [Act.put, List.setIfInBounds_toArray, List.set_cons_zero, List.set_cons_succ]
          refine wpAnyH_take (i := 4) (oi := (⟨some 51, _, _, _, _, _⟩ : Oper)) (v := ?_) rfl (by kernel_rfl) (by kernel_rfl) (by kernel_rfl) (fun _ _ _ h => h) (Or.inl ⟨by rfl, ?_⟩) (by assumption) ?_
          rotate_left
          · intro wS hSw; (try dsimp only at hSw); go_simp <;> with_reducible rfl
          simp only [Act.put, List.setIfInBounds_toArray, List.set_cons_zero, List.set_cons_succ]
          refine wpAnyH_take (i := 5) (oi := (⟨some 52, _, _, _, _, _⟩ : Oper)) (v := ?_) rfl (by kernel_rfl) (by kernel_rfl) (by kernel_rfl) (fun _ _ _ h => h) (Or.inl ⟨by rfl, ?_⟩) (by assumption) ?_
          rotate_left
          · intro wS hSw; (try dsimp only at hSw); go_simp <;> with_reducible rfl
          simp only [Act.put, List.setIfInBounds_toArray, List.set_cons_zero, List.set_cons_succ]
          refine wpAnyH_take (i := 7) (oi := (⟨some 54, _, _, _, _, _⟩ : Oper)) (v := ?_) rfl (by kernel_rfl) (by kernel_rfl) (by kernel_rfl) (fun _ _ _ h => h) (Or.inl ⟨by rfl, ?_⟩) (by assumption) ?_
          rotate_left
          · intro wS hSw; (try dsimp only at hSw); go_simp <;> with_reducible rfl
          simp only [Act.put, List.setIfInBounds_toArray, List.set_cons_zero, List.set_cons_succ]
          refine wpAnyH_take (i := 8) (oi := (⟨some 55, _, _, _, _, _⟩ : Oper)) (v := ?_) rfl (by kernel_rfl) (by kernel_rfl) (by kernel_rfl) (fun _ _ _ h => h) (Or.inl ⟨by rfl, ?_⟩) (by assumption) ?_
          rotate_left
          · intro wS hSw; (try dsimp only at hSw); go_simp <;> with_reducible rfl
          simp only [Act.put, List.setIfInBounds_toArray, List.set_cons_zero, List.set_cons_succ]
          refine wpAnyH_take (i := 9) (oi := (⟨some 56, _, _, _, _, _⟩ : Oper)) (v := ?_) rfl (by kernel_rfl) (by kernel_rfl) (by kernel_rfl) (fun _ _ _ h => h) (Or.inl ⟨by rfl, ?_⟩) (by assumption) ?_
          rotate_left
          · intro wS hSw; (try dsimp only at hSw); go_simp <;> with_reducible rfl
          simp only [Act.put, List.setIfInBounds_toArray, List.set_cons_zero, List.set_cons_succ]
          refine wpAnyH_take (i := 10) (oi := (⟨some 57, _, _, _, _, _⟩ : Oper)) (v := ?_) rfl (by kernel_rfl) (by kernel_rfl) (by kernel_rfl) (fun _ _ _ h => h) (Or.inl ⟨by rfl, ?_⟩) (by assumption) ?_
          rotate_left
          · intro wS hSw; (try dsimp only at hSw); go_simp <;> with_reducible rfl
          simp only [Act.put, List.setIfInBounds_toArray, List.set_cons_zero, List.set_cons_succ]
          refine wpAnyH_ready (rs := [6]) (by kernel_rfl) (by simp) ?_
          refine AllReadyH.cons (o := (⟨some 53, _, _, _, _, _⟩ : Oper)) rfl (fun K hK => ?_) ?_
          rotate_left
          · exact AllReadyH.nil
          go_simp
          (go_at_call 36; (with_reducible refine (HP.out _ (HC.out.trans (R.out.mono hsc))).mono ?_); rintro x W ⟨rfl, rfl⟩)
          refine hK.out _ _ ?_ (fun hHeld => ?_)
          · (try dsimp only); exact KE.out _ R.out
          clear hK K
          try simp only [Act.put, List.setIfInBounds_toArray, List.set_cons_zero, List.set_cons_succ]
          refine wpAnyH_ready (rs := [11]) (by kernel_rfl) (by simp) ?_
          refine AllReadyH.cons (o := (⟨some 58, _, _, _, _, _⟩ : Oper)) rfl (fun K hK => ?_) ?_
          rotate_left
          · exact AllReadyH.nil
          go_simp
          (go_at_call 46; (with_reducible refine (HPR.out _ (HC.out.trans (R.out.mono hsc))).mono ?_); rintro x W ⟨rfl, hb⟩; have R := Lib.hid (R.out.trans (hb.mono hz)); have hz : wc.heap.size ≤ W.heap.size := R.out.size; clear hb)
          refine hK.out _ _ ?_ (fun hHeld => ?_)
          · (try dsimp only); exact KE.out _ R.out
          clear hK K
          try simp only [Act.put, List.setIfInBounds_toArray, List.set_cons_zero, List.set_cons_succ]
          refine wpAnyH_take (i := 12) (oi := (⟨some 59, _, _, _, _, _⟩ : Oper)) (v := ?_) rfl (by kernel_rfl) (by kernel_rfl) (by kernel_rfl) (fun _ _ _ h => h) (Or.inl ⟨by rfl, ?_⟩) (by assumption) ?_
          rotate_left
          · intro wS hSw; (try dsimp only at hSw); go_simp <;> with_reducible rfl
          simp only [Act.put, List.setIfInBounds_toArray, List.set_cons_zero, List.set_cons_succ]
          refine wpAnyH_take (i := 13) (oi := (⟨some 60, _, _, _, _, _⟩ : Oper)) (v := ?_) rfl (by kernel_rfl) (by kernel_rfl) (by kernel_rfl) (fun _ _ _ h => h) (Or.inl ⟨by rfl, ?_⟩) (by assumption) ?_
          rotate_left
          · intro wS hSw; (try dsimp only at hSw); go_simp <;> with_reducible rfl
          simp only [Act.put, List.setIfInBounds_toArray, List.set_cons_zero, List.set_cons_succ]
          refine wpAnyH_take (i := 14) (oi := (⟨some 61, _, _, _, _, _⟩ : Oper)) (v := ?_) rfl (by kernel_rfl) (by kernel_rfl) (by kernel_rfl) (fun _ _ _ h => h) (Or.inl ⟨by rfl, ?_⟩) (by assumption) ?_
          rotate_left
          · intro wS hSw; (try dsimp only at hSw); go_simp <;> with_reducible rfl
          simp only [Act.put, List.setIfInBounds_toArray, List.set_cons_zero, List.set_cons_succ]
          refine wpAnyH_take (i := 15) (oi := (⟨some 62, _, _, _, _, _⟩ : Oper)) (v := ?_) rfl (by kernel_rfl) (by kernel_rfl) (by kernel_rfl) (fun _ _ _ h => h) (Or.inl ⟨by rfl, ?_⟩) (by assumption) ?_
          rotate_left
          · intro wS hSw; (try dsimp only at hSw); go_simp <;> with_reducible rfl
          simp only [Act.put, List.setIfInBounds_toArray, List.set_cons_zero, List.set_cons_succ]
          refine wpAnyH_take (i := 16) (oi := (⟨some 63, _, _, _, _, _⟩ : Oper)) (v := ?_) rfl (by kernel_rfl) (by kernel_rfl) (by kernel_rfl) (fun _ _ _ h => h) (Or.inl ⟨by rfl, ?_⟩) (by assumption) ?_
          rotate_left
          · intro wS hSw; (try dsimp only at hSw); go_simp <;> with_reducible rfl
          simp only [Act.put, List.setIfInBounds_toArray, List.set_cons_zero, List.set_cons_succ]
          refine wpAnyH_take (i := 18) (oi := (⟨some 65, _, _, _, _, _⟩ : Oper)) (v := ?_) rfl (by kernel_rfl) (by kernel_rfl) (by kernel_rfl) (fun _ _ _ h => h) (Or.inl ⟨by rfl, ?_⟩) (by assumption) ?_
          rotate_left
          · intro wS hSw; (try dsimp only at hSw); go_simp <;> with_reducible rfl
          simp only [Act.put, List.setIfInBounds_toArray, List.set_cons_zero, List.set_cons_succ]
          refine wpAnyH_take (i := 19) (oi := (⟨some 66, _, _, _, _, _⟩ : Oper)) (v := ?_) rfl (by kernel_rfl) (by kernel_rfl) (by kernel_rfl) (fun _ _ _ h => h) (Or.inl ⟨by rfl, ?_⟩) (by assumption) ?_
          rotate_left
          · intro wS hSw; (try dsimp only at hSw); go_simp <;> with_reducible rfl
          simp only [Act.put, List.setIfInBounds_toArray, List.set_cons_zero, List.set_cons_succ]
          refine wpAnyH_ready (rs := [17]) (by kernel_rfl) (by simp) ?_
          refine AllReadyH.cons (o := (⟨some 64, _, _, _, _, _⟩ : Oper)) rfl (fun K hK => ?_) ?_
          rotate_left
          · exact AllReadyH.nil
          go_simp
          (go_at_call 35; (with_reducible refine (HF.out _ (HC.out.trans (R.out.mono hsc))).mono ?_); rintro x W ⟨rfl, hb⟩; have R := Lib.hid (R.out.trans (hb.mono hz)); have hz : wc.heap.size ≤ W.heap.size := R.out.size; clear hb)
          refine hK.out _ _ ?_ (fun hHeld => ?_)
          · (try dsimp only); exact KE.out _ R.out
          clear hK K
          try simp only [Act.put, List.setIfInBounds_toArray, List.set_cons_zero, List.set_cons_succ]
          refine wpAnyH_ready (rs := [20]) (by kernel_rfl) (by simp) ?_
          refine AllReadyH.cons (o := (⟨some 67, _, _, _, _, _⟩ : Oper)) rfl (fun K hK => ?_) ?_
          rotate_left
          · exact AllReadyH.nil
          go_simp
          (go_at_call 47; (with_reducible refine (HFR.out _ (HC.out.trans (R.out.mono hsc))).mono ?_); rintro x W ⟨rfl, hb⟩; have R := Lib.hid (R.out.trans (hb.mono hz)); have hz : wc.heap.size ≤ W.heap.size := R.out.size; clear hb)
          refine hK.out _ _ ?_ (fun hHeld => ?_)
          · (try dsimp only); exact KE.out _ R.out
          clear hK K
          try simp only [Act.put, List.setIfInBounds_toArray, List.set_cons_zero, List.set_cons_succ]
          refine wpAnyH_take (i := 21) (oi := (⟨some 68, _, _, _, _, _⟩ : Oper)) (v := ?_) rfl (by kernel_rfl) (by kernel_rfl) (by kernel_rfl) (fun _ _ _ h => h) (Or.inl ⟨by rfl, ?_⟩) (by assumption) ?_
          rotate_left
          · intro wS hSw; (try dsimp only at hSw); go_simp <;> with_reducible rfl
          simp only [Act.put, List.setIfInBounds_toArray, List.set_cons_zero, List.set_cons_succ]
          refine wpAnyH_take (i := 22) (oi := (⟨some 69, _, _, _, _, _⟩ : Oper)) (v := ?_) rfl (by kernel_rfl) (by kernel_rfl) (by kernel_rfl) (fun _ _ _ h => h) (Or.inl ⟨by rfl, ?_⟩) (by assumption) ?_
          rotate_left
          · intro wS hSw; (try dsimp only at hSw); go_simp <;> with_reducible rfl
          simp only [Act.put, List.setIfInBounds_toArray, List.set_cons_zero, List.set_cons_succ]
          refine wpAnyH_take (i := 23) (oi := (⟨some 70, _, _, _, _, _⟩ : Oper)) (v := ?_) rfl (by kernel_rfl) (by kernel_rfl) (by kernel_rfl) (fun _ _ _ h => h) (Or.inl ⟨by rfl, ?_⟩) (by assumption) ?_
          rotate_left
          · intro wS hSw; (try dsimp only at hSw); go_simp <;> with_reducible rfl
          simp only [Act.put, List.setIfInBounds_toArray, List.set_cons_zero, List.set_cons_succ]
          refine wpAnyH_take (i := 24) (oi := (⟨some 71, _, _, _, _, _⟩ : Oper)) (v := ?_) rfl (by kernel_rfl) (by kernel_rfl) (by kernel_rfl) (fun _ _ _ h => h) (Or.inl ⟨by rfl, ?_⟩) (by assumption) ?_
          rotate_left
          · intro wS hSw; (try dsimp only at hSw); go_simp <;> with_reducible rfl
          simp only [Act.put, List.setIfInBounds_toArray, List.set_cons_zero, List.set_cons_succ]
          refine wpAnyH_take (i := 25) (oi := (⟨some 72, _, _, _, _, _⟩ : Oper)) (v := ?_) rfl (by kernel_rfl) (by kernel_rfl) (by kernel_rfl) (fun _ _ _ h => h) (Or.inl ⟨by rfl, ?_⟩) (by assumption) ?_
          rotate_left
          · intro wS hSw; (try dsimp only at hSw); go_simp <;> with_reducible rfl
          simp only [Act.put, List.setIfInBounds_toArray, List.set_cons_zero, List.set_cons_succ]
          refine wpAnyH_take (i := 27) (oi := (⟨some 74, _, _, _, _, _⟩ : Oper)) (v := ?_) rfl (by kernel_rfl) (by kernel_rfl) (by kernel_rfl) (fun _ _ _ h => h) (Or.inl ⟨by rfl, ?_⟩) (by assumption) ?_
          rotate_left
          · intro wS hSw; (try dsimp only at hSw); go_simp <;> with_reducible rfl
          simp only [Act.put, List.setIfInBounds_toArray, List.set_cons_zero, List.set_cons_succ]
          refine wpAnyH_take (i := 28) (oi := (⟨some 75, _, _, _, _, _⟩ : Oper)) (v := ?_) rfl (by kernel_rfl) (by kernel_rfl) (by kernel_rfl) (fun _ _ _ h => h) (Or.inl ⟨by rfl, ?_⟩) (by assumption) ?_
          rotate_left
          · intro wS hSw; (try dsimp only at hSw); go_simp <;> with_reducible rfl
          simp only [Act.put, List.setIfInBounds_toArray, List.set_cons_zero, List.set_cons_succ]
          refine wpAnyH_ready (rs := [26]) (by kernel_rfl) (by simp) ?_
          refine AllReadyH.cons (o := (⟨some 73, _, _, _, _, _⟩ : Oper)) rfl (fun K hK => ?_) ?_
          rotate_left
          · exact AllReadyH.nil
          go_simp
          (go_at_call 48; (with_reducible refine (HQ1.out _ R.out).mono ?_); rintro x W ⟨rfl, hb⟩; have R := Lib.hid (R.out.trans (hb.mono hz)); have hz : wc.heap.size ≤ W.heap.size := R.out.size; clear hb)
          refine hK.out _ _ ?_ (fun hHeld => ?_)
          · (try dsimp only); exact KE.out _ R.out
          clear hK K
          try simp only [Act.put, List.setIfInBounds_toArray, List.set_cons_zero, List.set_cons_succ]
          refine wpAnyH_ready (rs := [29]) (by kernel_rfl) (by simp) ?_
          refine AllReadyH.cons (o := (⟨some 76, _, _, _, _, _⟩ : Oper)) rfl (fun K hK => ?_) ?_
          rotate_left
          · exact AllReadyH.nil
          go_simp
          (go_at_call 49; (with_reducible refine (HSR.out _ (HC.out.trans (R.out.mono hsc))).mono ?_); rintro x W ⟨rfl, hb⟩; have R := Lib.hid (R.out.trans (hb.mono hz)); have hz : wc.heap.size ≤ W.heap.size := R.out.size; clear hb)
          refine hK.out _ _ ?_ (fun hHeld => ?_)
          · (try dsimp only); exact KE.out _ R.out
          clear hK K
          try simp only [Act.put, List.setIfInBounds_toArray, List.set_cons_zero, List.set_cons_succ]
          refine wpAnyH_take (i := 30) (oi := (⟨some 77, _, _, _, _, _⟩ : Oper)) (v := ?_) rfl (by kernel_rfl) (by kernel_rfl) (by kernel_rfl) (fun _ _ _ h => h) (Or.inl ⟨by rfl, ?_⟩) (by assumption) ?_
          rotate_left
          · intro wS hSw; (try dsimp only at hSw); go_simp <;> with_reducible rfl
          simp only [Act.put, List.setIfInBounds_toArray, List.set_cons_zero, List.set_cons_succ]
          refine wpAnyH_take (i := 31) (oi := (⟨some 78, _, _, _, _, _⟩ : Oper)) (v := ?_) rfl (by kernel_rfl) (by kernel_rfl) (by kernel_rfl) (fun _ _ _ h => h) (Or.inl ⟨by rfl, ?_⟩) (by assumption) ?_
          rotate_left
          · intro wS hSw; (try dsimp only at hSw); go_simp <;> with_reducible rfl
          simp only [Act.put, List.setIfInBounds_toArray, List.set_cons_zero, List.set_cons_succ]
          refine wpAnyH_take (i := 32) (oi := (⟨some 79, _, _, _, _, _⟩ : Oper)) (v := ?_) rfl (by kernel_rfl) (by kernel_rfl) (by kernel_rfl) (fun _ _ _ h => h) (Or.inl ⟨by rfl, ?_⟩) (by assumption) ?_
          rotate_left
          · intro wS hSw; (try dsimp only at hSw); go_simp <;> with_reducible rfl
          simp only [Act.put, List.setIfInBounds_toArray, List.set_cons_zero, List.set_cons_succ]
          refine wpAnyH_take (i := 33) (oi := (⟨some 80, _, _, _, _, _⟩ : Oper)) (v := ?_) rfl (by kernel_rfl) (by kernel_rfl) (by kernel_rfl) (fun _ _ _ h => h) (Or.inl ⟨by rfl, ?_⟩) (by assumption) ?_
          rotate_left
          · intro wS hSw; (try dsimp only at hSw); go_simp <;> with_reducible rfl
          simp only [Act.put, List.setIfInBounds_toArray, List.set_cons_zero, List.set_cons_succ]
          refine wpAnyH_take (i := 34) (oi := (⟨some 81, _, _, _, _, _⟩ : Oper)) (v := ?_) rfl (by kernel_rfl) (by kernel_rfl) (by kernel_rfl) (fun _ _ _ h => h) (Or.inl ⟨by rfl, ?_⟩) (by assumption) ?_
          rotate_left
          · intro wS hSw; (try dsimp only at hSw); go_simp <;> with_reducible rfl
          simp only [Act.put, List.setIfInBounds_toArray, List.set_cons_zero, List.set_cons_succ]
          refine wpAnyH_ready (rs := [35]) (by kernel_rfl) (by simp) ?_
          refine AllReadyH.cons (o := (⟨some 82, _, _, _, _, _⟩ : Oper)) rfl (fun K hK => ?_) ?_
          rotate_left
          · exact AllReadyH.nil
          go_simp
          (go_at_call 48; (with_reducible refine (HQ2.out _ R.out).mono ?_); rintro x W ⟨rfl, hb⟩; have R := Lib.hid (R.out.trans (hb.mono hz)); have hz : wc.heap.size ≤ W.heap.size := R.out.size; clear hb)
          refine hK.out _ _ ?_ (fun hHeld => ?_)
          · (try dsimp only); exact KE.out _ R.out
          clear hK K
          try simp only [Act.put, List.setIfInBounds_toArray, List.set_cons_zero, List.set_cons_succ]
          refine wpAnyH_take (i := 36) (oi := (⟨some 83, _, _, _, _, _⟩ : Oper)) (v := ?_) rfl (by kernel_rfl) (by kernel_rfl) (by kernel_rfl) (fun _ _ _ h => h) (Or.inl ⟨by rfl, ?_⟩) (by assumption) ?_
          rotate_left
          · intro wS hSw; (try dsimp only at hSw); go_simp <;> with_reducible rfl
          simp only [Act.put, List.setIfInBounds_toArray, List.set_cons_zero, List.set_cons_succ]
          refine wpAnyH_take (i := 37) (oi := (⟨some 84, _, _, _, _, _⟩ : Oper)) (v := ?_) rfl (by kernel_rfl) (by kernel_rfl) (by kernel_rfl) (fun _ _ _ h => h) (Or.inl ⟨by rfl, ?_⟩) (by assumption) ?_
          rotate_left
          · intro wS hSw; (try dsimp only at hSw); go_simp <;> with_reducible rfl
          simp only [Act.put, List.setIfInBounds_toArray, List.set_cons_zero, List.set_cons_succ]
          refine wpAnyH_take (i := 38) (oi := (⟨some 85, _, _, _, _, _⟩ : Oper)) (v := ?_) rfl (by kernel_rfl) (by kernel_rfl) (by kernel_rfl) (fun _ _ _ h => h) (Or.inl ⟨by rfl, ?_⟩) (by assumption) ?_
          rotate_left
          · intro wS hSw; (try dsimp only at hSw); go_simp <;> with_reducible rfl
          simp only [Act.put, List.setIfInBounds_toArray, List.set_cons_zero, List.set_cons_succ]
          refine wpAnyH_take (i := 39) (oi := (⟨some 86, _, _, _, _, _⟩ : Oper)) (v := ?_) rfl (by kernel_rfl) (by kernel_rfl) (by kernel_rfl) (fun _ _ _ h => h) (Or.inl ⟨by rfl, ?_⟩) (by assumption) ?_
          rotate_left
          · intro wS hSw; (try dsimp only at hSw); go_simp <;> with_reducible rfl
          simp only [Act.put, List.setIfInBounds_toArray, List.set_cons_zero, List.set_cons_succ]
          refine wpAnyH_ready (rs := [40]) (by kernel_rfl) (by simp) ?_
          refine AllReadyH.cons (o := (⟨some 87, _, _, _, _, _⟩ : Oper)) rfl (fun K hK => ?_) ?_
          rotate_left
          · exact AllReadyH.nil
          go_simp
          (go_at_call 48; (with_reducible refine (HQ3.out _ R.out).mono ?_); rintro x W ⟨rfl, hb⟩; have R := Lib.hid (R.out.trans (hb.mono hz)); have hz : wc.heap.size ≤ W.heap.size := R.out.size; clear hb)
          refine hK.out _ _ ?_ (fun hHeld => ?_)
          · (try dsimp only); exact KE.out _ R.out
          clear hK K
          try simp only [Act.put, List.setIfInBounds_toArray, List.set_cons_zero, List.set_cons_succ]
          refine wpAnyH_take (i := 41) (oi := (⟨some 88, _, _, _, _, _⟩ : Oper)) (v := ?_) rfl (by kernel_rfl) (by kernel_rfl) (by kernel_rfl) (fun _ _ _ h => h) (Or.inl ⟨by rfl, ?_⟩) (by assumption) ?_
          rotate_left
          · intro wS hSw; (try dsimp only at hSw); go_simp <;> with_reducible rfl
          simp only [Act.put, List.setIfInBounds_toArray, List.set_cons_zero, List.set_cons_succ]
          refine wpAnyH_take (i := 42) (oi := (⟨some 89, _, _, _, _, _⟩ : Oper)) (v := ?_) rfl (by kernel_rfl) (by kernel_rfl) (by kernel_rfl) (fun _ _ _ h => h) (Or.inl ⟨by rfl, ?_⟩) (by assumption) ?_
          rotate_left
          · intro wS hSw; (try dsimp only at hSw); go_simp <;> with_reducible rfl
          simp only [Act.put, List.setIfInBounds_toArray, List.set_cons_zero, List.set_cons_succ]
          refine wpAnyH_take (i := 43) (oi := (⟨some 4, _, _, _, _, _⟩ : Oper)) (v := ?_) rfl (by kernel_rfl) (by kernel_rfl) (by kernel_rfl) (fun _ _ _ h => h) (Or.inl ⟨by rfl, ?_⟩) (by assumption) ?_
          rotate_left
          · intro wS hSw; (try dsimp only at hSw); go_simp <;> with_reducible rfl
          simp only [Act.put, List.setIfInBounds_toArray, List.set_cons_zero, List.set_cons_succ]
          refine wpAnyH_done (by kernel_rfl) ?_ _
          go_wp2_with fail
          go_ret
          exact ⟨rfl, HC.out.trans (R.out.mono hsc)⟩
end Go.Proofs.YtadkgjbidhfefaaDoor
