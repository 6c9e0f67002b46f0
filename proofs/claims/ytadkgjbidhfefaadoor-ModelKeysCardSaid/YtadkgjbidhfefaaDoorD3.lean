/-
  Several texts in one file, in build order:
  - Walks of chapter 13's statements: is a feed too large to be tested?
  - Chapter 13: three parameters in memory. No function of the program.
  - Chapter 13's statements: the examples of the chapter.
  - Chapter 13: entries compared by ==.
  - Walks of chapter 13: FeedKey, of the program and of the reference.
  - Walks of chapter 13: FeedKey (the program).
  - Walks of chapter 13's statements: the keys.
-/
import Derived.Test.YtadkgjbidhfefaaDoorD2
import Derived.Test.YtadkgjbidhfefaaDoorJcon
import Derived.Test.YtadkgjbidhfefaaDoorEnt13
import Derived.Test.YtadkgjbidhfefaaDoorRchA13
import Derived.Test.YtadkgjbidhfefaaDoorLat13
import Derived.Laws.StructEq
import Derived.Test.YtadkgjbidhfefaaDoorKeyR13b
import Derived.Test.YtadkgjbidhfefaaDoorChkF13
import Derived.Deep.DeepCutAuto
set_option linter.unusedVariables false
namespace Go.Proofs.YtadkgjbidhfefaaDoor
open Go.RowKit

set_option maxHeartbeats 2000000 in
set_option maxRecDepth 100000 in
theorem large13_any (f : Fe) (u : Value) (w : World) (hu : FeeV w (· < w.heap.size) f u) (hf : FLen f) :
    Calls Tryd.prog 34 #[u] w fun x w' => x = .returned (.bool (wtF 0 [f])) ∧ Below w.heap.size w w' := by
  obtain ⟨cs, rfl, hp⟩ := hu
  obtain ⟨PA, pc, EA, ec, rfl, hpp, hee, h3, h4⟩ := id hp
  have hA0 : Below w.heap.size w (w.alloc (feeBox f PA pc EA ec)) := (Below.refl _ _).alloc (Nat.le_refl _) _
  have hp1 : FeeP (w.alloc (feeBox f PA pc EA ec)) (· < w.heap.size) f _ := hp.keep hA0.block (fun _ h => h)
  have hrow := els_one feeE_ok (w := w.alloc (feeBox f PA pc EA ec)) (p := (· < w.heap.size)) (x := f) hp1 (fun k hk => by have h1 : k < w.heap.size := hk; simp; omega) (· < ((w.alloc (feeBox f PA pc EA ec)).alloc (feeBox f PA pc EA ec)).heap.size) (fun k hk => by have h1 : k < w.heap.size := hk; simp; omega) (by simp)
  have hz : (w.alloc (feeBox f PA pc EA ec)).heap.size = w.heap.size + 1 := by simp
  rw [hz] at hrow
  have htl := tooLarge13_any [f] _ ((w.alloc (feeBox f PA pc EA ec)).alloc (feeBox f PA pc EA ec)) hrow (by simp) (fun x hx => by rw [List.mem_singleton.1 hx]; exact hf)
  have k := cells6 (heap_alloc_new w (feeBox f PA pc EA ec))
  obtain ⟨k0, k1, k2, k3, k4, k5⟩ := k
  have HA0 := Lib.hid hA0
  cases hq : wtF 0 [f] with
  | true =>
    rw [hq] at htl
    simp only [if_true] at htl
    have HTL := Lib.hid htl
    clear htl hq hrow hp hp1 hpp hee hz hA0
    go_enter Tryd.func34, Tryd.ntmps34
    go_wp2_with (go_at_call 26; refine HTL.out.mono ?_; rintro x w1 ⟨rfl, hb1⟩)
    go_ret
    exact ⟨rfl, (HA0.out.alloc (by simp) _).trans (hb1.mono (by simp; omega))⟩
  | false =>
    rw [hq] at htl
    simp only [Bool.false_eq_true, if_false] at htl
    have HTL := Lib.hid htl
    clear htl hq hrow hp hp1 hpp hee hz hA0
    go_enter Tryd.func34, Tryd.ntmps34
    go_wp2_with (go_at_call 26; refine HTL.out.mono ?_; rintro x w1 ⟨rfl, hb1⟩)
    go_ret
    exact ⟨rfl, (HA0.out.alloc (by simp) _).trans (hb1.mono (by simp; omega))⟩
end Go.Proofs.YtadkgjbidhfefaaDoor
set_option linter.unusedVariables false
namespace Go.Proofs.YtadkgjbidhfefaaDoor
open Go.RowKit

/-- Three parameters. -/
structure Box3F (w : World) (B : Nat) (x y z : Obj) : Prop where
  one : w.heap[B]? = some x
  two : w.heap[B + 1]? = some y
  thr : w.heap[B + 1 + 1]? = some z
theorem Box3F.new (w : World) (x y z : Obj) : Box3F (((w.alloc x).alloc y).alloc z) w.heap.size x y z := by
  refine ⟨?_, ?_, ?_⟩
  · exact (Below.heap_alloc _ _ _ (by simp; omega)).trans ((Below.heap_alloc _ _ _ (by simp)).trans (heap_alloc_new w _))
  · refine (Below.heap_alloc _ _ _ (by simp)).trans ?_
    have := heap_alloc_new (w.alloc x) y
    simpa using this
  · have := heap_alloc_new ((w.alloc x).alloc y) z
    simpa using this
theorem Box3F.next {w w' : World} {B : Nat} {x y z : Obj} (h : Box3F w B x y z) (hb : Below w.heap.size w w') : Box3F w' B x y z :=
  ⟨(hb.block _ (heap_lt h.one)).trans h.one, (hb.block _ (heap_lt h.two)).trans h.two, (hb.block _ (heap_lt h.thr)).trans h.thr⟩
end Go.Proofs.YtadkgjbidhfefaaDoor
set_option linter.unusedVariables false
namespace Go.Proofs.YtadkgjbidhfefaaDoor
open Go.RowKit

theorem h2a (W : World) (A B : Obj) (n : Nat) (hn : W.heap.size = n) : ((W.alloc A).alloc B).heap[n]? = some A := by
  subst hn; exact (Below.heap_alloc _ _ _ (by simp)).trans (heap_alloc_new W A)
theorem h2b (W : World) (A B : Obj) (n : Nat) (hn : W.heap.size + 1 = n) : ((W.alloc A).alloc B).heap[n]? = some B := by
  subst hn; have := heap_alloc_new (W.alloc A) B; simpa using this
theorem els_one13 {W : World} {b : Nat} {s0 : Bytes} (hb : W.heap[b]? = some (.cells #[.string (S s0)] 9)) : ElsP strE W (· < W.heap.size) (.slice (some ⟨b, 0, none⟩) 1 1) [s0] :=
  ⟨_, 1, rfl, Nat.le_refl _, .inr ⟨b, 0, rfl, heap_lt hb, fun i a hi => ⟨_, rfl, fun j v hj => by
    match j, hj with
    | 0, hj =>
      simp at hj; subst hj
      rw [Lib.cell_of_heap hb]
      match i, hi with
      | 0, hi => simp at hi; subst hi; rfl
      | i + 1, hi => simp at hi
    | j + 1, hj => simp at hj⟩⟩⟩
theorem els_two13 {W : World} {b : Nat} {s0 s1 : Bytes} (hb : W.heap[b]? = some (.cells #[.string (S s0), .string (S s1)] 9)) : ElsP strE W (· < W.heap.size) (.slice (some ⟨b, 0, none⟩) 2 2) [s0, s1] :=
  ⟨_, 2, rfl, Nat.le_refl _, .inr ⟨b, 0, rfl, heap_lt hb, fun i a hi => ⟨_, rfl, fun j v hj => by
    match j, hj with
    | 0, hj =>
      simp at hj; subst hj
      rw [Lib.cell_of_heap hb]
      match i, hi with
      | 0, hi => simp at hi; subst hi; rfl
      | 1, hi => simp at hi; subst hi; rfl
      | i + 2, hi => simp at hi
    | j + 1, hj => simp at hj⟩⟩⟩
def xE : En := ⟨[120], [], [], [], 7⟩
def aE : En := ⟨[97], [], [], [], 0⟩
def bE : En := ⟨[98], [], [], [], 0⟩
def zE : En := ⟨[], [], [], [], 0⟩
def fF : Fe := ⟨[], [102], [], [], 0, []⟩
theorem dec_one_dig (n : Nat) (h : n < 10) : Lib.itoa (n : Int) = [UInt8.ofNat (48 + n)] := by
  unfold Lib.itoa
  rw [if_neg (by omega)]
  exact Lib.decDigits_one h
theorem xE_key : keyOf (entVal xE) = [91, 34, 120, 34, 44, 34, 34, 44, 34, 34, 44, 34, 34, 44, 55, 93] := by
  rw [key_ent, show Lib.itoa xE.upd = [55] from dec_one_dig 7 (by decide)]
  decide +kernel
theorem later_ab : lat3 cmpK aE bE = bE := by
  have ha : kE aE = [91, 34, 97, 34, 44, 34, 34, 44, 34, 34, 44, 34, 34, 44, 48, 93] := by
    unfold kE
    rw [key_ent, show Lib.itoa aE.upd = [48] from dec_one_dig 0 (by decide)]
    decide +kernel
  have hb : kE bE = [91, 34, 98, 34, 44, 34, 34, 44, 34, 34, 44, 34, 34, 44, 48, 93] := by
    unfold kE
    rw [key_ent, show Lib.itoa bE.upd = [48] from dec_one_dig 0 (by decide)]
    decide +kernel
  unfold lat3 cmpK lex3
  simp only [ha, hb]
  rw [show cmpI aE.upd bE.upd = 0 from rfl]
  rfl
theorem fF_ok : ordFs [fF] = true := by decide +kernel
theorem zE_no : vldE zE = false := rfl

set_option maxHeartbeats 4000000 in
set_option maxRecDepth 100000 in
theorem alive13_any (w : World) (hT : TabJ w) : Calls Tryd.prog 27 #[] w fun e w' => e = .returned (.bool true) ∧ Below w.heap.size w w' := by
  have h1 : ∀ (W : World) (a b : Nat), W.heap[a]? = some (.cells #[.string ⟨#[97]⟩, .string ⟨#[98]⟩] 9) → W.heap[b]? = some (.cells #[.string ⟨#[97]⟩, .string ⟨#[98]⟩, .string ⟨#[99]⟩] 9) →
      Calls Tryd.prog 36 #[.slice (some ⟨a, 0, none⟩) 2 2, .slice (some ⟨b, 0, none⟩) 3 3] W fun e w' => e = .returned (.int .i64 (-1)) ∧ w' = W := fun W a b ha hb =>
    cmpPaths_any [[97], [98]] [[97], [98], [99]] _ _ W _ (els_two13 ha) (els_three hb) (by decide) (by decide)
  have h2 : ∀ (W : World) (a b : Nat), W.heap[a]? = some (.cells #[.string ⟨#[97]⟩, .string ⟨#[98]⟩, .string ⟨#[99]⟩] 9) → W.heap[b]? = some (.cells #[.string ⟨#[98]⟩] 9) →
      Calls Tryd.prog 36 #[.slice (some ⟨a, 0, none⟩) 3 3, .slice (some ⟨b, 0, none⟩) 1 1] W fun e w' => e = .returned (.int .i64 (-1)) ∧ w' = W := fun W a b ha hb =>
    cmpPaths_any [[97], [98], [99]] [[98]] _ _ W _ (els_three ha) (els_one13 hb) (by decide) (by decide)
  have h3 : ∀ W : World, Calls Tryd.prog 37 #[.agg #[.string ⟨#[]⟩, .string ⟨#[]⟩, .string ⟨#[]⟩, .string ⟨#[]⟩, .int .i64 5], .agg #[.string ⟨#[]⟩, .string ⟨#[]⟩, .string ⟨#[]⟩, .string ⟨#[]⟩, .int .i64 4]] W fun e w' => e = .returned (.int .i64 (-1)) ∧ Below W.heap.size W w' := fun W =>
    cmpEntries_any ⟨[], [], [], [], 5⟩ ⟨[], [], [], [], 4⟩ W
  have h4 : ∀ W : World, Below w.heap.size w W → Calls Tryd.prog 41 #[.agg #[.string ⟨#[120]⟩, .string ⟨#[]⟩, .string ⟨#[]⟩, .string ⟨#[]⟩, .int .i64 7]] W fun e w' => e = .returned (.string ⟨#[91, 34, 120, 34, 44, 34, 34, 44, 34, 34, 44, 34, 34, 44, 55, 93]⟩) ∧ Below W.heap.size W w' := fun W hW => by
    have := entryKey_any xE W (hT.next hW) (by constructor <;> decide) (by decide)
    rw [xE_key] at this
    exact this
  have h5 : ∀ (W : World) (b : Nat), Below w.heap.size w W → W.heap[b]? = some (.cells #[.slice none 0 0, .string ⟨#[102]⟩, .string ⟨#[]⟩, .string ⟨#[]⟩, .int .i64 0, .slice none 0 0] 55) →
      Calls Tryd.prog 32 #[.agg #[.slice (some ⟨b, 0, none⟩) 1 1]] W fun e w' => e = .returned (.int .i64 0) ∧ Below W.heap.size W w' := fun W b hW hb => by
    have := checkA_any [fF] (.slice (some ⟨b, 0, none⟩) 1 1) W (hT.next hW) ⟨_, 1, rfl, Nat.le_refl _, .inr ⟨b, 0, rfl, heap_lt hb, fun i a hi => by
      match i, hi with
      | 0, hi =>
        simp at hi; subst hi
        exact ⟨_, ⟨none, 0, none, 0, rfl, ElsP.nil _ _ _, ElsP.nil _ _ _, Nat.le_refl _, Nat.le_refl _⟩, (show W.rangeAt b (0 + 0 * 6) _ from range_of_heap hb)⟩
      | i + 1, hi => simp at hi⟩⟩ (by decide) (fun f hf => by
        rw [List.mem_singleton.1 hf]
        exact ⟨by decide, by decide, by decide, (fun e he => by cases he), by decide⟩)
    rw [fF_ok] at this
    exact this
  have h6 : ∀ W : World, Below w.heap.size w W → Calls Tryd.prog 30 #[.agg #[.string ⟨#[]⟩, .string ⟨#[]⟩, .string ⟨#[]⟩, .string ⟨#[]⟩, .int .i64 0]] W fun e w' => e = .returned (.int .i64 22) ∧ Below W.heap.size W w' := fun W hW =>
    checkEntry_any zE W (hT.next hW) (by decide)
  have h7 : ∀ W : World, Below w.heap.size w W → Calls Tryd.prog 38 #[.agg #[.string ⟨#[97]⟩, .string ⟨#[]⟩, .string ⟨#[]⟩, .string ⟨#[]⟩, .int .i64 0], .agg #[.string ⟨#[98]⟩, .string ⟨#[]⟩, .string ⟨#[]⟩, .string ⟨#[]⟩, .int .i64 0]] W fun e w' => e = .returned (.agg #[.string ⟨#[98]⟩, .string ⟨#[]⟩, .string ⟨#[]⟩, .string ⟨#[]⟩, .int .i64 0]) ∧ Below W.heap.size W w' := fun W hW => by
    have := laterEntry_any aE bE W (hT.next hW) (by constructor <;> decide) (by constructor <;> decide) (by decide) (by decide)
    rw [later_ab] at this
    exact this
  have hfld : ∀ W : World, (Instr.field 59 (.agg #[.string ⟨#[98]⟩, .string ⟨#[]⟩, .string ⟨#[]⟩, .string ⟨#[]⟩, .int .i64 0]) 0).run Tryd.prog W = .ok (.string ⟨#[98]⟩) W := fun W => by kernel_rfl
  have H1 := Lib.hid h1
  have H2 := Lib.hid h2
  have H3 := Lib.hid h3
  have H4 := Lib.hid h4
  have H5 := Lib.hid h5
  have H6 := Lib.hid h6
  have H7 := Lib.hid h7
  clear h1 h2 h3 h4 h5 h6 h7 hT
  go_enter Tryd.func27, Tryd.ntmps27
  go_wp2_with fail
  refine (H1.out _ _ _ ?_ ?_).mono ?_
  · exact h2a _ _ _ _ (by simp)
  · exact h2b _ _ _ _ (by simp)
  rintro e w1 ⟨rfl, rfl⟩
  go_wp2_with fail
  refine (H2.out _ _ _ ?_ ?_).mono ?_
  · exact h2a _ _ _ _ (by simp)
  · exact h2b _ _ _ _ (by simp)
  rintro e w2 ⟨rfl, rfl⟩
  have B2 : ∀ A B C D : Obj, Below w.heap.size w ((((w.alloc A).alloc B).alloc C).alloc D) := fun A B C D => ((((Below.refl _ _).alloc (Nat.le_refl _) A).alloc (by simp) B).alloc (by simp; omega) C).alloc (by simp; omega) D
  have HB2 := Lib.hid B2
  clear B2
  go_wp2_with fail
  refine (H3.out _).mono ?_
  rintro e w3 ⟨rfl, hb3⟩
  have B3 := Lib.hid ((HB2.out _ _ _ _).trans (hb3.mono (by simp; omega)))
  clear hb3
  go_wp2_with fail
  refine (H4.out _ B3.out).mono ?_
  rintro e w4 ⟨rfl, hb4⟩
  have B4 := Lib.hid (B3.out.trans (hb4.mono B3.out.size))
  clear hb4
  go_wp2_with fail
  refine (H5.out _ _ (B4.out.alloc B4.out.size _) (heap_alloc_new w4 _)).mono ?_
  rintro e w5 ⟨rfl, hb5⟩
  have B5 := Lib.hid ((B4.out.alloc B4.out.size _).trans (hb5.mono (by have := B4.out.size; simp; omega)))
  clear hb5
  go_wp2_with fail
  refine (H6.out _ B5.out).mono ?_
  rintro e w6 ⟨rfl, hb6⟩
  have B6 := Lib.hid (B5.out.trans (hb6.mono B5.out.size))
  clear hb6
  go_wp2_with fail
  refine (H7.out _ B6.out).mono ?_
  rintro e w7 ⟨rfl, hb7⟩
  go_wp2_with fail
  go_ret
  exact ⟨rfl, B6.out.trans (hb7.mono B6.out.size)⟩
end Go.Proofs.YtadkgjbidhfefaaDoor
set_option linter.unusedVariables false
namespace Go.Proofs.YtadkgjbidhfefaaDoor
open Go.RowKit

def enEq (a b : En) : Bool := (a.id == b.id) && ((a.title == b.title) && ((a.link == b.link) && ((a.content == b.content) && (a.upd == b.upd))))
theorem enEq_iff {a b : En} : enEq a b = true ↔ a = b := by
  cases a; cases b
  simp [enEq]
theorem enEq_same (a : En) : enEq a a = true := enEq_iff.2 rfl
theorem enEq_no {a b : En} (h : a ≠ b) : enEq a b = false := by
  cases hq : enEq a b with
  | false => rfl
  | true => exact absurd (enEq_iff.1 hq) h
theorem eqIn_ent (a b : En) (w : World) : (Op.equalIn 10000 59 (entV a) (entV b)).run Tryd.prog w = .ok (enEq a b) w := by
  have hS : Tryd.prog.underlying 59 = some (.struct (Tryd.prog.fieldsOf 59)) := by kernel_rfl
  have hp : Tryd.prog.stoodInHeld 59 = false := by kernel_rfl
  have u9 := Tryd.underlying9
  have u2 := Tryd.underlying2
  have a9 := Tryd.isAgg9
  have z9 := Tryd.sizeOf9
  have a2 := Tryd.isAgg2
  have z2 := Tryd.sizeOf2
  rw [show (10000 : Nat) = 9999 + 1 from rfl, run_equalIn_agg w 9999 59 _ _ hS hp]
  simp only [Program.fieldsOf, Tryd.underlying59]
  go_simp
  unfold enEq
  cases h1 : (a.id == b.id) <;> cases h2 : (a.title == b.title) <;> cases h3 : (a.link == b.link) <;> cases h4 : (a.content == b.content) <;> cases h5 : (a.upd == b.upd) <;> simp_all
theorem run_eq_ent (a b : En) (w : World) : (binOp .eql 59 (entV a) (entV b)).run Tryd.prog w = .ok (.bool (enEq a b)) w := by
  rw [run_eql_struct, eqIn_ent]; rfl
theorem run_ne_ent (a b : En) (w : World) : (binOp .neq 59 (entV a) (entV b)).run Tryd.prog w = .ok (.bool (!(enEq a b))) w := by
  rw [run_neq_struct, eqIn_ent]; rfl
end Go.Proofs.YtadkgjbidhfefaaDoor
set_option linter.unusedVariables false
namespace Go.Proofs.YtadkgjbidhfefaaDoor
open Go.RowKit

theorem feeVal_fit (f : Fe) (h : -9223372036854775808 ≤ f.upd ∧ f.upd ≤ 9223372036854775807) (hs : FSz f) : JFit (feeVal f) := by
  have hp := hs.path
  refine fit_jarr _ (by simp) fun x hx => ?_
  rcases List.mem_append.1 hx with hx | hx
  · rcases List.mem_cons.1 hx with rfl | hx
    · refine fit_jarr _ (by simp; omega) fun y hy => ?_
      obtain ⟨s, _, rfl⟩ := List.mem_map.1 hy
      exact fit_jstr s
    · obtain ⟨s, _, rfl⟩ := List.mem_map.1 hx
      exact fit_jstr s
  · rw [List.mem_singleton.1 hx]; exact fit_jint _ h
theorem feeVal_ful (f : Fe) : jful (feeVal f) = 6 + (f.path.length + (f.path.map List.length).sum) + (f.id.length + f.title.length + f.link.length) := by
  unfold feeVal
  rw [jful_jarr, jfulL_app, jfulL, jful_jarr, jfulL_map_jstr, jfulL_map_jstr, jfulL, jfulL, jful_jint]
  simp
  omega

set_option maxHeartbeats 4000000 in
set_option maxRecDepth 100000 in
theorem refFeedKey_any (f : Fe) (u : Value) (w : World) (hf : -9223372036854775808 ≤ f.upd ∧ f.upd ≤ 9223372036854775807) (hs : FSz f) (hu : FeeV w (· < w.heap.size) f u) :
    Calls Tryd.prog 44 #[u] w fun x w' => x = .returned (.string (S (keyOf (feeVal f)))) ∧ Below w.heap.size w w' := by
  rw [key_fee]
  obtain ⟨PA, pc, EA, ec, rfl, hp, he, hpc, hec⟩ := hu.open_
  have hhead := hs.head
  have hpl := hs.path
  have hps := hs.strs
  have hqp := fun (W : World) (hW : Below w.heap.size w W) => refQuoteL_any f.path _ W (hp.keep strE_ok hW.block (fun k hk => Nat.lt_of_lt_of_le hk hW.size)) (by omega) (by omega)
  have hq := fun (W : World) (b : Nat) (hb : W.heap[b]? = some (.cells #[.string (S f.id), .string (S f.title), .string (S f.link)] 9)) => refQuoteL_any (strsF f) _ W (els_three hb) (by simp [strsF]) (by simp [strsF]; omega)
  have hd := fun W => decimal_any f.upd hf.1 hf.2 W
  have hil := itoa_len f.upd hf.1 hf.2
  have hql : (quoL (strsF f)).length ≤ 900000 := by
    have := jtxL_jstr_len true (strsF f)
    unfold quoL
    split
    · simp only [strsF, List.map_cons, List.map_nil, List.sum_cons, List.sum_nil, List.length_cons, List.length_nil] at this ⊢; omega
    · simp
  have hqlp : (quoL f.path).length ≤ 1200000 := by
    have := jtxL_jstr_len true f.path
    unfold quoL
    split
    · omega
    · simp
  have hx : ∀ W, Below (w.heap.size + 1) (w.alloc (.cells #[.slice PA f.path.length pc, .string (S f.id), .string (S f.title), .string (S f.link), .int .i64 f.upd, .slice EA f.ents.length ec] 55)) W → W.cell? ⟨w.heap.size, 0, none⟩ = some (.slice PA f.path.length pc) ∧ W.cell? ⟨w.heap.size, 1, none⟩ = some (.string (S f.id)) ∧ W.cell? ⟨w.heap.size, 2, none⟩ = some (.string (S f.title)) ∧ W.cell? ⟨w.heap.size, 3, none⟩ = some (.string (S f.link)) ∧ W.cell? ⟨w.heap.size, 4, none⟩ = some (.int .i64 f.upd) := fun W hW => by
    obtain ⟨k0, k1, k2, k3, k4, k5⟩ := cells6 ((hW.block w.heap.size (by omega)).trans (heap_alloc_new w (.cells #[.slice PA f.path.length pc, .string (S f.id), .string (S f.title), .string (S f.link), .int .i64 f.upd, .slice EA f.ents.length ec] 55)))
    exact ⟨k0, k1, k2, k3, k4⟩
  have KEEP := Lib.hid hx
  have HA0 := Lib.hid (show Below w.heap.size w (w.alloc (.cells #[.slice PA f.path.length pc, .string (S f.id), .string (S f.title), .string (S f.link), .int .i64 f.upd, .slice EA f.ents.length ec] 55)) from (Below.refl _ _).alloc (Nat.le_refl _) _)
  have HD := Lib.hid hd
  generalize quoL (strsF f) = Q at *
  generalize quoL f.path = PQ at *
  generalize f.path.length = pn at *
  generalize Lib.itoa f.upd = N at *
  have HQ := Lib.hid hq
  have HQP := Lib.hid hqp
  clear hx hd hq hqp hf hs hu hp he
  by_cases hQ : Q = []
  · subst hQ
    rw [if_pos (.inl rfl)]
    obtain ⟨k0, k1, k2, k3, k4⟩ := KEEP.out _ (Below.refl _ _)
    go_enter Tryd.func44, Tryd.ntmps44
    go_wp2_with (first
      | (go_at_call 77; (with_reducible refine (HQP.out _ HA0.out).mono ?_); rintro x w1 ⟨rfl, hb1⟩; have r1 := (Below.refl (w.heap.size + 1) (w.alloc (.cells #[.slice PA pn pc, .string (S f.id), .string (S f.title), .string (S f.link), .int .i64 f.upd, .slice EA f.ents.length ec] 55))).trans (hb1.mono (by simp)); have HR1 := Lib.hid r1; clear k0 k1 k2 k3 k4 hb1; obtain ⟨k0, k1, k2, k3, k4⟩ := KEEP.out _ r1; clear r1)
      | (go_at_call 77; (with_reducible refine (HQ.out _ _ (heap_alloc_new w1 _)).mono ?_); rintro x w2 ⟨rfl, hb2⟩; have HR2 := Lib.hid ((HR1.out.alloc (by have := HR1.out.size; simpa using this) (.cells #[.string (S f.id), .string (S f.title), .string (S f.link)] 9)).trans (hb2.mono (by have := HR1.out.size; simp at this; simp; omega))); clear k0 k1 k2 k3 k4 hb2; obtain ⟨k0, k1, k2, k3, k4⟩ := KEEP.out _ HR2.out))
    go_ret
    exact ⟨rfl, HA0.out.trans (HR2.out.mono (Nat.le_succ _))⟩
  · have t : Q.isEmpty = false := by cases Q with | nil => exact absurd rfl hQ | cons _ _ => rfl
    have t2 : (Q == []) = false := by rw [beq_eq_false_iff_ne]; exact hQ
    by_cases hP : PQ = [] ∧ 0 < pn
    · obtain ⟨hP, hpn⟩ := hP
      subst hP
      have hpn' : (0 : Int) < pn := by omega
      rw [if_pos (.inr ⟨rfl, hpn⟩)]
      have HPN := Lib.hid hpn
      clear hpn hQ
      obtain ⟨k0, k1, k2, k3, k4⟩ := KEEP.out _ (Below.refl _ _)
      go_enter Tryd.func44, Tryd.ntmps44
      go_wp2_with (first
        | (go_at_call 77; (with_reducible refine (HQP.out _ HA0.out).mono ?_); rintro x w1 ⟨rfl, hb1⟩; have r1 := (Below.refl (w.heap.size + 1) (w.alloc (.cells #[.slice PA pn pc, .string (S f.id), .string (S f.title), .string (S f.link), .int .i64 f.upd, .slice EA f.ents.length ec] 55))).trans (hb1.mono (by simp)); have HR1 := Lib.hid r1; clear k0 k1 k2 k3 k4 hb1; obtain ⟨k0, k1, k2, k3, k4⟩ := KEEP.out _ r1; clear r1)
        | (go_at_call 77; (with_reducible refine (HQ.out _ _ (heap_alloc_new w1 _)).mono ?_); rintro x w2 ⟨rfl, hb2⟩; have hz1 : w.heap.size + 1 ≤ w1.heap.size := (by have := HR1.out.size; simpa using this); have HR2 := Lib.hid ((HR1.out.alloc hz1 (.cells #[.string (S f.id), .string (S f.title), .string (S f.link)] 9)).trans (hb2.mono (by simp; omega))); clear k0 k1 k2 k3 k4 hb2; obtain ⟨k0, k1, k2, k3, k4⟩ := KEEP.out _ HR2.out))
      go_ret
      exact ⟨rfl, HA0.out.trans (HR2.out.mono (Nat.le_succ _))⟩
    · rw [if_neg (fun h => h.elim hQ hP)]
      obtain ⟨L1, e1⟩ : ∃ L1 : Bytes, L1 = [91, 91] ++ PQ := ⟨_, rfl⟩
      obtain ⟨L2, e2⟩ : ∃ L2 : Bytes, L2 = L1 ++ [93, 44] := ⟨_, rfl⟩
      obtain ⟨L3, e3⟩ : ∃ L3 : Bytes, L3 = L2 ++ Q := ⟨_, rfl⟩
      obtain ⟨L4, e4⟩ : ∃ L4 : Bytes, L4 = L3 ++ [44] := ⟨_, rfl⟩
      obtain ⟨L5, e5⟩ : ∃ L5 : Bytes, L5 = L4 ++ N := ⟨_, rfl⟩
      obtain ⟨L6, e6⟩ : ∃ L6 : Bytes, L6 = L5 ++ [93] := ⟨_, rfl⟩
      have g1 : ∀ W : World, (Op.stringOp .add ⟨#[91, 91]⟩ (S PQ)).run Tryd.prog W = .ok (.string (S L1)) W := run_catJ [91, 91] PQ L1 e1 (by simp only [List.length_cons, List.length_nil]; omega)
      have g2 : ∀ W : World, (Op.stringOp .add (S L1) ⟨#[93, 44]⟩).run Tryd.prog W = .ok (.string (S L2)) W := run_catJ L1 [93, 44] L2 e2 (by rw [e1]; simp only [List.length_append, List.length_cons, List.length_nil]; omega)
      have g3 : ∀ W : World, (Op.stringOp .add (S L2) (S Q)).run Tryd.prog W = .ok (.string (S L3)) W := run_catJ L2 Q L3 e3 (by rw [e2, e1]; simp only [List.length_append, List.length_cons, List.length_nil]; omega)
      have g4 : ∀ W : World, (Op.stringOp .add (S L3) ⟨#[44]⟩).run Tryd.prog W = .ok (.string (S L4)) W := run_catJ L3 [44] L4 e4 (by rw [e3, e2, e1]; simp only [List.length_append, List.length_cons, List.length_nil]; omega)
      have g5 : ∀ W : World, (Op.stringOp .add (S L4) (S N)).run Tryd.prog W = .ok (.string (S L5)) W := run_catJ L4 N L5 e5 (by rw [e4, e3, e2, e1]; simp only [List.length_append, List.length_cons, List.length_nil]; omega)
      have g6 : ∀ W : World, (Op.stringOp .add (S L5) ⟨#[93]⟩).run Tryd.prog W = .ok (.string (S L6)) W := run_catJ L5 [93] L6 e6 (by rw [e5, e4, e3, e2, e1]; simp only [List.length_append, List.length_cons, List.length_nil]; omega)
      have he : L6 = [91, 91] ++ PQ ++ [93, 44] ++ Q ++ [44] ++ N ++ [93] := by rw [e6, e5, e4, e3, e2, e1]
      rw [← he]
      have hways : (PQ == []) = false ∨ PQ = [] ∧ ¬ (0 : Int) < pn := by
        by_cases h : PQ = []
        · exact .inr ⟨h, fun h2 => hP ⟨h, by omega⟩⟩
        · exact .inl (by rw [beq_eq_false_iff_ne]; exact h)
      have hways2 : PQ.isEmpty = (PQ == []) := by cases PQ <;> rfl
      clear e1 e2 e3 e4 e5 e6 he hQ hP
      obtain ⟨k0, k1, k2, k3, k4⟩ := KEEP.out _ (Below.refl _ _)
      rcases hways with t3 | ⟨rfl, t4⟩
      · have t5 := hways2.trans t3
        clear hways2
        go_enter Tryd.func44, Tryd.ntmps44
        go_wp2_with (first
          | (go_at_call 77; (with_reducible refine (HQP.out _ HA0.out).mono ?_); rintro x w1 ⟨rfl, hb1⟩; have r1 := (Below.refl (w.heap.size + 1) (w.alloc (.cells #[.slice PA pn pc, .string (S f.id), .string (S f.title), .string (S f.link), .int .i64 f.upd, .slice EA f.ents.length ec] 55))).trans (hb1.mono (by simp)); have HR1 := Lib.hid r1; clear k0 k1 k2 k3 k4 hb1; obtain ⟨k0, k1, k2, k3, k4⟩ := KEEP.out _ r1; clear r1)
          | (go_at_call 77; (with_reducible refine (HQ.out _ _ (heap_alloc_new w1 _)).mono ?_); rintro x w2 ⟨rfl, hb2⟩; have hz1 : w.heap.size + 1 ≤ w1.heap.size := (by have := HR1.out.size; simpa using this); have HR2 := Lib.hid ((HR1.out.alloc hz1 (.cells #[.string (S f.id), .string (S f.title), .string (S f.link)] 9)).trans (hb2.mono (by simp; omega))); clear k0 k1 k2 k3 k4 hb2; obtain ⟨k0, k1, k2, k3, k4⟩ := KEEP.out _ HR2.out)
          | (go_at_call 78; refine (HD.out _).mono ?_; rintro x w3 ⟨rfl, hb3⟩; have HR3 := Lib.hid (HR2.out.trans (hb3.mono (by have := HR2.out.size; simpa using this))); clear hb3))
        go_ret
        exact ⟨rfl, HA0.out.trans (HR3.out.mono (Nat.le_succ _))⟩
      · clear hways2
        go_enter Tryd.func44, Tryd.ntmps44
        go_wp2_with (first
          | (go_at_call 77; (with_reducible refine (HQP.out _ HA0.out).mono ?_); rintro x w1 ⟨rfl, hb1⟩; have r1 := (Below.refl (w.heap.size + 1) (w.alloc (.cells #[.slice PA pn pc, .string (S f.id), .string (S f.title), .string (S f.link), .int .i64 f.upd, .slice EA f.ents.length ec] 55))).trans (hb1.mono (by simp)); have HR1 := Lib.hid r1; clear k0 k1 k2 k3 k4 hb1; obtain ⟨k0, k1, k2, k3, k4⟩ := KEEP.out _ r1; clear r1)
          | (go_at_call 77; (with_reducible refine (HQ.out _ _ (heap_alloc_new w1 _)).mono ?_); rintro x w2 ⟨rfl, hb2⟩; have hz1 : w.heap.size + 1 ≤ w1.heap.size := (by have := HR1.out.size; simpa using this); have HR2 := Lib.hid ((HR1.out.alloc hz1 (.cells #[.string (S f.id), .string (S f.title), .string (S f.link)] 9)).trans (hb2.mono (by simp; omega))); clear k0 k1 k2 k3 k4 hb2; obtain ⟨k0, k1, k2, k3, k4⟩ := KEEP.out _ HR2.out)
          | (go_at_call 78; refine (HD.out _).mono ?_; rintro x w3 ⟨rfl, hb3⟩; have HR3 := Lib.hid (HR2.out.trans (hb3.mono (by have := HR2.out.size; simpa using this))); clear hb3))
        go_ret
        exact ⟨rfl, HA0.out.trans (HR3.out.mono (Nat.le_succ _))⟩
end Go.Proofs.YtadkgjbidhfefaaDoor
set_option linter.unusedVariables false
set_option linter.unusedSimpArgs false
namespace Go.Proofs.YtadkgjbidhfefaaDoor
open Go.RowKit

theorem ElRow.own {α : Type} {E : Elt α} (hE : E.Ok) {W : World} {base : Nat} {v : Value} {l : List α} (h : ElRow E W base (fun _ => False) v l) : ElsP E W (fun k => base ≤ k ∧ k < W.heap.size) v l :=
  h.elsP hE (fun _ h => h.elim) (fun k hk => h.lt k hk)
/-- A slice of one element that lies in a block of the call's own. -/
theorem ElRow.single {α : Type} {E : Elt α} (hE : E.Ok) {W : World} {base b : Nat} {p : Nat → Prop} {x : α} {cs : List Value} (hx : E.El W p x cs) (hb : base ≤ b) (hh : W.heap[b]? = some (.cells cs.toArray E.T (0, 0))) : ElRow E W base p (.slice (some ⟨b, 0, none⟩) 1 1) [x] := by
  have hl := hE.len hx
  refine ⟨[cs], rfl, ?_, ?_⟩
  · intro i a ds ha hd
    cases i with
    | zero => simp at ha hd; subst ha hd; exact hx
    | succ i => simp at ha
  · refine ⟨by simp [hl], .inr ⟨b, 1, cs.toArray, rfl, hb, hh, Nat.le_refl _, by decide, by simp [hl], by simp [hl, List.take_of_length_le (Nat.le_of_eq hl)]⟩⟩
theorem els_append_all_step {α : Type} {E : Elt α} (hE : E.Ok) {ops : Array Oper} {o : Oper} {a : Act} {K : Act → World → Prop} {Q : Exit → Act → World → Prop} {Z : Prop} (hgd : o.guard = none) (d s : Operand)
    (ho : o.op = .call { callee := .builtin .append, args := #[d, s], argTypes := #[E.TS, E.TS] })
    (w : World) (base : Nat) (p : Nat → Prop) (v : Value) (xs : List α) (hd : a.eval d = v) (hx : ElRow E w base p v xs) (A : Option Addr) (n c : Nat) (l : List α) (hs : a.eval s = .slice A n c) (h : ElsP E w p (.slice A n c) l) (hbase : base ≤ w.heap.size) (hl : xs.length + l.length < 10000000000)
    (hB : ∀ j, p j → v.ownBlock ≠ some j) (hB2 : ∀ j, p j → j < w.heap.size)
    (hK : ∀ v' w', ElRow E w' base p v' (xs ++ l) → Grew w v v' w' → Below base w w' → (v'.ownBlock = v.ownBlock ∨ v'.ownBlock = some w.heap.size) → K (a.put o.dst v') w') :
    if Region.wanted o (yielded ops a.tmps) = true then Oper.wp Tryd.prog o a w K Q else Z := by
  rw [if_pos (by simp [Region.wanted, hgd])]
  obtain ⟨v', w', hrun, h1, h2, h3, h4⟩ := run_append_els hE w o.type base p v xs hx A n c l h hbase hl hB hB2
  unfold Oper.wp
  simp [execOp, ho, resolve, invoke, builtin, hd, hs, hrun, Result.andThen]
  exact hK _ _ h1 h2 h3 h4
theorem al2a (W : World) (A B : Obj) : ((W.alloc A).alloc B).heap[W.heap.size]? = some A := (Below.heap_alloc _ _ _ (by simp)).trans (heap_alloc_new W A)
theorem al2b (W : World) (A B : Obj) : ((W.alloc A).alloc B).heap[W.heap.size + 1]? = some B := by
  have := heap_alloc_new (W.alloc A) B; simpa using this
/-- The slice of one value, the values of three strings appended. -/
theorem fee_app_step {ops : Array Oper} {o : Oper} {a : Act} {K : Act → World → Prop} {Q : Exit → Act → World → Prop} {Z : Prop} (hgd : o.guard = none) (d s : Operand)
    (ho : o.op = .call { callee := .builtin .append, args := #[d, s], argTypes := #[22, 22] })
    (w : World) (base bt m : Nat) (J : JV) (cs : List Value) (ss js : List JV) (hjs : J :: ss = js) (A : Option Addr) (c b3 : Nat) (hd : a.eval d = .slice (some ⟨bt, 0, none⟩) 1 1) (hT : w.heap[bt]? = some (.cells cs.toArray 25 (0, 0))) (h1 : base ≤ bt) (h2 : m ≤ bt) (hJ : valE.El w (fun k => base ≤ k ∧ k < m) J cs)
    (hs : a.eval s = .slice A 3 c) (hR : ElRow valE w b3 (fun _ => False) (.slice A 3 c) ss) (hb3 : base ≤ b3) (hne : ∀ k, (Value.slice A 3 c).ownBlock = some k → k ≠ bt) (hl : ss.length = 3)
    (hK : ∀ A' c' w', (∃ p : Nat → Prop, ElRow valE w' base p (.slice A' 4 c') js ∧ ∀ j, p j → (Value.slice A' 4 c').ownBlock ≠ some j ∧ base ≤ j ∧ j < w'.heap.size) → Below base w w' → K (a.put o.dst (.slice A' 4 c')) w') :
    if Region.wanted o (yielded ops a.tmps) = true then Oper.wp Tryd.prog o a w K Q else Z := by
  subst hjs
  have hlt := heap_lt hT
  have hp1 : valE.El w (fun k => base ≤ k ∧ k < w.heap.size ∧ k ≠ bt) J cs := valE_ok.keep hJ (fun _ _ => rfl) (fun k hk => ⟨hk.1, by have := hk.2; omega, by have := hk.2; omega⟩)
  refine els_append_all_step (E := valE) valE_ok hgd d s ho w base (fun k => base ≤ k ∧ k < w.heap.size ∧ k ≠ bt) _ [J] hd (ElRow.single valE_ok hp1 h1 hT) A 3 c ss hs (hR.elsP valE_ok (fun _ h => h.elim) (fun k hk => ⟨by have := (hR.lt k hk).1; omega, (hR.lt k hk).2, hne k hk⟩)) (by omega) (by simp; omega) (fun j hj e => hj.2.2 (by simp [Value.ownBlock] at e; exact e.symm)) (fun j hj => hj.2.1) ?_
  intro v' w' hr hg hb ho'
  obtain ⟨A', c', rfl, _⟩ := hr.slice
  have hln : ([J] ++ ss).length = 4 := by simp [hl]
  simp only [hln] at hr ho' ⊢
  refine hK A' c' w' ⟨_, hr, fun j hj => ⟨fun e => ?_, hj.1, Nat.lt_of_lt_of_le hj.2.1 hb.size⟩⟩ hb
  rcases ho' with h | h
  · rw [h] at e
    simp [Value.ownBlock] at e
    exact hj.2.2 e.symm
  · rw [h] at e
    have := hj.2.1
    simp at e
    omega

set_option maxHeartbeats 8000000 in
set_option maxRecDepth 100000 in
theorem feedKey_any (f : Fe) (u : Value) (w : World) (hT : TabJ w) (hf : -9223372036854775808 ≤ f.upd ∧ f.upd ≤ 9223372036854775807) (hs : FSz f) (hu : FeeV w (· < w.heap.size) f u) :
    Calls Tryd.prog 43 #[u] w fun x w' => x = .returned (.string (S (keyOf (feeVal f)))) ∧ Below w.heap.size w w' := by
  obtain ⟨PA, pc, EA, ec, rfl, hp, he, hpc, hec⟩ := hu.open_
  have hhead := hs.head
  have hpl := hs.path
  have hps := hs.strs
  have hful := feeVal_ful f
  have hfit := feeVal_fit f hf hs
  have hwr := fun (u : Value) (W : World) (hW : Below w.heap.size w W) (hv : ValV W (· < W.heap.size) (feeVal f) u) => write12_any (feeVal f) u W (by omega) hfit (hT.next hW) hv
  unfold keyOf
  have hfv : feeVal f = jarr (jarr (f.path.map jstr) :: [f.id, f.title, f.link].map jstr ++ [jint f.upd]) := rfl
  generalize hK : outJ (feeVal f) (jvd (feeVal f) 1) = KB at *
  generalize errJ (jvd (feeVal f) 1) = ER at *
  rw [hfv] at hwr
  have hW0 : Below w.heap.size w (w.alloc (.cells #[.slice PA f.path.length pc, .string (S f.id), .string (S f.title), .string (S f.link), .int .i64 f.upd, .slice EA f.ents.length ec] 55)) := (Below.refl _ _).alloc (Nat.le_refl _) _
  have hsp := fun (W : World) (hW : Below (w.heap.size + 1) (w.alloc (.cells #[.slice PA f.path.length pc, .string (S f.id), .string (S f.title), .string (S f.link), .int .i64 f.upd, .slice EA f.ents.length ec] 55)) W) => stringValues_any f.path _ W (· < W.heap.size) (fun _ h => h) (hp.keep strE_ok (fun k hk => (hW0.trans (hW.mono (Nat.le_succ _))).block k hk) (fun k hk => Nat.lt_of_lt_of_le hk (hW0.trans (hW.mono (Nat.le_succ _))).size)) (by omega)
  have hs3 := fun (W : World) (b : Nat) (hb : W.heap[b]? = some (.cells #[.string (S f.id), .string (S f.title), .string (S f.link)] 9)) => stringValues_any [f.id, f.title, f.link] _ W (· < W.heap.size) (fun _ h => h) (els_three hb) (by simp)
  have hl3 : ([f.id, f.title, f.link].map jstr).length = 3 := by simp
  have hn3 : [f.id, f.title, f.link].length = 3 := rfl
  have hlp : (f.path.map jstr).length = f.path.length := by simp
  simp only [hn3] at hs3
  generalize f.path.map jstr = ps at *
  generalize [f.id, f.title, f.link].map jstr = ss at *
  have har1 := fun (u : Value) (W : World) (h : ElsP valE W (fun k => w.heap.size + 1 ≤ k ∧ k < W.heap.size) u ps) => array13_any ps u W _ (fun _ h => h.2) h (by omega)
  generalize jarr ps = JP at *
  have hjl : (JP :: ss).length = 4 := by simp [hl3]
  generalize hjs : JP :: ss = js at *
  have har2 := fun (u : Value) (W : World) (h : ElsP valE W (fun k => k < W.heap.size) u (js ++ [jint f.upd])) => array13_any (js ++ [jint f.upd]) u W _ (fun _ h => h) h (by simp [hjl])
  have hx : ∀ W, Below (w.heap.size + 1) (w.alloc (.cells #[.slice PA f.path.length pc, .string (S f.id), .string (S f.title), .string (S f.link), .int .i64 f.upd, .slice EA f.ents.length ec] 55)) W → W.cell? ⟨w.heap.size, 0, none⟩ = some (.slice PA f.path.length pc) ∧ W.cell? ⟨w.heap.size, 1, none⟩ = some (.string (S f.id)) ∧ W.cell? ⟨w.heap.size, 2, none⟩ = some (.string (S f.title)) ∧ W.cell? ⟨w.heap.size, 3, none⟩ = some (.string (S f.link)) ∧ W.cell? ⟨w.heap.size, 4, none⟩ = some (.int .i64 f.upd) := fun W hW => by
    obtain ⟨k0, k1, k2, k3, k4, k5⟩ := cells6 ((hW.block w.heap.size (by omega)).trans (heap_alloc_new w (.cells #[.slice PA f.path.length pc, .string (S f.id), .string (S f.title), .string (S f.link), .int .i64 f.upd, .slice EA f.ents.length ec] 55)))
    exact ⟨k0, k1, k2, k3, k4⟩
  have hz0 : w.heap.size + 1 ≤ (w.alloc (.cells #[.slice PA f.path.length pc, .string (S f.id), .string (S f.title), .string (S f.link), .int .i64 f.upd, .slice EA f.ents.length ec] 55)).heap.size := by simp
  have KEEP := Lib.hid hx
  have HSP := Lib.hid hsp
  have HS3 := Lib.hid hs3
  have HA1 := Lib.hid har1
  have HA2 := Lib.hid har2
  have HWR := Lib.hid hwr
  have HL3 := Lib.hid hl3
  have HZ0 := Lib.hid hz0
  have HJS := Lib.hid hjs
  have HJL := Lib.hid hjl
  have HW0 := Lib.hid hW0
  clear hx hsp hs3 har1 har2 hwr hl3 hn3 hlp hf hs hu hp he hful hfit hfv hK hT hpl hps hhead hz0 hW0 hjs hjl
  generalize f.path.length = pn at *
  go_enter Tryd.func43, Tryd.ntmps43
  go_wp2_with fail
  generalize w.alloc (.cells #[.slice PA pn pc, .string (S f.id), .string (S f.title), .string (S f.link), .int .i64 f.upd, .slice EA f.ents.length ec] 55) = W0 at *
  go_cut [3] (fun s3 wx => ∃ A c p, s3 = .slice A 4 c ∧ ElRow valE wx (w.heap.size + 1) p (.slice A 4 c) js ∧ (∀ j, p j → (Value.slice A 4 c).ownBlock ≠ some j ∧ w.heap.size + 1 ≤ j ∧ j < wx.heap.size) ∧ Below (w.heap.size + 1) W0 wx)
  case first =>
    go_region_held3 (fun x => x.cell? ⟨w.heap.size, 0, none⟩ = some (.slice PA pn pc) ∧ x.cell? ⟨w.heap.size, 1, none⟩ = some (.string (S f.id)) ∧ x.cell? ⟨w.heap.size, 2, none⟩ = some (.string (S f.title)) ∧ x.cell? ⟨w.heap.size, 3, none⟩ = some (.string (S f.link)) ∧ x.cell? ⟨w.heap.size, 4, none⟩ = some (.int .i64 f.upd))
      (first | exact KEEP.out _ R4.out | exact KEEP.out _ (R3.out.alloc hz3 _) | exact KEEP.out _ R3.out | exact KEEP.out _ ((R.out.alloc hz _).alloc (by simp; omega) _) | exact KEEP.out _ (R.out.alloc hz _) | exact KEEP.out _ R.out | exact KEEP.out _ ((Below.refl _ _).alloc HZ0.out _).drew | exact KEEP.out _ (Below.refl _ _).drew)
      (first
        | ((go_at_call 76; (with_reducible refine (HSP.out _ ((Below.refl _ _).alloc HZ0.out _).drew).mono ?_); rintro x W ⟨A1, c1, rfl, hrow, hb⟩; have R := Lib.hid (((Below.refl _ _).alloc HZ0.out (.cells #[.string (S f.id), .string (S f.title), .string (S f.link)] 9)).drew.trans (hb.mono (by have := HZ0.out; simp; omega))); have HB := Lib.hid ((hb.block W0.heap.size (by simp)).trans (heap_alloc_new W0 (.cells #[.string (S f.id), .string (S f.title), .string (S f.link)] 9))); have hz : w.heap.size + 1 ≤ W.heap.size := (by have := R.out.size; have := HZ0.out; omega); have HR1 := Lib.hid (hrow.base_ (base' := w.heap.size + 1) (by have := HZ0.out; simp; omega)); clear hrow hb))
        | ((go_at_call 76; (with_reducible refine (HSP.out _ (Below.refl _ _).drew).mono ?_); rintro x W ⟨A1, c1, rfl, hrow, hb⟩; have R := Lib.hid ((Below.refl _ _).drew.trans (hb.mono (by have := HZ0.out; simp; omega))); have hz : w.heap.size + 1 ≤ W.heap.size := (by have := R.out.size; have := HZ0.out; omega); have HR1 := Lib.hid (hrow.base_ (base' := w.heap.size + 1) (by have := HZ0.out; simp; omega)); clear hrow hb))
        | ((go_at_call 18; (with_reducible refine (HA1.out _ _ (ElRow.own valE_ok (HR1.out.below valE_ok ((Below.refl _ _).alloc (Nat.le_refl _) (.cells #[.string (S f.id), .string (S f.title), .string (S f.link)] 9)) (fun _ h => h.elim)))).mono ?_); rintro x W ⟨v, rfl, hv, hb⟩; have HB := Lib.hid ((hb.block _ (by simp)).trans (heap_alloc_new _ (.cells #[.string (S f.id), .string (S f.title), .string (S f.link)] 9))); have hz1 := hz; have hzb := hb.size; have R := Lib.hid ((R.out.alloc hz _).trans (hb.mono (by simp; omega))); have hz : w.heap.size + 1 ≤ W.heap.size := (by have := R.out.size; have := HZ0.out; omega); obtain ⟨cs, rfl, hcs⟩ := hv; obtain ⟨IA, ic, MA, mc, rfl⟩ := hcs.cells; obtain ⟨m, hm⟩ : ∃ m, W.heap.size = m := ⟨_, rfl⟩; have HV := Lib.hid (valE_ok.keep (p' := fun k => w.heap.size + 1 ≤ k ∧ k < m) hcs (fun _ _ => rfl) (fun k hk => (by simp at hk hzb; omega))); have HM := Lib.hid (show m ≤ W.heap.size by omega); clear hcs hm; clear hb HR1))
        | ((go_at_call 18; (with_reducible refine (HA1.out _ _ (ElRow.own valE_ok HR1.out)).mono ?_); rintro x W ⟨v, rfl, hv, hb⟩; (try have HB := Lib.hid ((hb.block _ (heap_lt HB.out)).trans HB.out)); have hz1 := hz; have hzb := hb.size; have R := Lib.hid (R.out.trans (hb.mono hz)); have hz : w.heap.size + 1 ≤ W.heap.size := (by have := R.out.size; have := HZ0.out; omega); obtain ⟨cs, rfl, hcs⟩ := hv; obtain ⟨IA, ic, MA, mc, rfl⟩ := hcs.cells; obtain ⟨m, hm⟩ : ∃ m, W.heap.size = m := ⟨_, rfl⟩; have HV := Lib.hid (valE_ok.keep (p' := fun k => w.heap.size + 1 ≤ k ∧ k < m) hcs (fun _ _ => rfl) (fun k hk => (by omega))); have HM := Lib.hid (show m ≤ W.heap.size by omega); clear hcs hm; clear hb HR1))
        | ((go_at_call 76; (with_reducible refine (HS3.out _ _ (al2b _ (.cells #[.int .i64 JP.kind, .bool JP.b, .int .i64 JP.n, .string (S JP.s), .slice IA JP.items.length ic, .slice MA JP.mems.length mc, .int .i64 JP.pos] 25) _)).mono ?_); rintro x W3 ⟨A3, c3, rfl, hrow, hb⟩; have hbX : Below W.heap.size W W3 := (((Below.refl _ _).alloc (Nat.le_refl _) _).alloc (by simp) _).trans (hb.mono (by simp; omega)); have HR3 := Lib.hid hrow; have R3 := Lib.hid (R.out.trans (hbX.mono hz)); have hz3 : w.heap.size + 1 ≤ W3.heap.size := (by have := R3.out.size; have := HZ0.out; omega); have HV3 := Lib.hid (valE_ok.keep HV.out (fun k hk => hbX.block k (by have := hk.2; have := HM.out; omega)) (fun _ h => h)); have HM3 := Lib.hid (show m ≤ W3.heap.size by have := HM.out; have := hbX.size; omega); have HT := Lib.hid ((hb.block W.heap.size (by simp; omega)).trans (al2a _ _ _)); have HNE := Lib.hid (show ∀ k, (Value.slice A3 3 c3).ownBlock = some k → k ≠ W.heap.size from fun k hk => by have := (hrow.lt k hk).1; simp at this; omega); clear hb hrow hbX))
        | ((go_at_call 76; (with_reducible refine (HS3.out _ _ (al2a _ _ (.cells #[.int .i64 JP.kind, .bool JP.b, .int .i64 JP.n, .string (S JP.s), .slice IA JP.items.length ic, .slice MA JP.mems.length mc, .int .i64 JP.pos] 25))).mono ?_); rintro x W3 ⟨A3, c3, rfl, hrow, hb⟩; have hbX : Below W.heap.size W W3 := (((Below.refl _ _).alloc (Nat.le_refl _) _).alloc (by simp) _).trans (hb.mono (by simp; omega)); have HR3 := Lib.hid hrow; have R3 := Lib.hid (R.out.trans (hbX.mono hz)); have hz3 : w.heap.size + 1 ≤ W3.heap.size := (by have := R3.out.size; have := HZ0.out; omega); have HV3 := Lib.hid (valE_ok.keep HV.out (fun k hk => hbX.block k (by have := hk.2; have := HM.out; omega)) (fun _ h => h)); have HM3 := Lib.hid (show m ≤ W3.heap.size by have := HM.out; have := hbX.size; omega); have HT := Lib.hid ((hb.block (W.heap.size + 1) (by simp)).trans (al2b _ _ _)); have HNE := Lib.hid (show ∀ k, (Value.slice A3 3 c3).ownBlock = some k → k ≠ W.heap.size + 1 from fun k hk => by have := (hrow.lt k hk).1; simp at this; omega); clear hb hrow hbX))
        | ((go_at_call 76; (with_reducible refine (HS3.out _ _ ((Below.heap_alloc _ (.cells #[.int .i64 JP.kind, .bool JP.b, .int .i64 JP.n, .string (S JP.s), .slice IA JP.items.length ic, .slice MA JP.mems.length mc, .int .i64 JP.pos] 25) _ (heap_lt HB.out)).trans HB.out)).mono ?_); rintro x W3 ⟨A3, c3, rfl, hrow, hb⟩; have hbX : Below W.heap.size W W3 := ((Below.refl _ _).alloc (Nat.le_refl _) _).trans (hb.mono (by simp)); have HR3 := Lib.hid hrow; have R3 := Lib.hid (R.out.trans (hbX.mono hz)); have hz3 : w.heap.size + 1 ≤ W3.heap.size := (by have := R3.out.size; have := HZ0.out; omega); have HV3 := Lib.hid (valE_ok.keep HV.out (fun k hk => hbX.block k (by have := hk.2; have := HM.out; omega)) (fun _ h => h)); have HM3 := Lib.hid (show m ≤ W3.heap.size by have := HM.out; have := hbX.size; omega); have HT := Lib.hid ((hb.block W.heap.size (by simp)).trans (heap_alloc_new _ _)); have HNE := Lib.hid (show ∀ k, (Value.slice A3 3 c3).ownBlock = some k → k ≠ W.heap.size from fun k hk => by have := (hrow.lt k hk).1; simp at this; omega); clear hb hrow hbX))
        | ((go_at_call 76; (with_reducible refine (HS3.out _ _ (heap_alloc_new W _)).mono ?_); rintro x W3 ⟨A3, c3, rfl, hrow, hb⟩; have hbX : Below W.heap.size W W3 := ((Below.refl _ _).alloc (Nat.le_refl _) _).trans (hb.mono (by simp)); have HR3 := Lib.hid hrow; have R3 := Lib.hid (R.out.trans (hbX.mono hz)); have hz3 : w.heap.size + 1 ≤ W3.heap.size := (by have := R3.out.size; have := HZ0.out; omega); have HV3 := Lib.hid (valE_ok.keep HV.out (fun k hk => hbX.block k (by have := hk.2; have := HM.out; omega)) (fun _ h => h)); have HM3 := Lib.hid (show m ≤ W3.heap.size by have := HM.out; have := hbX.size; omega); clear hb hrow hbX))
        | ((go_at_call 76; (with_reducible refine (HS3.out _ _ HB.out).mono ?_); rintro x W3 ⟨A3, c3, rfl, hrow, hb⟩; have hbX : Below W.heap.size W W3 := hb; have HR3 := Lib.hid hrow; have R3 := Lib.hid (R.out.trans (hbX.mono hz)); have hz3 : w.heap.size + 1 ≤ W3.heap.size := (by have := R3.out.size; have := HZ0.out; omega); have HV3 := Lib.hid (valE_ok.keep HV.out (fun k hk => hbX.block k (by have := hk.2; have := HM.out; omega)) (fun _ h => h)); have HM3 := Lib.hid (show m ≤ W3.heap.size by have := HM.out; have := hbX.size; omega); clear hb hrow hbX))
        | ((refine fee_app_step rfl _ _ rfl W3 (w.heap.size + 1) _ m JP _ ss js HJS.out A3 c3 _ rfl HT.out (by omega) (by have := HM.out; omega) HV3.out rfl HR3.out (by first | omega | (simp; omega)) HNE.out HL3.out ?_; intro A4 c4 W4 hr4 hb4; have HR4 := Lib.hid hr4; have R4 := Lib.hid (R3.out.trans hb4); clear hr4 hb4))
        | ((refine fee_app_step rfl _ _ rfl (W3.alloc (.cells #[.int .i64 JP.kind, .bool JP.b, .int .i64 JP.n, .string (S JP.s), .slice IA JP.items.length ic, .slice MA JP.mems.length mc, .int .i64 JP.pos] 25)) (w.heap.size + 1) W3.heap.size m JP _ ss js HJS.out A3 c3 _ rfl (heap_alloc_new W3 _) hz3 HM3.out (valE_ok.keep HV3.out (fun k hk => Below.heap_alloc _ _ _ (by have := hk.2; have := HM3.out; omega)) (fun _ h => h)) rfl (HR3.out.below valE_ok ((Below.refl _ _).alloc (Nat.le_refl _) _) (fun _ h => h.elim)) (by first | omega | (simp; omega)) (fun k hk => by have := (HR3.out.lt k hk).2; omega) HL3.out ?_; intro A4 c4 W4 hr4 hb4; have HR4 := Lib.hid hr4; have R4 := Lib.hid ((R3.out.alloc hz3 _).trans hb4); clear hr4 hb4)))
    all_goals
      go_wp2_with fail
      go_meet
      obtain ⟨p4, hr4, hp4⟩ := HR4.out
      exact ⟨A4, c4, p4, rfl, hr4, hp4, R4.out⟩
  case rest =>
    obtain ⟨A, c, p, rfl, hrow, hpj, hb⟩ := hcut
    have R := Lib.hid hb
    have HROW := Lib.hid hrow
    have HPJ := Lib.hid hpj
    have hz := hb.size
    have hz' : w.heap.size + 1 ≤ wc.heap.size := by have := HZ0.out; omega
    clear hrow hpj hb
    obtain ⟨k0, k1, k2, k3, k4⟩ := KEEP.out _ R.out
    go_wp2_with (first
      | (go_at_call 22; (with_reducible refine (int12_any f.upd _).mono ?_); rintro x w5 ⟨rfl, hb5⟩; have R5 := Lib.hid (R.out.trans (hb5.mono hz')); have hz5 : wc.heap.size ≤ w5.heap.size := hb5.size; have HR5 := Lib.hid (HROW.out.below valE_ok hb5 (fun j hj => (HPJ.out j hj).2.2)); clear hb5)
      | (with_reducible refine gate ?_; refine els_append valE_ok rfl _ _ rfl w5 (w.heap.size + 1) p (.slice A 4 c) js rfl HR5.out (jint f.upd) [.int .i64 2, .bool false, .int .i64 f.upd, .string (S []), .slice none 0 0, .slice none 0 0, .int .i64 0] w5.heap.size rfl rfl (jint_val f.upd _ _) (fun j hj => (HPJ.out j hj).1) (fun j hj => by have := (HPJ.out j hj).2.2; omega) (by omega) (by have := HJL.out; omega) ?_; intro g8 c8 w8 hat8 hlt8 hrow8 hgr8 hb8; have R8 := Lib.hid (R5.out.trans hb8); have hz8 : w.heap.size + 1 ≤ w8.heap.size := (by have := hb8.size; omega); have HE8 := Lib.hid (hrow8.elsP valE_ok (p' := (· < w8.heap.size)) (fun j hj => by have := (HPJ.out j hj).2.2; have := hb8.size; show j < w8.heap.size; omega) (fun k hk => (hrow8.lt k hk).2)); clear hat8 hrow8 hgr8 hb8)
      | (go_at_call 18; (with_reducible refine (HA2.out _ _ HE8.out).mono ?_); rintro x w9 ⟨v9, rfl, hv9, hb9⟩; have R9 := Lib.hid (R8.out.trans (hb9.mono hz8)); have hz9 : w.heap.size + 1 ≤ w9.heap.size := (by have := hb9.size; omega); have HV9 := Lib.hid (hv9.keep (p' := (· < w9.heap.size)) (fun _ _ => rfl) (fun k hk => hk.elim (fun h => Nat.lt_of_lt_of_le h hb9.size) (fun h => h.2))); clear hv9 hb9)
      | (go_at_call 14; (with_reducible refine (HWR.out _ _ (HW0.out.trans (R9.out.mono (Nat.le_succ _))) HV9.out).mono ?_); rintro x w10 ⟨rfl, hb10⟩; have R10 := Lib.hid (R9.out.trans (hb10.mono hz9)); clear hb10))
    go_ret
    exact ⟨rfl, HW0.out.trans (R10.out.mono (Nat.le_succ _))⟩
end Go.Proofs.YtadkgjbidhfefaaDoor
set_option linter.unusedVariables false
set_option linter.unusedSimpArgs false
namespace Go.Proofs.YtadkgjbidhfefaaDoor
open Go.RowKit

theorem keys_same {e f : En} (h1 : keyOf (entVal e) ≠ []) (h2 : keyOf (entVal f) ≠ []) : (keyOf (entVal e) == keyOf (entVal f)) = enEq e f := by
  have v1 : (strsE e).all utf8J = true := by cases h : (strsE e).all utf8J with | true => rfl | false => exact absurd (key_empty.2 h) h1
  have v2 : (strsE f).all utf8J = true := by cases h : (strsE f).all utf8J with | true => rfl | false => exact absurd (key_empty.2 h) h2
  rw [Bool.eq_iff_iff, beq_iff_eq, enEq_iff]
  exact ⟨key_inj v1 v2, fun h => by rw [h]⟩

set_option maxHeartbeats 16000000 in
set_option maxRecDepth 100000 in
theorem law13keys_any (e f : En) (g : Fe) (u : Value) (w : World) (hT : TabJ w) (he : EFit e) (hf : EFit f) (le : ELen e) (lf : ELen f) (hu : FeeV w (· < w.heap.size) g u) (lg : FLen g) (hg : FFit g) :
    Calls Tryd.prog 10 #[entV e, entV f, u] w fun x w' => x = .returned (.bool true) ∧ Below w.heap.size w w' := by
  have kp : ∀ {a : Fe} {x : Value} (W : World), Below w.heap.size w W → FeeV w (· < w.heap.size) a x → FeeV W (· < W.heap.size) a x := fun W hW hx => hx.keep hW.block (fun k hk => Nat.lt_of_lt_of_le hk hW.size)
  have hal := fun W => fun (hW : Below w.heap.size w W) => alive13_any W (hT.next hW)
  have l1 := fun W => fun (hW : Below w.heap.size w W) => large13_any g u W (kp W hW hu) lg
  have hek := fun (sz : esz e ≤ 5000) W => fun (hW : Below w.heap.size w W) => entryKey_any e W (hT.next hW) he (by unfold esz at sz; omega)
  have hfk := fun (sz : esz f ≤ 5000) W => fun (hW : Below w.heap.size w W) => entryKey_any f W (hT.next hW) hf (by unfold esz at sz; omega)
  have hre := fun (sz : esz e ≤ 5000) W => refEntryKey_any e W he (by unfold esz at sz; omega)
  have hrf := fun (sz : esz f ≤ 5000) W => refEntryKey_any f W hf (by unfold esz at sz; omega)
  have hgk := fun (sz : FSz g) W => fun (hW : Below w.heap.size w W) => feedKey_any g u W (hT.next hW) hg.1 sz (kp W hW hu)
  have hrg := fun (sz : FSz g) W => fun (hW : Below w.heap.size w W) => refFeedKey_any g u W hg.1 sz (kp W hW hu)
  have sz : wtF 0 [g] = false → FSz g := fun ha => (wtF_no ha (by omega)).2 _ (by simp)
  have hkk := @keys_same e f
  have heq := fun W => run_eq_ent e f W
  obtain ⟨n1, n2, n3, n4⟩ := le
  obtain ⟨m1, m2, m3, m4⟩ := lf
  obtain ⟨P3, p3, E3, e3, rfl, hp3, he3, _, _⟩ := hu.open_
  have B0 := Lib.hid (Box3F.new w (entBox e) (entBox f) (feeBox g P3 p3 E3 e3))
  have W0 : Hid (Below w.heap.size w (((w.alloc (entBox e)).alloc (entBox f)).alloc (feeBox g P3 p3 E3 e3))) := (((Below.refl _ _).alloc (Nat.le_refl _) _).alloc (by simp) _).alloc (by simp; omega) _
  have HAL := Lib.hid hal
  have L1 := Lib.hid l1
  have HCE : Hid (∀ W, Box3F W w.heap.size (entBox e) (entBox f) (feeBox g P3 p3 E3 e3) → (W.cell? ⟨w.heap.size, 0, none⟩ = some (.string (S e.id)) ∧ W.cell? ⟨w.heap.size, 1, none⟩ = some (.string (S e.title)) ∧ W.cell? ⟨w.heap.size, 2, none⟩ = some (.string (S e.link)) ∧ W.cell? ⟨w.heap.size, 3, none⟩ = some (.string (S e.content)) ∧ W.cell? ⟨w.heap.size, 4, none⟩ = some (.int .i64 e.upd)) ∧ (W.cell? ⟨w.heap.size + 1, 0, none⟩ = some (.string (S f.id)) ∧ W.cell? ⟨w.heap.size + 1, 1, none⟩ = some (.string (S f.title)) ∧ W.cell? ⟨w.heap.size + 1, 2, none⟩ = some (.string (S f.link)) ∧ W.cell? ⟨w.heap.size + 1, 3, none⟩ = some (.string (S f.content)) ∧ W.cell? ⟨w.heap.size + 1, 4, none⟩ = some (.int .i64 f.upd)) ∧ (W.cell? ⟨w.heap.size + 1 + 1, 0, none⟩ = some (.slice P3 g.path.length p3) ∧ W.cell? ⟨w.heap.size + 1 + 1, 1, none⟩ = some (.string (S g.id)) ∧ W.cell? ⟨w.heap.size + 1 + 1, 2, none⟩ = some (.string (S g.title)) ∧ W.cell? ⟨w.heap.size + 1 + 1, 3, none⟩ = some (.string (S g.link)) ∧ W.cell? ⟨w.heap.size + 1 + 1, 4, none⟩ = some (.int .i64 g.upd) ∧ W.cell? ⟨w.heap.size + 1 + 1, 5, none⟩ = some (.slice E3 g.ents.length e3))) := fun W hW => ⟨cells5 hW.one, cells5 hW.two, cells6 hW.thr⟩
  clear hal l1 hu kp hp3 he3 lg
  have c0 := HCE.out _ B0.out
  have hdec : (5000 < esz e ∨ 5000 < esz f ∨ wtF 0 [g] = true) ∨ (esz e ≤ 5000 ∧ esz f ≤ 5000 ∧ wtF 0 [g] = false) := by
    by_cases h1 : 5000 < esz e
    · exact .inl (.inl h1)
    by_cases h2 : 5000 < esz f
    · exact .inl (.inr (.inl h2))
    cases h3 : wtF 0 [g] with
    | true => exact .inl (.inr (.inr rfl))
    | false => exact .inr ⟨by omega, by omega, rfl⟩
  rcases hdec with hdec | ⟨s1, s2, s3⟩
  · clear hek hfk hre hrf hgk hrg hkk heq sz
    generalize wtF 0 [g] = k3 at *
    have hcase : (∃ _ : (5000 : Int) < (e.id.length : Int) + e.title.length + e.link.length + e.content.length, True) ∨ (∃ (_ : ¬ (5000 : Int) < (e.id.length : Int) + e.title.length + e.link.length + e.content.length) (_ : (5000 : Int) < (f.id.length : Int) + f.title.length + f.link.length + f.content.length), True) ∨ (∃ (_ : ¬ (5000 : Int) < (e.id.length : Int) + e.title.length + e.link.length + e.content.length) (_ : ¬ (5000 : Int) < (f.id.length : Int) + f.title.length + f.link.length + f.content.length), k3 = true) := by
      unfold esz at hdec
      by_cases h1 : (5000 : Int) < (e.id.length : Int) + e.title.length + e.link.length + e.content.length
      · exact .inl ⟨h1, trivial⟩
      by_cases h2 : (5000 : Int) < (f.id.length : Int) + f.title.length + f.link.length + f.content.length
      · exact .inr (.inl ⟨h1, h2, trivial⟩)
      · exact .inr (.inr ⟨h1, h2, by rcases hdec with h | h | h; (· omega); (· omega); exact h⟩)
    clear hdec hT he hf hg
    obtain ⟨⟨a0, a1, a2, a3, a4⟩, ⟨b0, b1, b2, b3, b4⟩, c0, c1, c2, c3, c4, c5⟩ := c0
    rcases hcase with ⟨q1, _⟩ | ⟨q1, q2, _⟩ | ⟨q1, q2, rfl⟩
    all_goals
      go_enter Tryd.func10, Tryd.ntmps10
      go_wp2_with (first
        | (go_at_call 34; (with_reducible refine (L1.out _ W0.out).mono ?_); rintro x w1 ⟨rfl, hb1⟩; have W1 := Lib.hid (W0.out.trans (hb1.mono W0.out.size)); clear hb1)
        | (go_at_call 27; (with_reducible refine (HAL.out _ W1.out).mono ?_); rintro x w4 ⟨rfl, hb4⟩; have W4 := Lib.hid (W1.out.trans (hb4.mono W1.out.size)); clear hb4)
        | (go_at_call 27; (with_reducible refine (HAL.out _ W0.out).mono ?_); rintro x w4 ⟨rfl, hb4⟩; have W4 := Lib.hid (W0.out.trans (hb4.mono W0.out.size)); clear hb4))
      go_ret
      exact ⟨rfl, W4.out⟩
  · have q1 : ¬ (5000 : Int) < (e.id.length : Int) + e.title.length + e.link.length + e.content.length := by unfold esz at s1; omega
    have q2 : ¬ (5000 : Int) < (f.id.length : Int) + f.title.length + f.link.length + f.content.length := by unfold esz at s2; omega
    have HEK := Lib.hid (hek s1)
    have HFK := Lib.hid (hfk s2)
    have HRE := Lib.hid (hre s1)
    have HRF := Lib.hid (hrf s2)
    have HGK := Lib.hid (hgk (sz s3))
    have HRG := Lib.hid (hrg (sz s3))
    have HEQ := Lib.hid heq
    have HKK := Lib.hid (fun h1 h2 => hkk h1 h2)
    clear hek hfk hre hrf hgk hrg heq hkk
    generalize keyOf (entVal e) = X at *
    generalize keyOf (entVal f) = Y at *
    generalize keyOf (feeVal g) = Z at *
    generalize enEq e f = q at *
    rw [s3] at L1
    clear s1 s2 s3 sz hT he hf hg
    obtain ⟨⟨a0, a1, a2, a3, a4⟩, ⟨b0, b1, b2, b3, b4⟩, c0, c1, c2, c3, c4, c5⟩ := c0
    go_enter Tryd.func10, Tryd.ntmps10
    go_wp2_with (go_at_call 34; (with_reducible refine (L1.out _ W0.out).mono ?_); rintro x w1 ⟨rfl, hb1⟩; have HB := Lib.hid (W0.out.trans (hb1.mono W0.out.size)); have B1 := Lib.hid (B0.out.next hb1); clear hb1)
    have hsz := HB.out.size
    have KEEP : Hid (∀ W, Below w1.heap.size w1 W → (W.cell? ⟨w.heap.size, 0, none⟩ = some (.string (S e.id)) ∧ W.cell? ⟨w.heap.size, 1, none⟩ = some (.string (S e.title)) ∧ W.cell? ⟨w.heap.size, 2, none⟩ = some (.string (S e.link)) ∧ W.cell? ⟨w.heap.size, 3, none⟩ = some (.string (S e.content)) ∧ W.cell? ⟨w.heap.size, 4, none⟩ = some (.int .i64 e.upd)) ∧ (W.cell? ⟨w.heap.size + 1, 0, none⟩ = some (.string (S f.id)) ∧ W.cell? ⟨w.heap.size + 1, 1, none⟩ = some (.string (S f.title)) ∧ W.cell? ⟨w.heap.size + 1, 2, none⟩ = some (.string (S f.link)) ∧ W.cell? ⟨w.heap.size + 1, 3, none⟩ = some (.string (S f.content)) ∧ W.cell? ⟨w.heap.size + 1, 4, none⟩ = some (.int .i64 f.upd)) ∧ (W.cell? ⟨w.heap.size + 1 + 1, 0, none⟩ = some (.slice P3 g.path.length p3) ∧ W.cell? ⟨w.heap.size + 1 + 1, 1, none⟩ = some (.string (S g.id)) ∧ W.cell? ⟨w.heap.size + 1 + 1, 2, none⟩ = some (.string (S g.title)) ∧ W.cell? ⟨w.heap.size + 1 + 1, 3, none⟩ = some (.string (S g.link)) ∧ W.cell? ⟨w.heap.size + 1 + 1, 4, none⟩ = some (.int .i64 g.upd) ∧ W.cell? ⟨w.heap.size + 1 + 1, 5, none⟩ = some (.slice E3 g.ents.length e3))) := fun W hW => HCE.out _ (B1.out.next hW)
    clear a0 a1 a2 a3 a4 b0 b1 b2 b3 b4 c0 c1 c2 c3 c4 c5
    go_wp2_with fail
    go_cut [7, 8] (fun s7 s8 wx => s7 = .string (S X) ∧ s8 = .string (S Y) ∧ Below w1.heap.size w1 wx)
    case first =>
      go_region_held3 (fun x => (x.cell? ⟨w.heap.size, 0, none⟩ = some (.string (S e.id)) ∧ x.cell? ⟨w.heap.size, 1, none⟩ = some (.string (S e.title)) ∧ x.cell? ⟨w.heap.size, 2, none⟩ = some (.string (S e.link)) ∧ x.cell? ⟨w.heap.size, 3, none⟩ = some (.string (S e.content)) ∧ x.cell? ⟨w.heap.size, 4, none⟩ = some (.int .i64 e.upd)) ∧ (x.cell? ⟨w.heap.size + 1, 0, none⟩ = some (.string (S f.id)) ∧ x.cell? ⟨w.heap.size + 1, 1, none⟩ = some (.string (S f.title)) ∧ x.cell? ⟨w.heap.size + 1, 2, none⟩ = some (.string (S f.link)) ∧ x.cell? ⟨w.heap.size + 1, 3, none⟩ = some (.string (S f.content)) ∧ x.cell? ⟨w.heap.size + 1, 4, none⟩ = some (.int .i64 f.upd)) ∧ (x.cell? ⟨w.heap.size + 1 + 1, 0, none⟩ = some (.slice P3 g.path.length p3) ∧ x.cell? ⟨w.heap.size + 1 + 1, 1, none⟩ = some (.string (S g.id)) ∧ x.cell? ⟨w.heap.size + 1 + 1, 2, none⟩ = some (.string (S g.title)) ∧ x.cell? ⟨w.heap.size + 1 + 1, 3, none⟩ = some (.string (S g.link)) ∧ x.cell? ⟨w.heap.size + 1 + 1, 4, none⟩ = some (.int .i64 g.upd) ∧ x.cell? ⟨w.heap.size + 1 + 1, 5, none⟩ = some (.slice E3 g.ents.length e3)))
        (first | exact KEEP.out _ r2 | exact KEEP.out _ r1 | exact KEEP.out _ (Below.refl _ _).drew)
        (first
          | ((go_at_call 41; (with_reducible refine (HEK.out _ (HB.out.trans (r1.mono hsz))).mono ?_); rintro x y2 ⟨rfl, hb⟩; have r2 := r1.trans (hb.mono z1); have z2 : w1.heap.size ≤ y2.heap.size := r2.size; clear hb))
          | ((go_at_call 41; (with_reducible refine (HFK.out _ (HB.out.trans (r1.mono hsz))).mono ?_); rintro x y2 ⟨rfl, hb⟩; have r2 := r1.trans (hb.mono z1); have z2 : w1.heap.size ≤ y2.heap.size := r2.size; clear hb))
          | ((go_at_call 41; (with_reducible refine (HEK.out _ HB.out.drew).mono ?_); rintro x y1 ⟨rfl, hb⟩; have r1 := (Below.refl w1.heap.size w1).drew.trans hb; have z1 : w1.heap.size ≤ y1.heap.size := r1.size; clear hb))
          | ((go_at_call 41; (with_reducible refine (HFK.out _ HB.out.drew).mono ?_); rintro x y1 ⟨rfl, hb⟩; have r1 := (Below.refl w1.heap.size w1).drew.trans hb; have z1 : w1.heap.size ≤ y1.heap.size := r1.size; clear hb)))
      all_goals
        go_wp2_with fail
        go_meet
        exact ⟨rfl, rfl, r2⟩
    case rest =>
      obtain ⟨rfl, rfl, hbc⟩ := hcut
      obtain ⟨wb, ewb⟩ : ∃ x, x = wc := ⟨_, rfl⟩
      subst ewb
      have HC := Lib.hid (HB.out.trans (hbc.mono hsz))
      have hsc := HC.out.size
      have KEEP4 : Hid (∀ W, Below wb.heap.size wb W → (W.cell? ⟨w.heap.size, 0, none⟩ = some (.string (S e.id)) ∧ W.cell? ⟨w.heap.size, 1, none⟩ = some (.string (S e.title)) ∧ W.cell? ⟨w.heap.size, 2, none⟩ = some (.string (S e.link)) ∧ W.cell? ⟨w.heap.size, 3, none⟩ = some (.string (S e.content)) ∧ W.cell? ⟨w.heap.size, 4, none⟩ = some (.int .i64 e.upd)) ∧ (W.cell? ⟨w.heap.size + 1, 0, none⟩ = some (.string (S f.id)) ∧ W.cell? ⟨w.heap.size + 1, 1, none⟩ = some (.string (S f.title)) ∧ W.cell? ⟨w.heap.size + 1, 2, none⟩ = some (.string (S f.link)) ∧ W.cell? ⟨w.heap.size + 1, 3, none⟩ = some (.string (S f.content)) ∧ W.cell? ⟨w.heap.size + 1, 4, none⟩ = some (.int .i64 f.upd)) ∧ (W.cell? ⟨w.heap.size + 1 + 1, 0, none⟩ = some (.slice P3 g.path.length p3) ∧ W.cell? ⟨w.heap.size + 1 + 1, 1, none⟩ = some (.string (S g.id)) ∧ W.cell? ⟨w.heap.size + 1 + 1, 2, none⟩ = some (.string (S g.title)) ∧ W.cell? ⟨w.heap.size + 1 + 1, 3, none⟩ = some (.string (S g.link)) ∧ W.cell? ⟨w.heap.size + 1 + 1, 4, none⟩ = some (.int .i64 g.upd) ∧ W.cell? ⟨w.heap.size + 1 + 1, 5, none⟩ = some (.slice E3 g.ents.length e3))) := fun W hW => HCE.out _ ((B1.out.next hbc).next hW)
      clear hbc KEEP
      go_wp2_with fail
      go_cut [68] (fun s68 wx => s68 = .bool false ∧ Below wb.heap.size wb wx)
      case first =>
        go_region_held3 (fun x => (x.cell? ⟨w.heap.size, 0, none⟩ = some (.string (S e.id)) ∧ x.cell? ⟨w.heap.size, 1, none⟩ = some (.string (S e.title)) ∧ x.cell? ⟨w.heap.size, 2, none⟩ = some (.string (S e.link)) ∧ x.cell? ⟨w.heap.size, 3, none⟩ = some (.string (S e.content)) ∧ x.cell? ⟨w.heap.size, 4, none⟩ = some (.int .i64 e.upd)) ∧ (x.cell? ⟨w.heap.size + 1, 0, none⟩ = some (.string (S f.id)) ∧ x.cell? ⟨w.heap.size + 1, 1, none⟩ = some (.string (S f.title)) ∧ x.cell? ⟨w.heap.size + 1, 2, none⟩ = some (.string (S f.link)) ∧ x.cell? ⟨w.heap.size + 1, 3, none⟩ = some (.string (S f.content)) ∧ x.cell? ⟨w.heap.size + 1, 4, none⟩ = some (.int .i64 f.upd)) ∧ (x.cell? ⟨w.heap.size + 1 + 1, 0, none⟩ = some (.slice P3 g.path.length p3) ∧ x.cell? ⟨w.heap.size + 1 + 1, 1, none⟩ = some (.string (S g.id)) ∧ x.cell? ⟨w.heap.size + 1 + 1, 2, none⟩ = some (.string (S g.title)) ∧ x.cell? ⟨w.heap.size + 1 + 1, 3, none⟩ = some (.string (S g.link)) ∧ x.cell? ⟨w.heap.size + 1 + 1, 4, none⟩ = some (.int .i64 g.upd) ∧ x.cell? ⟨w.heap.size + 1 + 1, 5, none⟩ = some (.slice E3 g.ents.length e3)))
          (first | exact KEEP4.out _ R.out | exact KEEP4.out _ (Below.refl _ _).drew)
          (first
            | ((go_at_call 42; (with_reducible refine (HRE.out _).mono ?_); rintro x W ⟨rfl, hb⟩; have R := Lib.hid ((Below.refl wb.heap.size wb).drew.trans hb); have hz : wb.heap.size ≤ W.heap.size := R.out.size; clear hb))
            | ((go_at_call 42; (with_reducible refine (HRF.out _).mono ?_); rintro x W ⟨rfl, hb⟩; have R := Lib.hid (R.out.trans (hb.mono hz)); have hz : wb.heap.size ≤ W.heap.size := R.out.size; clear hb))
            | ((go_at_call 43; (with_reducible refine (HGK.out _ (HC.out.trans (R.out.mono hsc))).mono ?_); rintro x W ⟨rfl, hb⟩; have R := Lib.hid (R.out.trans (hb.mono hz)); have hz : wb.heap.size ≤ W.heap.size := R.out.size; clear hb))
            | ((go_at_call 44; (with_reducible refine (HRG.out _ (HC.out.trans (R.out.mono hsc))).mono ?_); rintro x W ⟨rfl, hb⟩; have R := Lib.hid (R.out.trans (hb.mono hz)); have hz : wb.heap.size ≤ W.heap.size := R.out.size; clear hb)))
        all_goals
          go_wp2_with fail
          go_meet
          exact ⟨rfl, R.out⟩
      case rest =>
        obtain ⟨rfl, hbd⟩ := hcut
        have HD := Lib.hid (HC.out.trans (hbd.mono hsc))
        have hsd := HD.out.size
        have KEEP5 : Hid (∀ W, Below wc.heap.size wc W → (W.cell? ⟨w.heap.size, 0, none⟩ = some (.string (S e.id)) ∧ W.cell? ⟨w.heap.size, 1, none⟩ = some (.string (S e.title)) ∧ W.cell? ⟨w.heap.size, 2, none⟩ = some (.string (S e.link)) ∧ W.cell? ⟨w.heap.size, 3, none⟩ = some (.string (S e.content)) ∧ W.cell? ⟨w.heap.size, 4, none⟩ = some (.int .i64 e.upd)) ∧ (W.cell? ⟨w.heap.size + 1, 0, none⟩ = some (.string (S f.id)) ∧ W.cell? ⟨w.heap.size + 1, 1, none⟩ = some (.string (S f.title)) ∧ W.cell? ⟨w.heap.size + 1, 2, none⟩ = some (.string (S f.link)) ∧ W.cell? ⟨w.heap.size + 1, 3, none⟩ = some (.string (S f.content)) ∧ W.cell? ⟨w.heap.size + 1, 4, none⟩ = some (.int .i64 f.upd)) ∧ (W.cell? ⟨w.heap.size + 1 + 1, 0, none⟩ = some (.slice P3 g.path.length p3) ∧ W.cell? ⟨w.heap.size + 1 + 1, 1, none⟩ = some (.string (S g.id)) ∧ W.cell? ⟨w.heap.size + 1 + 1, 2, none⟩ = some (.string (S g.title)) ∧ W.cell? ⟨w.heap.size + 1 + 1, 3, none⟩ = some (.string (S g.link)) ∧ W.cell? ⟨w.heap.size + 1 + 1, 4, none⟩ = some (.int .i64 g.upd) ∧ W.cell? ⟨w.heap.size + 1 + 1, 5, none⟩ = some (.slice E3 g.ents.length e3))) := fun W hW => KEEP4.out _ (hbd.trans (hW.mono hbd.size))
        have heq := HEQ.out
        clear hbd KEEP4
        have hxy : X = [] ∨ (∃ (_ : X.isEmpty = false) (_ : (X == []) = false), Y = []) ∨ (∃ (_ : X.isEmpty = false) (_ : (X == []) = false) (_ : Y.isEmpty = false) (_ : (Y == []) = false), (X == Y) = q) := by
          have hne : ∀ {x : Bytes}, x ≠ [] → x.isEmpty = false ∧ (x == []) = false := fun {x} h => by cases x with | nil => exact absurd rfl h | cons a t => exact ⟨rfl, rfl⟩
          by_cases h1 : X = []
          · exact .inl h1
          by_cases h2 : Y = []
          · exact .inr (.inl ⟨(hne h1).1, (hne h1).2, h2⟩)
          · exact .inr (.inr ⟨(hne h1).1, (hne h1).2, (hne h2).1, (hne h2).2, HKK.out h1 h2⟩)
        clear HKK HEQ
        rcases hxy with rfl | ⟨x1, x2, rfl⟩ | ⟨x1, x2, y1, y2, rfl⟩
        all_goals
          go_wp2_with (go_at_call 27; (with_reducible refine (HAL.out _ HD.out).mono ?_); rintro x w6 ⟨rfl, hb⟩; have R := Lib.hid (HD.out.trans (hb.mono hsd)); obtain ⟨⟨a0, a1, a2, a3, a4⟩, ⟨b0, b1, b2, b3, b4⟩, c0, c1, c2, c3, c4, c5⟩ := KEEP5.out _ hb; clear hb)
          go_ret
          exact ⟨rfl, R.out⟩
end Go.Proofs.YtadkgjbidhfefaaDoor
