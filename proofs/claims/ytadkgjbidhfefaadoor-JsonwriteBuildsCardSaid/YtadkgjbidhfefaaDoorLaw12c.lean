/-
  Walks of chapter 12's statements: Builds.
-/
import Derived.Test.YtadkgjbidhfefaaDoorBld12
import Derived.Test.YtadkgjbidhfefaaDoorRefJC
import Derived.Deep.DeepCutAuto
import Derived.Deep.RegionHeld3
set_option linter.unusedVariables false
set_option linter.unusedSimpArgs false
namespace Go.Proofs.YtadkgjbidhfefaaDoor
open Go.RowKit

theorem cell_of_block {W V : World} {b : Nat} (h : W.heap[b]? = V.heap[b]?) (k : Nat) : W.cell? ⟨b, k, none⟩ = V.cell? ⟨b, k, none⟩ := by
  unfold World.cell?
  simp only [h]
abbrev bareV (k : Int) (b : Bool) (n : Int) (s : Bytes) : Value := .agg #[.int .i64 k, .bool b, .int .i64 n, .string (S s), .slice none 0 0, .slice none 0 0, .int .i64 0]
def mb (s : Bytes) (x : JV) : JM := .mk s x 0
theorem fitM_map (s : Bytes) : ∀ {l : List JV}, JFitL l → JFitM (l.map (mb s))
  | [], _ => by rw [List.map_nil, JFitM]; trivial
  | v :: l, h => by
    rw [JFitL] at h
    rw [List.map_cons, mb, JFitM]
    exact ⟨h.1, fitM_map s h.2⟩
theorem fitL_get : ∀ {l : List JV}, JFitL l → ∀ x ∈ l, JFit x
  | [], _, x, h => by cases h
  | v :: l, h, x, hx => by
    rw [JFitL] at h
    rcases List.mem_cons.1 hx with rfl | hx
    · exact h.1
    · exact fitL_get h.2 x hx
theorem valV_arr {W : World} {p : Nat → Prop} {l : List JV} {v : Value} (h : ValV W p (jarr l) v) : ∃ IA ic MA mc, v = .agg #[.int .i64 4, .bool false, .int .i64 0, .string (S []), .slice IA l.length ic, .slice MA 0 mc, .int .i64 0] := by
  obtain ⟨IA, ic, MA, mc, e, _⟩ := h.open_
  exact ⟨IA, ic, MA, mc, e⟩

theorem valV_obj {W : World} {p : Nat → Prop} {l : List JV} {s : Bytes} {A : Option Addr} {c : Nat} (h : ElsP memE W p (.slice A l.length c) (l.map (mb s))) : ValV W p (jobj (l.map (mb s))) (.agg #[.int .i64 5, .bool false, .int .i64 0, .string (S []), .slice none 0 0, .slice A l.length c, .int .i64 0]) := by
  have hml : (l.map (mb s)).length = l.length := by simp
  have : ValV W p (jobj (l.map (mb s))) (.agg #[.int .i64 5, .bool false, .int .i64 0, .string (S []), .slice none 0 0, .slice A (l.map (mb s)).length c, .int .i64 0]) :=
    ⟨_, rfl, ValP.of_open (n := jobj (l.map (mb s))) (ElsP.nil _ _ _) (by show ElsP memE W p (.slice A (l.map (mb s)).length c) (l.map (mb s)); rw [hml]; exact h)⟩
  rw [hml] at this
  exact this
theorem ElRow.get {α : Type} {E : Elt α} (hE : E.Ok) {w : World} {base : Nat} {p : Nat → Prop} {g n cap : Nat} {l : List α} (h : ElRow E w base p (.slice (some ⟨g, 0, none⟩) n cap) l) {i : Nat} (hi : i < l.length) : ∃ cs, E.El w p l[i] cs ∧ w.rangeAt g (i * E.c) cs := by
  obtain ⟨css, hl, hin, h⟩ := h
  have hlen : ∀ cs ∈ css, cs.length = E.c := fun cs hcs => by
    obtain ⟨i, hi⟩ := List.getElem?_of_mem hcs
    have hik : i < l.length := by rw [← hl]; exact (List.getElem?_eq_some_iff.1 hi).1
    exact hE.len (hin i _ cs (List.getElem?_eq_getElem hik) hi)
  have hik : i < css.length := by rw [hl]; exact hi
  refine ⟨css[i], hin i _ _ (List.getElem?_eq_getElem hi) (List.getElem?_eq_getElem hik), fun j u hu => ?_⟩
  have hj : j < E.c := by have := (List.getElem?_eq_some_iff.1 hu).1; rw [hlen _ (List.getElem_mem hik)] at this; exact this
  have hx := flat_at (c := E.c) (css := css) hlen (i := i) (j := j) (List.getElem?_eq_getElem hik) hj
  have := h.cells (g := g) rfl (i * E.c + j) u (by rw [hx]; exact hu)
  rw [add_zero_block] at this
  exact this
theorem ElRow.heapOf {α : Type} {E : Elt α} {w : World} {base : Nat} {p : Nat → Prop} {A : Option Addr} {n cap : Nat} {l : List α} (h : ElRow E w base p (.slice A n cap) l) (hl : 0 < l.length) : ∃ g cur, A = some ⟨g, 0, none⟩ ∧ base ≤ g ∧ w.heap[g]? = some (.cells cur E.T (0, 0)) ∧ l.length * E.c ≤ cur.size := by
  obtain ⟨css, _, _, h3⟩ := h
  rcases h3.2 with ⟨_, h0⟩ | ⟨g, cap', cur, hv, hg, hh, hc, _, hs, _⟩
  · omega
  · cases hv
    exact ⟨g, cur, rfl, hg, hh, by rw [hs]; exact Nat.mul_le_mul_right _ hc⟩

set_option maxHeartbeats 16000000 in
set_option maxRecDepth 100000 in
theorem law12builds_any (l : List JV) (u : Value) (s : Bytes) (n : Int) (w : World) (hT : TabJ w) (hfl : JFitL l) (hll : l.length ≤ 1500000000000) (hu : ElsP valE w (· < w.heap.size) u l) (hsl : s.length ≤ 9223372036854775807) (hn : -9223372036854775808 ≤ n ∧ n ≤ 9223372036854775807) :
    Calls Tryd.prog 4 #[u, .string (S s), .int .i64 n] w fun e w' => e = .returned (.bool true) ∧ Below w.heap.size w w' := by
  have kp : ∀ W, Below w.heap.size w W → ElsP valE W (· < W.heap.size) u l := fun W hW => hu.keep valE_ok hW.block (fun k hk => Nat.lt_of_lt_of_le hk hW.size)
  have hal := fun W => fun (hW : Below w.heap.size w W) => alive12_any W (hT.next hW)
  have hf0 : JFit (.mk 0 false 0 [] l [] 0) := by rw [JFit]; exact ⟨⟨by omega, by simp, by omega, by omega⟩, hfl, by rw [JFitM]; trivial⟩
  obtain ⟨A, ca, rfl, hca⟩ := hu.slice
  have htl : ∀ W, Below w.heap.size w W → Calls Tryd.prog 12 #[.agg #[.int .i64 0, .bool false, .int .i64 0, .string ⟨#[]⟩, .slice A l.length ca, .slice none 0 0, .int .i64 0]] W fun e w' => e = .returned (.int .i64 (bigJ (.mk 0 false 0 [] l [] 0))) ∧ Below W.heap.size W w' := fun W hW => tooLarge12_any (.mk 0 false 0 [] l [] 0) _ W hf0 ⟨_, rfl, ValP.of_open (n := .mk 0 false 0 [] l [] 0) (kp W hW) (ElsP.nil _ _ _)⟩
  have HAL := Lib.hid hal
  have HTL := Lib.hid htl
  have hcase : (20 < l.length ∨ (l.length ≤ 20 ∧ bigJ (.mk 0 false 0 [] l [] 0) = 1) ∨ (l.length ≤ 20 ∧ bigJ (.mk 0 false 0 [] l [] 0) = 0 ∧ 1000 < s.length)) ∨ (l.length ≤ 20 ∧ bigJ (.mk 0 false 0 [] l [] 0) = 0 ∧ s.length ≤ 1000) := by
    by_cases h1 : 20 < l.length
    · exact .inl (.inl h1)
    · by_cases h2 : bigJ (.mk 0 false 0 [] l [] 0) = 1
      · exact .inl (.inr (.inl ⟨by omega, h2⟩))
      · have h3 : bigJ (.mk 0 false 0 [] l [] 0) = 0 := by unfold bigJ at h2 ⊢; split at h2 <;> simp_all
        by_cases h4 : 1000 < s.length
        · exact .inl (.inr (.inr ⟨by omega, h3, h4⟩))
        · exact .inr ⟨by omega, h3, by omega⟩
  clear hal htl
  generalize bigJ (.mk 0 false 0 [] l [] 0) = bj at *
  rcases hcase with hbig | ⟨h1, rfl, h3⟩
  · clear kp hf0 hfl hu hT
    rcases hbig with h1 | ⟨h1, rfl⟩ | ⟨h1, rfl, h3⟩
    · have q1 : (20 : Int) < (l.length : Int) := by omega
      go_enter Tryd.func4, Tryd.ntmps4
      go_wp2_with (go_at_call 13; refine (HAL.out _ (Below.refl _ _)).mono ?_; rintro e w2 ⟨rfl, hb2⟩)
      go_ret
      exact ⟨rfl, hb2⟩
    · have q1 : ¬ (20 : Int) < (l.length : Int) := by omega
      go_enter Tryd.func4, Tryd.ntmps4
      go_wp2_with (first
        | (go_at_call 12; refine (HTL.out _ (Below.refl _ _)).mono ?_; rintro e w1 ⟨rfl, hb1⟩)
        | (go_at_call 13; refine (HAL.out _ hb1).mono ?_; rintro e w2 ⟨rfl, hb2⟩))
      go_ret
      exact ⟨rfl, hb1.trans (hb2.mono hb1.size)⟩
    · have q1 : ¬ (20 : Int) < (l.length : Int) := by omega
      have q3 : (1000 : Int) < (s.length : Int) := by omega
      go_enter Tryd.func4, Tryd.ntmps4
      go_wp2_with (first
        | (go_at_call 12; refine (HTL.out _ (Below.refl _ _)).mono ?_; rintro e w1 ⟨rfl, hb1⟩)
        | (go_at_call 13; refine (HAL.out _ hb1).mono ?_; rintro e w2 ⟨rfl, hb2⟩))
      go_ret
      exact ⟨rfl, hb1.trans (hb2.mono hb1.size)⟩
  · have q1 : ¬ (20 : Int) < (l.length : Int) := by omega
    have q3 : ¬ (1000 : Int) < (s.length : Int) := by omega
    have HU := Lib.hid hu
    have HFL := Lib.hid hfl
    have HKP := Lib.hid kp
    have HTT := Lib.hid hT
    clear kp hf0 hfl hu hT
    go_enter Tryd.func4, Tryd.ntmps4
    go_wp2_with (go_at_call 12; refine (HTL.out _ (Below.refl _ _)).mono ?_; rintro e w1 ⟨rfl, hb1⟩)
    have HB1 := Lib.hid hb1
    clear hb1 q1 q3
    go_loopw [7, 30] (fun s7 i30 wr => ∃ (i : Nat) (M : Option Addr) (c : Nat), i ≤ l.length ∧ i30 = .int .i64 i ∧ s7 = .slice M i c ∧ ElRow memE wr w.heap.size (· < w.heap.size) (.slice M i c) ((l.take i).map (mb s)) ∧ Below w.heap.size w wr) (fun _ i30 _ => l.length - (intOf i30).toNat)
    case atStart => exact ⟨0, none, 0, Nat.zero_le _, rfl, rfl, ElRow.nil _ _ _ _, HB1.out⟩
    case round =>
      obtain ⟨i, M, c, hi, rfl, rfl, hrow, hb⟩ := hrel
      clear HB1
      have hil : ((l.take i).map (mb s)).length = i := by simp; omega
      have HB := Lib.hid hb
      have hsz := hb.size
      by_cases hlt : i < l.length
      · have hlt' : (i : Int) < l.length := by omega
        obtain ⟨b, off, cs, rfl, hpb, hra, hcs⟩ := (HU.out.keep valE_ok hb.block (fun _ h => h)).at_ hlt
        have hacc : (l.take (i + 1)).map (mb s) = (l.take i).map (mb s) ++ [mb s l[i]] := by rw [List.take_succ_eq_append_getElem hlt, List.map_append]; rfl
        generalize l[i] = X at *
        have hcs' : ∀ W, Below w.heap.size wr W → ValP W (· < w.heap.size) X cs := fun W hW => ValP.keep hW.block (fun _ h => h) _ _ hcs
        obtain ⟨IA, ic, MA, mc, rfl⟩ := ValP.cells hcs
        have HCS := Lib.hid hcs'
        have HRA := Lib.hid hra
        have HACC := Lib.hid hacc
        have hlt2 := hrow.lt
        have hrow1 := hrow.below memE_ok ((Below.refl wr.heap.size wr).alloc (Nat.le_refl _) (valBox X IA ic MA mc)) (fun k hk => Nat.lt_of_lt_of_le hk hsz)
        have HROW := Lib.hid hrow1
        have HLT := Lib.hid hlt2
        have HW1 := Lib.hid (hb.alloc hsz (valBox X IA ic MA mc))
        have HBW := Lib.hid ((Below.refl w.heap.size wr).alloc hsz (valBox X IA ic MA mc))
        clear hcs hcs' hra hacc hrow hrow1 hlt2 hb
        generalize (l.take i).map (mb s) = acc at *
        subst hil
        have hal2 : acc.length < 10000000000 := by omega
        go_wp2_with (first
          | (with_reducible refine gate ?_; refine wp_load_val rfl _ rfl b (off + acc.length * 7) rfl _ rfl HRA.out ?_)
          | (go_at_call 17; refine (member12c_any s X IA MA _ ic _ mc _).mono ?_; rintro e w3 ⟨rfl, hb3⟩; have hz3 := hb3.size; have HROW3 := Lib.hid (HROW.out.below memE_ok hb3 (fun k hk => Nat.lt_of_lt_of_le hk HW1.out.size)); have HB3 := Lib.hid (HW1.out.trans (hb3.mono HW1.out.size)); have HS3 := HB3.out.size; have HEL3 := Lib.hid (show memE.El w3 (· < w.heap.size) (mb s X) [.string (S s), .int .i64 X.kind, .bool X.b, .int .i64 X.n, .string (S X.s), .slice IA X.items.length ic, .slice MA X.mems.length mc, .int .i64 X.pos, .int .i64 0] from ⟨_, HCS.out _ (HBW.out.trans (hb3.mono HW1.out.size)), rfl⟩); clear hb3)
          | (with_reducible refine gate ?_; refine els_append memE_ok rfl _ _ rfl w3 w.heap.size (· < w.heap.size) (.slice M acc.length c) acc rfl HROW3.out (mb s X) [.string (S s), .int .i64 X.kind, .bool X.b, .int .i64 X.n, .string (S X.s), .slice IA X.items.length ic, .slice MA X.mems.length mc, .int .i64 X.pos, .int .i64 0] w3.heap.size rfl rfl HEL3.out (fun j hj e => by have := HLT.out j e; have h2 : j < w.heap.size := hj; omega) (fun j hj => Nat.lt_of_lt_of_le hj HS3) (by omega) hal2 ?_; intro g8 c8 w8 hat8 hlt8 hrow8 hgr8 hb8; have HROW8 := Lib.hid hrow8; have HB8 := Lib.hid hb8; clear hat8 hrow8 hgr8 hb8))
        go_roundw
        case rel => exact ⟨acc.length + 1, some ⟨g8, 0, none⟩, c8, by omega, by go_num, rfl, by rw [HACC.out]; exact HROW8.out, HB3.out.trans HB8.out⟩
        case measure => simp [intOf]; omega
      · obtain rfl : i = l.length := by omega
        obtain ⟨wm, ewm⟩ : ∃ x, x = wr := ⟨_, rfl⟩
        subst ewm
        rw [List.take_length] at hrow
        have hlt' : ¬ (l.length : Int) < l.length := by omega
        have hoLT := hrow.lt
        have HROW := Lib.hid hrow
        have hml : (l.map (mb s)).length = l.length := by simp
        have harr := fun W => fun (hW : Below w.heap.size w W) => array13_any l _ W (· < W.heap.size) (fun _ h => h) (HKP.out W hW) (by omega)
        have hobj : ∀ W, Below wm.heap.size wm W → Calls Tryd.prog 19 #[.slice M l.length c] W fun e w' => ∃ OA oc, e = .returned (.agg #[.int .i64 5, .bool false, .int .i64 0, .string (S []), .slice none 0 0, .slice OA l.length oc, .int .i64 0]) ∧ ElRow memE w' (W.heap.size + 1) (· < W.heap.size) (.slice OA l.length oc) (l.map (mb s)) ∧ Below W.heap.size W w' := fun W hW => by
          have := object13_any (l.map (mb s)) (.slice M l.length c) W (· < W.heap.size) (fun _ h => h) ((HROW.out.below memE_ok hW (fun k hk => Nat.lt_of_lt_of_le hk hsz)).elsP memE_ok (fun k hk => Nat.lt_of_lt_of_le hk (Nat.le_trans hsz hW.size)) (fun k hk => Nat.lt_of_lt_of_le (hoLT k hk).2 hW.size)) (by simp; omega)
          rw [hml] at this
          exact this
        have fitA : JFit (jarr l) := by unfold jarr; rw [JFit]; exact ⟨⟨by omega, by simp, by omega, by omega⟩, HFL.out, by rw [JFitM]; trivial⟩
        have fitO : JFit (jobj (l.map (mb s))) := by unfold jobj; rw [JFit]; exact ⟨⟨by simp, by simp; omega, by omega, by omega⟩, by rw [JFitL]; trivial, fitM_map s HFL.out⟩
        have heqA := fun (W : World) (x y : Value) (h1 : ValV W (· < W.heap.size) (jarr l) x) (h2 : ValV W (· < W.heap.size) (jarr l) y) => refEqual11_any _ true (jarr l) (jarr l) x y W (Nat.le_refl _) fitA fitA h1 h2
        rw [jeq_self] at heqA
        have heqO := fun (W : World) (x y : Value) (h1 : ValV W (· < W.heap.size) (jobj (l.map (mb s))) x) (h2 : ValV W (· < W.heap.size) (jobj (l.map (mb s))) y) => refEqual11_any _ true (jobj (l.map (mb s))) (jobj (l.map (mb s))) x y W (Nat.le_refl _) fitO fitO h1 h2
        rw [jeq_self] at heqO
        have HARR := Lib.hid harr
        have HOBJ := Lib.hid hobj
        have HEQA := Lib.hid heqA
        have HEQO := Lib.hid heqO
        have HLT0 := Lib.hid hoLT
        have HMEM : Hid (∀ W, Below wm.heap.size wm W → ElsP memE W (· < W.heap.size) (.slice M l.length c) (l.map (mb s))) := fun W hW => (HROW.out.below memE_ok hW (fun k hk => Nat.lt_of_lt_of_le hk hsz)).elsP memE_ok (fun k hk => Nat.lt_of_lt_of_le hk (Nat.le_trans hsz hW.size)) (fun k hk => Nat.lt_of_lt_of_le (hoLT k hk).2 hW.size)
        clear hrow hil hb hlt harr hobj heqA heqO fitA fitO hoLT
        go_wp2_with (first
          | (go_at_call 18; refine (HARR.out _ HB.out).mono ?_; rintro e w3 ⟨va, rfl, hva, hb3⟩; obtain ⟨EA, ec, XA, xc, rfl⟩ := valV_arr hva; have HVA := Lib.hid hva; have HR3 := Lib.hid hb3; have hz3 := hb3.size; clear hva hb3)
          | (go_at_call 19; refine (HOBJ.out _ HR3.out).mono ?_; rintro e w4 ⟨OA, oc, rfl, hro, hb4⟩; have HRO := Lib.hid hro; have HR4 := Lib.hid hb4; have hz4 := hb4.size; clear hro hb4))
        have HW5 : Hid (Below w4.heap.size w4 ((w4.alloc (.cells #[.int .i64 4, .bool false, .int .i64 0, .string (S []), .slice EA l.length ec, .slice XA 0 xc, .int .i64 0] 25)).alloc (.cells #[.int .i64 5, .bool false, .int .i64 0, .string (S []), .slice none 0 0, .slice OA l.length oc, .int .i64 0] 25))) := ((Below.refl _ _).alloc (Nat.le_refl _) _).alloc (by simp) _
        have HO5 := Lib.hid (heap_alloc_new (w4.alloc (.cells #[.int .i64 4, .bool false, .int .i64 0, .string (S []), .slice EA l.length ec, .slice XA 0 xc, .int .i64 0] 25)) (.cells #[.int .i64 5, .bool false, .int .i64 0, .string (S []), .slice none 0 0, .slice OA l.length oc, .int .i64 0] 25))
        rw [World.size_alloc] at HO5
        have hb0 : w4.heap.size + 1 < ((w4.alloc (.cells #[.int .i64 4, .bool false, .int .i64 0, .string (S []), .slice EA l.length ec, .slice XA 0 xc, .int .i64 0] 25)).alloc (.cells #[.int .i64 5, .bool false, .int .i64 0, .string (S []), .slice none 0 0, .slice OA l.length oc, .int .i64 0] 25)).heap.size := heap_lt HO5.out
        have HR5 := Lib.hid (HR3.out.trans ((HR4.out.trans (HW5.out.mono hz4)).mono hz3))
        have HVA5 : Hid (∀ W, Below wm.heap.size wm W → Below w3.heap.size w3 W → ValV W (· < W.heap.size) (jarr l) (.agg #[.int .i64 4, .bool false, .int .i64 0, .string (S []), .slice EA l.length ec, .slice XA 0 xc, .int .i64 0])) := fun W h1 h2 => HVA.out.keep (fun k hk => h2.block k (by rcases hk with hk | hk; (· omega); exact hk.2)) (fun k hk => by have := h2.size; have := h1.size; show k < W.heap.size; rcases hk with hk | hk; (· omega); have := hk.2; omega)
        have HVI : Hid (∀ W, Below w.heap.size w W → ValV W (· < W.heap.size) (jarr l) (.agg #[.int .i64 4, .bool false, .int .i64 0, .string ⟨#[]⟩, .slice A l.length ca, .slice none 0 0, .int .i64 0])) := fun W h1 => ⟨_, rfl, ValP.of_open (n := jarr l) (HKP.out W h1) (ElsP.nil _ _ _)⟩
        have HVO : Hid (∀ W, Below w4.heap.size w4 W → ValV W (· < W.heap.size) (jobj (l.map (mb s))) (.agg #[.int .i64 5, .bool false, .int .i64 0, .string (S []), .slice none 0 0, .slice OA l.length oc, .int .i64 0])) := fun W h1 => valV_obj ((HRO.out.below memE_ok h1 (fun k hk => Nat.lt_of_lt_of_le hk hz4)).elsP memE_ok (fun k hk => Nat.lt_of_lt_of_le hk (Nat.le_trans hz4 h1.size)) (fun k hk => Nat.lt_of_lt_of_le (HRO.out.lt k hk).2 h1.size))
        have HVM : Hid (∀ W, Below wm.heap.size wm W → ValV W (· < W.heap.size) (jobj (l.map (mb s))) (.agg #[.int .i64 5, .bool false, .int .i64 0, .string ⟨#[]⟩, .slice none 0 0, .slice M l.length c, .int .i64 0])) := fun W h1 => valV_obj (HMEM.out W h1)
        generalize ((w4.alloc (.cells #[.int .i64 4, .bool false, .int .i64 0, .string (S []), .slice EA l.length ec, .slice XA 0 xc, .int .i64 0] 25)).alloc (.cells #[.int .i64 5, .bool false, .int .i64 0, .string (S []), .slice none 0 0, .slice OA l.length oc, .int .i64 0] 25)) = w5 at *
        refine (HEQA.out _ _ _ (HVA5.out _ HR5.out (HR4.out.trans (HW5.out.mono hz4))) (HVI.out _ (HB.out.trans (HR5.out.mono hsz)))).mono ?_
        rintro e w6 ⟨rfl, hb6⟩
        have HR6 := Lib.hid (HR5.out.trans (hb6.mono HR5.out.size))
        have HW6 := Lib.hid (HW5.out.trans (hb6.mono HW5.out.size))
        have hO6 := (hb6.block _ hb0).trans HO5.out
        obtain ⟨o0, o1, o2, o3, o4, o5, o6⟩ := cells7 hO6
        have HO6 := Lib.hid hO6
        clear hO6 hb6
        go_wp2_with fail
        refine (HEQO.out _ _ _ (HVO.out _ HW6.out) (HVM.out _ HR6.out)).mono ?_
        rintro e wl ⟨rfl, hbl⟩
        have HRL := Lib.hid (HR6.out.trans (hbl.mono HR6.out.size))
        have HWL := Lib.hid (HB.out.trans (HRL.out.mono hsz))
        have HW4L := Lib.hid (HW6.out.trans (hbl.mono HW6.out.size))
        have HOL := Lib.hid ((hbl.block _ (heap_lt HO6.out)).trans HO6.out)
        have MROW := Lib.hid (HROW.out.below memE_ok HRL.out (fun k hk => Nat.lt_of_lt_of_le hk hsz))
        have OROW := Lib.hid (HRO.out.below memE_ok HW4L.out (fun k hk => Nat.lt_of_lt_of_le hk hz4))
        have hml : (l.map (mb s)).length = l.length := by simp
        have hgm : ∃ gm, w.heap.size ≤ gm ∧ (0 < l.length → gm < wm.heap.size ∧ M = some ⟨gm, 0, none⟩ ∧ ∃ cur0 : Array Value, wl.heap[gm]? = some (.cells cur0 36 (0, 0))) := by
          by_cases h0 : 0 < l.length
          · obtain ⟨g, cur, hM, hg, hh, _⟩ := MROW.out.heapOf (by rw [hml]; exact h0)
            refine ⟨g, hg, fun _ => ⟨?_, hM, cur, hh⟩⟩
            exact (HLT0.out g (by rw [hM]; rfl)).2
          · exact ⟨w.heap.size, Nat.le_refl _, fun h => absurd h h0⟩
        obtain ⟨gm, hgmb, hgmo⟩ := hgm
        have HGM := Lib.hid hgmo
        have HEQX : Hid (∀ (X : JV) (x y : Value) (W : World), JFit X → ValV W (· < W.heap.size) X x → ValV W (· < W.heap.size) X y → Calls Tryd.prog 20 #[x, y, .bool true] W fun e w' => e = .returned (.bool true) ∧ Below W.heap.size W w') := fun X x y W hX h1 h2 => by
          have := refEqual11_any _ true X X x y W (Nat.le_refl _) hX hX h1 h2
          rw [jeq_self] at this
          exact this
        have hcat := fun (W : World) => run_catJ (P := Tryd.prog) s [120] (s ++ [120]) rfl (by simp; omega) W
        have hz34 : w3.heap.size + 1 ≤ w4.heap.size + 1 := by omega
        have hwr3 : wm.heap.size ≤ w3.heap.size := hz3
        have hz4l : w4.heap.size + 1 < wl.heap.size := heap_lt HOL.out
        clear o0 o1 o2 o3 o4 o5 o6 hgmo hbl HVA5 HVI HVO HVM HEQA HEQO HR6 HW6 HO6 HR5 HW5 HO5 HRO HVA HR3 HR4 HARR HOBJ HMEM HW4L HROW
        go_wp2_with fail
        go_loopw [59] (fun i59 wr => ∃ i : Nat, i ≤ l.length ∧ i59 = .int .i64 i ∧ Upd gm wl wr ∧ (0 < l.length → ∃ cur cur0 : Array Value, wr.heap[gm]? = some (.cells cur 36 (0, 0)) ∧ wl.heap[gm]? = some (.cells cur0 36 (0, 0)) ∧ ∀ k, i * 9 ≤ k → cur[k]? = cur0[k]?)) (fun i59 _ => l.length - (intOf i59).toNat)
        case atStart => exact ⟨0, Nat.zero_le _, rfl, Upd.refl _ _, fun h => by obtain ⟨_, _, cur, hc⟩ := HGM.out h; exact ⟨cur, cur, hc, hc, fun _ _ => rfl⟩⟩
        case round =>
          obtain ⟨i, hi, rfl, hup, hcur⟩ := hrel
          have HUP := Lib.hid hup
          have hsu := hup.size
          clear hup
          by_cases hlt : i < l.length
          · have hlt' : (i : Int) < l.length := by omega
            obtain ⟨hgw, rfl, _⟩ := HGM.out (by omega)
            obtain ⟨cur, cur0, hgc, hg0, hcc⟩ := hcur (by omega)
            have him : i < (l.map (mb s)).length := by rw [hml]; exact hlt
            obtain ⟨cs, hcs, hra⟩ := MROW.out.get memE_ok him
            rw [List.getElem_map] at hcs
            obtain ⟨b2, off2, ds, rfl, hpb, hrb, hds⟩ := (HU.out.keep valE_ok HWL.out.block (fun _ h => h)).at_ hlt
            have hfx := fitL_get HFL.out _ (List.getElem_mem hlt)
            generalize l[i] = X at *
            obtain ⟨vs, hvs, rfl⟩ := hcs
            have hvs' : ValP wl (· < w.heap.size) X vs := hvs
            obtain ⟨IM, im, MM, mm, rfl⟩ := ValP.cells hvs'
            obtain ⟨II, ii, MI, mi, rfl⟩ := ValP.cells hds
            have hpb2 : b2 < w.heap.size := hpb
            have hbl2 : b2 < wl.heap.size := Nat.lt_of_lt_of_le hpb2 HWL.out.size
            have hgl : gm < wr.heap.size := heap_lt hgc
            have hwlw : w.heap.size ≤ wl.heap.size := HWL.out.size
            -- the cells at the head of the round
            have hm0 : ∀ (j : Nat) (vv : Value), ([.string (S s), .int .i64 X.kind, .bool X.b, .int .i64 X.n, .string (S X.s), .slice IM X.items.length im, .slice MM X.mems.length mm, .int .i64 X.pos, .int .i64 0] : List Value)[j]? = some vv → wr.cell? ⟨gm, i * 9 + j, none⟩ = some vv := fun j vv hj => by
              have h1 := hra j vv hj
              rw [Lib.cell_of_heap hg0] at h1
              rw [Lib.cell_of_heap hgc]
              have h2 := hcc (i * 9 + j) (by omega)
              simp only at h1 ⊢
              rw [h2]
              exact h1
            have hi0 : ∀ (j : Nat) (vv : Value), ([.int .i64 X.kind, .bool X.b, .int .i64 X.n, .string (S X.s), .slice II X.items.length ii, .slice MI X.mems.length mi, .int .i64 X.pos] : List Value)[j]? = some vv → wr.cell? ⟨b2, off2 + i * 7 + j, none⟩ = some vv := fun j vv hj => rangeAt_keep hrb (HUP.out.block b2 hbl2 (by omega)) j vv hj
            have KE : Hid (∀ W, Below wr.heap.size wr W → (W.cell? ⟨gm, i * 9, none⟩ = some (.string (S s)) ∧ W.cell? ⟨gm, i * 9 + 1, none⟩ = some (.int .i64 X.kind) ∧ W.cell? ⟨gm, i * 9 + 2, none⟩ = some (.bool X.b) ∧ W.cell? ⟨gm, i * 9 + 3, none⟩ = some (.int .i64 X.n) ∧ W.cell? ⟨gm, i * 9 + 4, none⟩ = some (.string (S X.s)) ∧ W.cell? ⟨gm, i * 9 + 5, none⟩ = some (.slice IM X.items.length im) ∧ W.cell? ⟨gm, i * 9 + 6, none⟩ = some (.slice MM X.mems.length mm) ∧ W.cell? ⟨gm, i * 9 + 7, none⟩ = some (.int .i64 X.pos) ∧ W.cell? ⟨gm, i * 9 + 8, none⟩ = some (.int .i64 0)) ∧ W.cell? ⟨b2, off2 + i * 7, none⟩ = some (.int .i64 X.kind) ∧ W.cell? ⟨b2, off2 + i * 7 + 1, none⟩ = some (.bool X.b) ∧ W.cell? ⟨b2, off2 + i * 7 + 2, none⟩ = some (.int .i64 X.n) ∧ W.cell? ⟨b2, off2 + i * 7 + 3, none⟩ = some (.string (S X.s)) ∧ W.cell? ⟨b2, off2 + i * 7 + 4, none⟩ = some (.slice II X.items.length ii) ∧ W.cell? ⟨b2, off2 + i * 7 + 5, none⟩ = some (.slice MI X.mems.length mi) ∧ W.cell? ⟨b2, off2 + i * 7 + 6, none⟩ = some (.int .i64 X.pos)) := fun W hW => by
              have hm1 : ∀ (j : Nat) (vv : Value), ([.string (S s), .int .i64 X.kind, .bool X.b, .int .i64 X.n, .string (S X.s), .slice IM X.items.length im, .slice MM X.mems.length mm, .int .i64 X.pos, .int .i64 0] : List Value)[j]? = some vv → W.cell? ⟨gm, i * 9 + j, none⟩ = some vv := fun j vv hj => by
                rw [← hm0 j vv hj]
                exact cell_of_block (hW.block gm hgl) _
              have hi1 : ∀ (j : Nat) (vv : Value), ([.int .i64 X.kind, .bool X.b, .int .i64 X.n, .string (S X.s), .slice II X.items.length ii, .slice MI X.mems.length mi, .int .i64 X.pos] : List Value)[j]? = some vv → W.cell? ⟨b2, off2 + i * 7 + j, none⟩ = some vv := fun j vv hj => by
                rw [← hi0 j vv hj]
                exact cell_of_block (hW.block b2 (by omega)) _
              exact ⟨⟨hm1 0 _ rfl, hm1 1 _ rfl, hm1 2 _ rfl, hm1 3 _ rfl, hm1 4 _ rfl, hm1 5 _ rfl, hm1 6 _ rfl, hm1 7 _ rfl, hm1 8 _ rfl⟩, hi1 0 _ rfl, hi1 1 _ rfl, hi1 2 _ rfl, hi1 3 _ rfl, hi1 4 _ rfl, hi1 5 _ rfl, hi1 6 _ rfl⟩
            have hvW : ∀ W, Below wr.heap.size wr W → ∀ k, k < w.heap.size → W.heap[k]? = wl.heap[k]? := fun W hW k hk => (hW.block k (by omega)).trans (HUP.out.block k (by omega) (by omega))
            have HEQ1 : Hid (∀ W, Below wr.heap.size wr W → Calls Tryd.prog 20 #[.agg #[.int .i64 X.kind, .bool X.b, .int .i64 X.n, .string (S X.s), .slice IM X.items.length im, .slice MM X.mems.length mm, .int .i64 X.pos], .agg #[.int .i64 X.kind, .bool X.b, .int .i64 X.n, .string (S X.s), .slice II X.items.length ii, .slice MI X.mems.length mi, .int .i64 X.pos], .bool true] W fun e w' => e = .returned (.bool true) ∧ Below W.heap.size W w') := fun W hW => HEQX.out X _ _ W hfx ⟨_, rfl, ValP.keep (hvW W hW) (fun k hk => by have := hW.size; show k < W.heap.size; omega) _ _ hvs'⟩ ⟨_, rfl, ValP.keep (hvW W hW) (fun k hk => by have := hW.size; show k < W.heap.size; omega) _ _ hds⟩
            have HGC := Lib.hid hgc
            have HG0 := Lib.hid hg0
            have HCC := Lib.hid hcc
            obtain ⟨ob, curo, hoA, hob, hoh, _⟩ := OROW.out.heapOf (by rw [hml]; omega)
            subst hoA
            obtain ⟨os, hos, hro⟩ := OROW.out.get memE_ok him
            obtain ⟨vso, hvso, rfl⟩ := hos
            have hok : wl.cell? ⟨ob, i * 9, none⟩ = some (.string (S s)) := by
              have := hro 0 _ rfl
              rw [List.getElem_map] at this
              exact this
            have hobl : ob < wl.heap.size := heap_lt hoh
            have HOK : Hid (∀ W, Below wr.heap.size wr W → W.cell? ⟨ob, i * 9, none⟩ = some (.string (S s)) ∧ W.cell? ⟨w4.heap.size + 1, 5, none⟩ = some (.slice (some ⟨ob, 0, none⟩) l.length oc)) := fun W hW => by
              refine ⟨?_, ?_⟩
              · rw [← hok]; exact cell_of_block ((hW.block ob (by omega)).trans (HUP.out.block ob hobl (by omega))) _
              · exact (cells7 ((hW.block _ (by omega)).trans ((HUP.out.block _ hz4l (by omega)).trans HOL.out))).2.2.2.2.2.1
            clear hgc hg0 hcc hm0 hi0 hra hrb hvs' hds hcur hok hoh hvW hfx hro hvso
            go_wp2_with fail
            go_cut [89] (fun s89 wx => s89 = .bool false ∧ Below wr.heap.size wr wx)
            case first =>
              refine wp_region_held_drew (S := fun x => (x.cell? ⟨gm, i * 9, none⟩ = some (.string (S s)) ∧ x.cell? ⟨gm, i * 9 + 1, none⟩ = some (.int .i64 X.kind) ∧ x.cell? ⟨gm, i * 9 + 2, none⟩ = some (.bool X.b) ∧ x.cell? ⟨gm, i * 9 + 3, none⟩ = some (.int .i64 X.n) ∧ x.cell? ⟨gm, i * 9 + 4, none⟩ = some (.string (S X.s)) ∧ x.cell? ⟨gm, i * 9 + 5, none⟩ = some (.slice IM X.items.length im) ∧ x.cell? ⟨gm, i * 9 + 6, none⟩ = some (.slice MM X.mems.length mm) ∧ x.cell? ⟨gm, i * 9 + 7, none⟩ = some (.int .i64 X.pos) ∧ x.cell? ⟨gm, i * 9 + 8, none⟩ = some (.int .i64 0)) ∧ x.cell? ⟨b2, off2 + i * 7, none⟩ = some (.int .i64 X.kind) ∧ x.cell? ⟨b2, off2 + i * 7 + 1, none⟩ = some (.bool X.b) ∧ x.cell? ⟨b2, off2 + i * 7 + 2, none⟩ = some (.int .i64 X.n) ∧ x.cell? ⟨b2, off2 + i * 7 + 3, none⟩ = some (.string (S X.s)) ∧ x.cell? ⟨b2, off2 + i * 7 + 4, none⟩ = some (.slice II X.items.length ii) ∧ x.cell? ⟨b2, off2 + i * 7 + 5, none⟩ = some (.slice MI X.mems.length mi) ∧ x.cell? ⟨b2, off2 + i * 7 + 6, none⟩ = some (.int .i64 X.pos)) (by kernel_rfl) ?_ (fun hHeld => ?_)
              · (try dsimp only); exact KE.out _ (Below.refl _ _).drew
              refine wpAnyH_take (i := 0) (oi := (⟨some 62, _, _, _, _, _⟩ : Oper)) (v := ?_) rfl (by kernel_rfl) (by kernel_rfl) (by kernel_rfl) (fun _ _ _ h => h) (Or.inl ⟨by rfl, ?_⟩) (by assumption) ?_
              rotate_left
              · intro wS hSw; (try dsimp only at hSw); go_simp <;> with_reducible rfl
              simp only [Act.put, List.setIfInBounds_toArray, List.set_cons_zero, List.set_cons_succ]
              refine wpAnyH_take (i := 1) (oi := (⟨some 63, _, _, _, _, _⟩ : Oper)) (v := ?_) rfl (by kernel_rfl) (by kernel_rfl) (by kernel_rfl) (fun _ _ _ h => h) (Or.inl ⟨by rfl, ?_⟩) (by assumption) ?_
              rotate_left
              · intro wS hSw; (try dsimp only at hSw); go_simp <;> with_reducible rfl
              simp only [Act.put, List.setIfInBounds_toArray, List.set_cons_zero, List.set_cons_succ]
              refine wpAnyH_take (i := 2) (oi := (⟨some 64, _, _, _, _, _⟩ : Oper)) (v := ?_) rfl (by kernel_rfl) (by kernel_rfl) (by kernel_rfl) (fun _ _ _ h => h) (Or.inl ⟨by rfl, ?_⟩) (by assumption) ?_
              rotate_left
              · intro wS hSw; (try dsimp only at hSw); go_simp <;> with_reducible rfl
              simp only [Act.put, List.setIfInBounds_toArray, List.set_cons_zero, List.set_cons_succ]
              refine wpAnyH_take (i := 3) (oi := (⟨some 65, _, _, _, _, _⟩ : Oper)) (v := ?_) rfl (by kernel_rfl) (by kernel_rfl) (by kernel_rfl) (fun _ _ _ h => h) (Or.inl ⟨by rfl, ?_⟩) (by assumption) ?_
              rotate_left
              · intro wS hSw; (try dsimp only at hSw); go_simp <;> with_reducible rfl
              simp only [Act.put, List.setIfInBounds_toArray, List.set_cons_zero, List.set_cons_succ]
              refine wpAnyH_take (i := 4) (oi := (⟨some 66, _, _, _, _, _⟩ : Oper)) (v := ?_) rfl (by kernel_rfl) (by kernel_rfl) (by kernel_rfl) (fun _ _ _ h => h) (Or.inl ⟨by rfl, ?_⟩) (by assumption) ?_
              rotate_left
              · intro wS hSw; (try dsimp only at hSw); go_simp <;> with_reducible rfl
              simp only [Act.put, List.setIfInBounds_toArray, List.set_cons_zero, List.set_cons_succ]
              refine wpAnyH_take (i := 5) (oi := (⟨some 67, _, _, _, _, _⟩ : Oper)) (v := ?_) rfl (by kernel_rfl) (by kernel_rfl) (by kernel_rfl) (fun _ _ _ h => h) (Or.inl ⟨by rfl, ?_⟩) (by assumption) ?_
              rotate_left
              · intro wS hSw; (try dsimp only at hSw); go_simp <;> with_reducible rfl
              simp only [Act.put, List.setIfInBounds_toArray, List.set_cons_zero, List.set_cons_succ]
              refine wpAnyH_take (i := 6) (oi := (⟨some 68, _, _, _, _, _⟩ : Oper)) (v := ?_) rfl (by kernel_rfl) (by kernel_rfl) (by kernel_rfl) (fun _ _ _ h => h) (Or.inl ⟨by rfl, ?_⟩) (by assumption) ?_
              rotate_left
              · intro wS hSw; (try dsimp only at hSw); go_simp <;> with_reducible rfl
              simp only [Act.put, List.setIfInBounds_toArray, List.set_cons_zero, List.set_cons_succ]
              refine wpAnyH_take (i := 7) (oi := (⟨some 69, _, _, _, _, _⟩ : Oper)) (v := ?_) rfl (by kernel_rfl) (by kernel_rfl) (by kernel_rfl) (fun _ _ _ h => h) (Or.inl ⟨by rfl, ?_⟩) (by assumption) ?_
              rotate_left
              · intro wS hSw; (try dsimp only at hSw); go_simp <;> with_reducible rfl
              simp only [Act.put, List.setIfInBounds_toArray, List.set_cons_zero, List.set_cons_succ]
              refine wpAnyH_take (i := 8) (oi := (⟨some 70, _, _, _, _, _⟩ : Oper)) (v := ?_) rfl (by kernel_rfl) (by kernel_rfl) (by kernel_rfl) (fun _ _ _ h => h) (Or.inl ⟨by rfl, ?_⟩) (by assumption) ?_
              rotate_left
              · intro wS hSw; (try dsimp only at hSw); go_simp <;> with_reducible rfl
              simp only [Act.put, List.setIfInBounds_toArray, List.set_cons_zero, List.set_cons_succ]
              refine wpAnyH_take (i := 9) (oi := (⟨some 71, _, _, _, _, _⟩ : Oper)) (v := ?_) rfl (by kernel_rfl) (by kernel_rfl) (by kernel_rfl) (fun _ _ _ h => h) (Or.inl ⟨by rfl, ?_⟩) (by assumption) ?_
              rotate_left
              · intro wS hSw; (try dsimp only at hSw); go_simp <;> with_reducible rfl
              simp only [Act.put, List.setIfInBounds_toArray, List.set_cons_zero, List.set_cons_succ]
              refine wpAnyH_take (i := 10) (oi := (⟨some 72, _, _, _, _, _⟩ : Oper)) (v := ?_) rfl (by kernel_rfl) (by kernel_rfl) (by kernel_rfl) (fun _ _ _ h => h) (Or.inl ⟨by rfl, ?_⟩) (by assumption) ?_
              rotate_left
              · intro wS hSw; (try dsimp only at hSw); go_simp <;> with_reducible rfl
              simp only [Act.put, List.setIfInBounds_toArray, List.set_cons_zero, List.set_cons_succ]
              refine wpAnyH_take (i := 11) (oi := (⟨some 73, _, _, _, _, _⟩ : Oper)) (v := ?_) rfl (by kernel_rfl) (by kernel_rfl) (by kernel_rfl) (fun _ _ _ h => h) (Or.inl ⟨by rfl, ?_⟩) (by assumption) ?_
              rotate_left
              · intro wS hSw; (try dsimp only at hSw); go_simp <;> with_reducible rfl
              simp only [Act.put, List.setIfInBounds_toArray, List.set_cons_zero, List.set_cons_succ]
              refine wpAnyH_take (i := 12) (oi := (⟨some 74, _, _, _, _, _⟩ : Oper)) (v := ?_) rfl (by kernel_rfl) (by kernel_rfl) (by kernel_rfl) (fun _ _ _ h => h) (Or.inl ⟨by rfl, ?_⟩) (by assumption) ?_
              rotate_left
              · intro wS hSw; (try dsimp only at hSw); go_simp <;> with_reducible rfl
              simp only [Act.put, List.setIfInBounds_toArray, List.set_cons_zero, List.set_cons_succ]
              refine wpAnyH_take (i := 13) (oi := (⟨some 75, _, _, _, _, _⟩ : Oper)) (v := ?_) rfl (by kernel_rfl) (by kernel_rfl) (by kernel_rfl) (fun _ _ _ h => h) (Or.inl ⟨by rfl, ?_⟩) (by assumption) ?_
              rotate_left
              · intro wS hSw; (try dsimp only at hSw); go_simp <;> with_reducible rfl
              simp only [Act.put, List.setIfInBounds_toArray, List.set_cons_zero, List.set_cons_succ]
              refine wpAnyH_take (i := 14) (oi := (⟨some 76, _, _, _, _, _⟩ : Oper)) (v := ?_) rfl (by kernel_rfl) (by kernel_rfl) (by kernel_rfl) (fun _ _ _ h => h) (Or.inl ⟨by rfl, ?_⟩) (by assumption) ?_
              rotate_left
              · intro wS hSw; (try dsimp only at hSw); go_simp <;> with_reducible rfl
              simp only [Act.put, List.setIfInBounds_toArray, List.set_cons_zero, List.set_cons_succ]
              refine wpAnyH_take (i := 15) (oi := (⟨some 77, _, _, _, _, _⟩ : Oper)) (v := ?_) rfl (by kernel_rfl) (by kernel_rfl) (by kernel_rfl) (fun _ _ _ h => h) (Or.inl ⟨by rfl, ?_⟩) (by assumption) ?_
              rotate_left
              · intro wS hSw; (try dsimp only at hSw); go_simp <;> with_reducible rfl
              simp only [Act.put, List.setIfInBounds_toArray, List.set_cons_zero, List.set_cons_succ]
              refine wpAnyH_take (i := 16) (oi := (⟨some 78, _, _, _, _, _⟩ : Oper)) (v := ?_) rfl (by kernel_rfl) (by kernel_rfl) (by kernel_rfl) (fun _ _ _ h => h) (Or.inl ⟨by rfl, ?_⟩) (by assumption) ?_
              rotate_left
              · intro wS hSw; (try dsimp only at hSw); go_simp <;> with_reducible rfl
              simp only [Act.put, List.setIfInBounds_toArray, List.set_cons_zero, List.set_cons_succ]
              refine wpAnyH_take (i := 17) (oi := (⟨some 79, _, _, _, _, _⟩ : Oper)) (v := ?_) rfl (by kernel_rfl) (by kernel_rfl) (by kernel_rfl) (fun _ _ _ h => h) (Or.inl ⟨by rfl, ?_⟩) (by assumption) ?_
              rotate_left
              · intro wS hSw; (try dsimp only at hSw); go_simp <;> with_reducible rfl
              simp only [Act.put, List.setIfInBounds_toArray, List.set_cons_zero, List.set_cons_succ]
              refine wpAnyH_take (i := 18) (oi := (⟨some 80, _, _, _, _, _⟩ : Oper)) (v := ?_) rfl (by kernel_rfl) (by kernel_rfl) (by kernel_rfl) (fun _ _ _ h => h) (Or.inl ⟨by rfl, ?_⟩) (by assumption) ?_
              rotate_left
              · intro wS hSw; (try dsimp only at hSw); go_simp <;> with_reducible rfl
              simp only [Act.put, List.setIfInBounds_toArray, List.set_cons_zero, List.set_cons_succ]
              refine wpAnyH_take (i := 19) (oi := (⟨some 81, _, _, _, _, _⟩ : Oper)) (v := ?_) rfl (by kernel_rfl) (by kernel_rfl) (by kernel_rfl) (fun _ _ _ h => h) (Or.inl ⟨by rfl, ?_⟩) (by assumption) ?_
              rotate_left
              · intro wS hSw; (try dsimp only at hSw); go_simp <;> with_reducible rfl
              simp only [Act.put, List.setIfInBounds_toArray, List.set_cons_zero, List.set_cons_succ]
              refine wpAnyH_take (i := 20) (oi := (⟨some 82, _, _, _, _, _⟩ : Oper)) (v := ?_) rfl (by kernel_rfl) (by kernel_rfl) (by kernel_rfl) (fun _ _ _ h => h) (Or.inl ⟨by rfl, ?_⟩) (by assumption) ?_
              rotate_left
              · intro wS hSw; (try dsimp only at hSw); go_simp <;> with_reducible rfl
              simp only [Act.put, List.setIfInBounds_toArray, List.set_cons_zero, List.set_cons_succ]
              refine wpAnyH_take (i := 21) (oi := (⟨some 83, _, _, _, _, _⟩ : Oper)) (v := ?_) rfl (by kernel_rfl) (by kernel_rfl) (by kernel_rfl) (fun _ _ _ h => h) (Or.inl ⟨by rfl, ?_⟩) (by assumption) ?_
              rotate_left
              · intro wS hSw; (try dsimp only at hSw); go_simp <;> with_reducible rfl
              simp only [Act.put, List.setIfInBounds_toArray, List.set_cons_zero, List.set_cons_succ]
              refine wpAnyH_take (i := 22) (oi := (⟨some 84, _, _, _, _, _⟩ : Oper)) (v := ?_) rfl (by kernel_rfl) (by kernel_rfl) (by kernel_rfl) (fun _ _ _ h => h) (Or.inl ⟨by rfl, ?_⟩) (by assumption) ?_
              rotate_left
              · intro wS hSw; (try dsimp only at hSw); go_simp <;> with_reducible rfl
              simp only [Act.put, List.setIfInBounds_toArray, List.set_cons_zero, List.set_cons_succ]
              refine wpAnyH_take (i := 23) (oi := (⟨some 85, _, _, _, _, _⟩ : Oper)) (v := ?_) rfl (by kernel_rfl) (by kernel_rfl) (by kernel_rfl) (fun _ _ _ h => h) (Or.inl ⟨by rfl, ?_⟩) (by assumption) ?_
              rotate_left
              · intro wS hSw; (try dsimp only at hSw); go_simp <;> with_reducible rfl
              simp only [Act.put, List.setIfInBounds_toArray, List.set_cons_zero, List.set_cons_succ]
              refine wpAnyH_take (i := 24) (oi := (⟨some 86, _, _, _, _, _⟩ : Oper)) (v := ?_) rfl (by kernel_rfl) (by kernel_rfl) (by kernel_rfl) (fun _ _ _ h => h) (Or.inl ⟨by rfl, ?_⟩) (by assumption) ?_
              rotate_left
              · intro wS hSw; (try dsimp only at hSw); go_simp <;> with_reducible rfl
              simp only [Act.put, List.setIfInBounds_toArray, List.set_cons_zero, List.set_cons_succ]
              refine wpAnyH_ready (rs := [25]) (by kernel_rfl) (by simp) ?_
              refine AllReadyH.cons (o := (⟨some 87, _, _, _, _, _⟩ : Oper)) rfl (fun K hK => ?_) ?_
              rotate_left
              · exact AllReadyH.nil
              go_simp
              (go_at_call 20; (with_reducible refine (HEQ1.out _ (Below.refl _ _).drew).mono ?_); rintro e W ⟨rfl, hb⟩; have R := Lib.hid ((Below.refl wr.heap.size wr).drew.trans hb); clear hb)
              refine hK.out _ _ ?_ (fun hHeld => ?_)
              · (try dsimp only); exact KE.out _ R.out
              clear hK K
              try simp only [Act.put, List.setIfInBounds_toArray, List.set_cons_zero, List.set_cons_succ]
              refine wpAnyH_take (i := 26) (oi := (⟨some 88, _, _, _, _, _⟩ : Oper)) (v := ?_) rfl (by kernel_rfl) (by kernel_rfl) (by kernel_rfl) (fun _ _ _ h => h) (Or.inl ⟨by rfl, ?_⟩) (by assumption) ?_
              rotate_left
              · intro wS hSw; (try dsimp only at hSw); go_simp <;> with_reducible rfl
              simp only [Act.put, List.setIfInBounds_toArray, List.set_cons_zero, List.set_cons_succ]
              refine wpAnyH_take (i := 27) (oi := (⟨some 89, _, _, _, _, _⟩ : Oper)) (v := ?_) rfl (by kernel_rfl) (by kernel_rfl) (by kernel_rfl) (fun _ _ _ h => h) (Or.inl ⟨by rfl, ?_⟩) (by assumption) ?_
              rotate_left
              · intro wS hSw; (try dsimp only at hSw); go_simp <;> with_reducible rfl
              simp only [Act.put, List.setIfInBounds_toArray, List.set_cons_zero, List.set_cons_succ]
              refine wpAnyH_done (by kernel_rfl) ?_ _
              go_wp2_with fail
              go_meet
              exact ⟨rfl, R.out⟩
            case rest =>
              obtain ⟨rfl, hbc⟩ := hcut
              have hgc1 := (hbc.block gm hgl).trans HGC.out
              have hkey := (KE.out _ hbc).1.1
              have hfr : wc.frozen? ⟨gm, i * 9, none⟩ = false := Lib.frozen_of_heap hgc1 _
              obtain ⟨hk1, hk2⟩ := HOK.out _ hbc
              have hne1 : ob ≠ gm := by omega
              have hne2 : w4.heap.size + 1 ≠ gm := by omega
              have HBC := Lib.hid hbc
              have HGC1 := Lib.hid hgc1
              have y1 : (wc.setCell ⟨gm, i * 9, none⟩ (.string (S (s ++ [120])))).cell? ⟨ob, i * 9, none⟩ = some (.string (S s)) := by
                rw [← hk1]; exact cell_of_block ((Upd.set_ gm (i * 9) wc _).block ob (by have := hbc.size; omega) hne1) _
              have y2 : (wc.setCell ⟨gm, i * 9, none⟩ (.string (S (s ++ [120])))).cell? ⟨w4.heap.size + 1, 5, none⟩ = some (.slice (some ⟨ob, 0, none⟩) l.length oc) := by
                rw [← hk2]; exact cell_of_block ((Upd.set_ gm (i * 9) wc _).block _ (by have := hbc.size; omega) hne2) _
              clear hbc hgc1
              go_wp2_with fail
              go_roundw
              case rel =>
                refine ⟨i + 1, by omega, by go_num, (HUP.out.next HBC.out).trans (Upd.set_ gm (i * 9) wc _), fun _ => ⟨_, cur0, heap_set HGC1.out _, HG0.out, fun k hk => ?_⟩⟩
                rw [Array.getElem?_setIfInBounds_ne (by omega)]
                exact HCC.out k (by omega)
              case measure => simp [intOf]; omega
          · obtain rfl : i = l.length := by omega
            have hlt' : ¬ ((l.length : Int) < l.length) := by omega
            have HBE := Lib.hid (HWL.out.trans (HUP.out.below hgmb HWL.out.size))
            have hsze := HBE.out.size
            have HEQB : Hid (∀ (k : Int) (b : Bool) (m : Int) (x : Bytes) (W : World), -9223372036854775808 ≤ m ∧ m ≤ 9223372036854775807 → Calls Tryd.prog 20 #[bareV k b m x, bareV k b m x, .bool true] W fun e w' => e = .returned (.bool true) ∧ Below W.heap.size W w') := fun k b m x W hm => HEQX.out (.mk k b m x [] [] 0) _ _ W (by rw [JFit]; exact ⟨⟨by simp, by simp, hm.1, hm.2⟩, by rw [JFitL]; trivial, by rw [JFitM]; trivial⟩) (ValV.bare k b m x 0) (ValV.bare k b m x 0)
            have HQS : Hid (∀ W : World, Calls Tryd.prog 20 #[.agg #[.int .i64 3, .bool false, .int .i64 0, .string (S s), .slice none 0 0, .slice none 0 0, .int .i64 0], .agg #[.int .i64 3, .bool false, .int .i64 0, .string (S s), .slice none 0 0, .slice none 0 0, .int .i64 0], .bool true] W fun e w' => e = .returned (.bool true) ∧ Below W.heap.size W w') := fun W => HEQB.out 3 false 0 s W ⟨by omega, by omega⟩
            have HQI : Hid (∀ W : World, Calls Tryd.prog 20 #[.agg #[.int .i64 2, .bool false, .int .i64 n, .string (S []), .slice none 0 0, .slice none 0 0, .int .i64 0], .agg #[.int .i64 2, .bool false, .int .i64 n, .string ⟨#[]⟩, .slice none 0 0, .slice none 0 0, .int .i64 0], .bool true] W fun e w' => e = .returned (.bool true) ∧ Below W.heap.size W w') := fun W => HEQB.out 2 false n [] W hn
            have HQB : Hid (∀ W : World, Calls Tryd.prog 20 #[.agg #[.int .i64 1, .bool (decide (0 < n)), .int .i64 0, .string (S []), .slice none 0 0, .slice none 0 0, .int .i64 0], .agg #[.int .i64 1, .bool (decide (0 < n)), .int .i64 0, .string ⟨#[]⟩, .slice none 0 0, .slice none 0 0, .int .i64 0], .bool true] W fun e w' => e = .returned (.bool true) ∧ Below W.heap.size W w') := fun W => HEQB.out 1 (decide (0 < n)) 0 [] W ⟨by omega, by omega⟩
            have HQN : Hid (∀ W : World, Calls Tryd.prog 20 #[.agg #[.int .i64 0, .bool false, .int .i64 0, .string (S []), .slice none 0 0, .slice none 0 0, .int .i64 0], .agg #[.int .i64 0, .bool false, .int .i64 0, .string ⟨#[]⟩, .slice none 0 0, .slice none 0 0, .int .i64 0], .bool true] W fun e w' => e = .returned (.bool true) ∧ Below W.heap.size W w') := fun W => HEQB.out 0 false 0 [] W ⟨by omega, by omega⟩
            clear hcur HEQB
            go_wp2_with (first
              | (go_at_call 13; refine (HAL.out _ HBE.out).mono ?_; rintro e w9 ⟨rfl, hb9⟩; have R := Lib.hid (HBE.out.trans (hb9.mono hsze)); clear hb9)
              | (go_at_call 21; refine (string12_any s _).mono ?_; rintro e w9 ⟨rfl, hb9⟩; have R := Lib.hid (R.out.trans (hb9.mono R.out.size)); clear hb9)
              | (go_at_call 22; refine (int12_any n _).mono ?_; rintro e w9 ⟨rfl, hb9⟩; have R := Lib.hid (R.out.trans (hb9.mono R.out.size)); clear hb9)
              | (go_at_call 23; refine (bool12_any _ _).mono ?_; rintro e w9 ⟨rfl, hb9⟩; have R := Lib.hid (R.out.trans (hb9.mono R.out.size)); clear hb9)
              | (go_at_call 24; refine (null12_any _).mono ?_; rintro e w9 ⟨rfl, hb9⟩; have R := Lib.hid (R.out.trans (hb9.mono R.out.size)); clear hb9)
              | (go_at_call 20; (first | with_reducible refine (HQS.out _).mono ?_ | with_reducible refine (HQI.out _).mono ?_ | with_reducible refine (HQB.out _).mono ?_ | with_reducible refine (HQN.out _).mono ?_); rintro e w9 ⟨rfl, hb9⟩; have R := Lib.hid (R.out.trans (hb9.mono R.out.size)); clear hb9))
            go_ret
            exact ⟨rfl, R.out⟩
end Go.Proofs.YtadkgjbidhfefaaDoor
