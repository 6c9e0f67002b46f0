/-
  Several texts in one file, in build order:
  - Walks of chapter 13's statements: is an archive too large to be tested?
  - Walks of chapter 13's statements: is a feed too large to be tested?
  - Chapter 13: three parameters in memory. No function of the program.
  - Chapter 13's statements: the examples of the chapter.
  - Chapter 13: entries compared by ==.
  - Walks of chapter 13's statements: the orders.
-/
import Derived.Test.YtadkgjbidhfefaaDoorChkF13
import Derived.WalkSpells
import Derived.WalkLawsBesides
import Derived.Test.YtadkgjbidhfefaaDoorJcon
import Derived.Test.YtadkgjbidhfefaaDoorEnt13
import Derived.Test.YtadkgjbidhfefaaDoorRchA13
import Derived.Test.YtadkgjbidhfefaaDoorLat13
import Derived.Laws.StructEq
import Derived.Deep.DeepCutAuto
set_option linter.unusedVariables false
namespace Go.Proofs.YtadkgjbidhfefaaDoor
open Go.RowKit

@[go_sem] theorem min_one13 (n : Nat) : min (n : Int) 9000 = (c9 n : Nat) := by unfold c9; omega
@[go_sem] theorem min_three13 (a b c : Nat) : min ((a : Int) + b + c) 9000 = (c9 (a + b + c) : Nat) := by unfold c9; omega
@[go_sem] theorem min_four13 (a b c d : Nat) : min ((a : Int) + b + c + d) 9000 = (c9 (a + b + c + d) : Nat) := by unfold c9; omega
/-- Paths. -/
def wtP : Nat → List Bytes → Nat
  | n, [] => n
  | n, s :: l => wtP (n + (1 + c9 s.length)) l
/-- Entries: none where it has grown too large. -/
def wtE : Nat → List En → Option Nat
  | n, [] => some n
  | n, e :: l => if 5000 < n + (1 + c9 (esz e)) then none else wtE (n + (1 + c9 (esz e))) l
/-- Feeds: is the archive too large? -/
def wtF : Nat → List Fe → Bool
  | _, [] => false
  | n, f :: l => match wtE (wtP (n + (1 + c9 (f.id.length + f.title.length + f.link.length))) f.path) f.ents with
    | none => true
    | some m => if 5000 < m then true else wtF m l
theorem wtP_le : ∀ (n : Nat) (l : List Bytes), n + l.length ≤ wtP n l ∧ (wtP n l ≤ 5000 → n + (l.map List.length).sum + l.length ≤ wtP n l)
  | n, [] => by simp [wtP]
  | n, s :: l => by
    rw [wtP]
    have := wtP_le (n + (1 + c9 s.length)) l
    refine ⟨by simp only [List.length_cons]; omega, fun h => ?_⟩
    have h2 := this.2 h
    have h3 := c9_small (n := s.length) (by omega)
    simp only [List.map_cons, List.sum_cons, List.length_cons]
    omega
theorem wtP_max : ∀ (n : Nat) (l : List Bytes), wtP n l ≤ n + 9001 * l.length
  | n, [] => by simp [wtP]
  | n, s :: l => by
    rw [wtP]
    have := wtP_max (n + (1 + c9 s.length)) l
    have h2 := c9_le s.length
    simp only [List.length_cons]
    omega
theorem wtE_some : ∀ {n : Nat} {l : List En} {m : Nat}, wtE n l = some m → n + l.length ≤ m ∧ (l ≠ [] → m ≤ 5000) ∧ ∀ e ∈ l, esz e ≤ 5000
  | n, [], m, h => by
    rw [wtE] at h
    cases h
    exact ⟨by simp, fun h => absurd rfl h, fun e he => by cases he⟩
  | n, e :: l, m, h => by
    rw [wtE] at h
    split at h
    · cases h
    · rename_i hn
      obtain ⟨h1, h2, h3⟩ := wtE_some h
      have h4 := c9_small (n := esz e) (by omega)
      refine ⟨by simp only [List.length_cons]; omega, fun _ => ?_, fun x hx => ?_⟩
      · cases l with
        | nil => rw [wtE] at h; cases h; omega
        | cons y l => exact h2 (by simp)
      · rcases List.mem_cons.1 hx with rfl | hx
        · omega
        · exact h3 x hx
theorem wtF_no : ∀ {n : Nat} {l : List Fe}, wtF n l = false → n ≤ 5000 → n + l.length ≤ 5000 ∧ ∀ f ∈ l, FSz f
  | n, [], h, hn => ⟨by simpa using hn, fun f hf => by cases hf⟩
  | n, f :: l, h, hn => by
    rw [wtF] at h
    split at h
    · cases h
    · rename_i m hm
      split at h
      · cases h
      · rename_i h5
        obtain ⟨h1, h2⟩ := wtF_no h (by omega)
        obtain ⟨e1, e2, e3⟩ := wtE_some hm
        have p1 := wtP_le (n + (1 + c9 (f.id.length + f.title.length + f.link.length))) f.path
        have p2 := p1.2 (by omega)
        have p3 := c9_small (n := f.id.length + f.title.length + f.link.length) (by omega)
        refine ⟨by simp only [List.length_cons]; omega, fun x hx => ?_⟩
        rcases List.mem_cons.1 hx with rfl | hx
        · exact ⟨by omega, by omega, by omega, fun e he => by have := e3 e he; omega, by omega⟩
        · exact h2 x hx
/-- What memory allows. -/
def FLen (f : Fe) : Prop := (f.path.length ≤ 8796093022207 ∧ f.id.length ≤ 140737488351232 ∧ f.title.length ≤ 140737488351232 ∧ f.link.length ≤ 140737488351232) ∧ (∀ s ∈ f.path, s.length ≤ 140737488351232) ∧ f.ents.length ≤ 2600000000000 ∧ ∀ e ∈ f.ents, e.id.length ≤ 140737488351232 ∧ e.title.length ≤ 140737488351232 ∧ e.link.length ≤ 140737488351232 ∧ e.content.length ≤ 140737488351232

set_option maxHeartbeats 16000000 in
set_option maxRecDepth 100000 in
theorem tooLarge13_any (l : List Fe) (u : Value) (w : World) (h : ElsP feeE w (· < w.heap.size) u l) (hl : l.length ≤ 2600000000000) (hs : ∀ f ∈ l, FLen f) :
    Calls Tryd.prog 26 #[.agg #[u]] w fun x w' => x = .returned (.int .i64 (if wtF 0 l = true then 1 else 0)) ∧ Below w.heap.size w w' := by
  obtain ⟨FA, fc, rfl, _⟩ := h.slice
  obtain ⟨Q, hQ⟩ : ∃ Q, wtF 0 l = Q := ⟨_, rfl⟩
  rw [hQ]
  have HL := Lib.hid h
  have HS := Lib.hid hs
  have HQ := Lib.hid (show wtF 0 (l.drop 0) = Q from hQ)
  have W0 := Lib.hid (show Below w.heap.size w (w.alloc (.cells #[.slice FA l.length fc] 50)) from (Below.refl _ _).alloc (Nat.le_refl _) _)
  clear h hs hQ
  go_enter Tryd.func26, Tryd.ntmps26
  go_wp2_with fail
  go_loopw [3, 13] (fun s3 i13 wr => ∃ i n : Nat, i ≤ l.length ∧ i13 = .int .i64 i ∧ s3 = .int .i64 n ∧ n ≤ 5000 ∧ wtF n (l.drop i) = Q ∧ Below w.heap.size w wr) (fun _ i13 _ => l.length - (intOf i13).toNat)
  case atStart => exact ⟨0, 0, Nat.zero_le _, rfl, rfl, by omega, HQ.out, W0.out⟩
  case round =>
    obtain ⟨i, n, hi, rfl, rfl, hn, hres, hb⟩ := hrel
    have HB := Lib.hid hb
    have hsz := hb.size
    clear hb HQ W0
    by_cases hlt : i < l.length
    · have hlt' : (i : Int) < l.length := by omega
      obtain ⟨b, off, cs, rfl, hpb, hr, hcs⟩ := (HL.out.keep feeE_ok HB.out.block (fun _ h => h)).at_ hlt
      rw [List.drop_eq_getElem_cons hlt, wtF] at hres
      have hxs := HS.out _ (List.getElem_mem hlt)
      generalize l[i] = X at *
      have hcs' : FeeP wr (· < w.heap.size) X cs := hcs
      obtain ⟨PA, pc, EA, ec, rfl, hpp, hee, _, _⟩ := hcs'
      have HP := Lib.hid hpp
      have HE := Lib.hid hee
      have HR1 := Lib.hid hr
      obtain ⟨⟨x0, x1, x2, x3⟩, x4, x5, x6⟩ := hxs
      have HX4 := Lib.hid x4
      have HX6 := Lib.hid x6
      have c1 := c9_le (X.id.length + X.title.length + X.link.length)
      obtain ⟨T, hT⟩ : ∃ T, wtP (n + (1 + c9 (X.id.length + X.title.length + X.link.length))) X.path = T := ⟨_, rfl⟩
      rw [hT] at hres
      have hTm := wtP_max (n + (1 + c9 (X.id.length + X.title.length + X.link.length))) X.path
      rw [hT] at hTm
      have HT := Lib.hid (show wtP (n + (1 + c9 (X.id.length + X.title.length + X.link.length))) (X.path.drop 0) = T from hT)
      have HRES := Lib.hid hres
      have hTb : T ≤ 100000000000000000 := by omega
      have hW1 : Below w.heap.size w (wr.alloc (feeBox X PA pc EA ec)) := HB.out.alloc hsz _
      have HW1 := Lib.hid hW1
      have HX1 := Lib.hid (heap_alloc_new wr (feeBox X PA pc EA ec))
      clear hr hcs hpp hee x4 x6 hT hTm hres hW1
      obtain ⟨k0, k1, k2, k3, k4, k5⟩ := cells6 HX1.out
      go_wp2_with (with_reducible refine gate ?_; refine wp_load_fee rfl _ rfl b (off + i * 6) rfl _ rfl HR1.out ?_)
      clear k0 k1 k2 k3 k4 k5
      obtain ⟨wo, rfl⟩ : ∃ x : World, x = wr := ⟨_, rfl⟩
      go_loop [3, 35] (fun s3 i35 => ∃ j m : Nat, j ≤ X.path.length ∧ i35 = .int .i64 j ∧ s3 = .int .i64 m ∧ wtP m (X.path.drop j) = T) (fun _ i35 => X.path.length - (intOf i35).toNat)
      case atStart => exact ⟨0, _, Nat.zero_le _, rfl, val_int (by omega), HT.out⟩
      case round =>
        obtain ⟨j, m, hj, rfl, rfl, hpt⟩ := hrel
        have hm := (wtP_le m (X.path.drop j)).1
        rw [hpt] at hm
        have hm2 : m ≤ 100000000000000000 := by omega
        clear hm HT
        by_cases hlj : j < X.path.length
        · have hlj' : (j : Int) < X.path.length := by omega
          obtain ⟨pb, po, rfl, _, hc1⟩ := strs_cell (HP.out.keep strE_ok (w' := wo.alloc (feeBox X PA pc EA ec)) (fun k hk => Below.heap_alloc _ _ _ (Nat.lt_of_lt_of_le hk hsz)) (fun _ h => h)) hlj
          rw [List.drop_eq_getElem_cons hlj, wtP] at hpt
          have hsl := HX4.out _ (List.getElem_mem hlj)
          generalize X.path[j] = sx at *
          have c2 := c9_le sx.length
          have HPT := Lib.hid hpt
          clear hpt
          go_wp2_with fail
          go_round
          case rel => exact ⟨j + 1, m + (1 + c9 sx.length), by omega, by go_num, val_int (by omega), HPT.out⟩
          case measure => simp [intOf]; omega
        · obtain rfl : j = X.path.length := by omega
          rw [List.drop_length, wtP] at hpt
          obtain rfl : m = T := hpt
          have hlj' : ¬ ((X.path.length : Int) < X.path.length) := by omega
          obtain ⟨O, hO⟩ : ∃ O, wtE m X.ents = O := ⟨_, rfl⟩
          have hres2 := HRES.out
          rw [hO] at hres2
          have HO := Lib.hid (show wtE m (X.ents.drop 0) = O from hO)
          have HRES2 := Lib.hid hres2
          clear hO hres2 HRES hlj hTb
          obtain ⟨k0, k1, k2, k3, k4, k5⟩ := cells6 HX1.out
          go_wp2_with fail
          clear k0 k1 k2 k3 k4 k5
          go_loopw [3, 49] (fun s3 i49 wr => ∃ j n : Nat, j ≤ X.ents.length ∧ i49 = .int .i64 j ∧ s3 = .int .i64 n ∧ n ≤ 100000000000000000 ∧ wtE n (X.ents.drop j) = O ∧ Below w.heap.size w wr ∧ Below wo.heap.size wo wr) (fun _ i49 _ => X.ents.length - (intOf i49).toNat)
          case atStart => exact ⟨0, m, Nat.zero_le _, rfl, rfl, hm2, HO.out, HW1.out, (Below.refl _ _).alloc (Nat.le_refl _) _⟩
          case round =>
            obtain ⟨j, n2, hj2, rfl, rfl, hn2, hen, hb2, hbo⟩ := hrel
            have HB2 := Lib.hid hb2
            have HBO := Lib.hid hbo
            have hsz2 := hb2.size
            have hsz3 := hbo.size
            clear hb2 hbo HO
            by_cases hlj : j < X.ents.length
            · have hlj' : (j : Int) < X.ents.length := by omega
              obtain ⟨eb, eo, rfl, _, her⟩ := ents_at (HE.out.keep entE_ok (fun k hk => HBO.out.block k (Nat.lt_of_lt_of_le hk hsz)) (fun _ h => h)) hlj
              rw [List.drop_eq_getElem_cons hlj, wtE] at hen
              have hel := HX6.out _ (List.getElem_mem hlj)
              generalize X.ents[j] = e at *
              unfold esz at hen
              obtain ⟨y0, y1, y2, y3⟩ := hel
              have c2 := c9_le (e.id.length + e.title.length + e.link.length + e.content.length)
              have HER := Lib.hid her
              clear her
              by_cases hbig : 5000 < n2 + (1 + c9 (e.id.length + e.title.length + e.link.length + e.content.length))
              · rw [if_pos hbig] at hen
                have hq : Q = true := by rw [← HRES2.out, ← hen]
                have HQ1 := Lib.hid hq
                have q : (5000 : Int) < (n2 : Int) + (1 + (c9 (e.id.length + e.title.length + e.link.length + e.content.length) : Nat)) := by omega
                clear hq hen hbig
                go_wp2_with (with_reducible refine gate ?_; refine wp_load_ent rfl _ rfl eb (eo + j * 5) rfl _ rfl HER.out ?_)
                go_ret
                exact ⟨ret_int (by first | rfl | (rw [HQ1.out]; rfl)), HB2.out.alloc hsz2 _⟩
              · rw [if_neg hbig] at hen
                have HEN := Lib.hid hen
                have q : ¬ ((5000 : Int) < (n2 : Int) + (1 + (c9 (e.id.length + e.title.length + e.link.length + e.content.length) : Nat))) := by omega
                have hn3 : n2 + (1 + c9 (e.id.length + e.title.length + e.link.length + e.content.length)) ≤ 100000000000000000 := by omega
                clear hen
                go_wp2_with (with_reducible refine gate ?_; refine wp_load_ent rfl _ rfl eb (eo + j * 5) rfl _ rfl HER.out ?_)
                go_roundw
                case rel => exact ⟨j + 1, n2 + (1 + c9 (e.id.length + e.title.length + e.link.length + e.content.length)), by omega, by go_num, val_int (by omega), hn3, HEN.out, HB2.out.alloc hsz2 _, HBO.out.alloc hsz3 _⟩
                case measure => simp [intOf]; omega
            · obtain rfl : j = X.ents.length := by omega
              rw [List.drop_length, wtE] at hen
              have hr3 := HRES2.out
              rw [← hen] at hr3
              have hlj' : ¬ ((X.ents.length : Int) < X.ents.length) := by omega
              by_cases hbig : 5000 < n2
              · simp only [if_pos hbig] at hr3
                have HQ1 := Lib.hid hr3.symm
                have q : (5000 : Int) < n2 := by omega
                clear hr3 hen hbig
                go_wp2_with fail
                go_ret
                exact ⟨ret_int (by first | rfl | (rw [HQ1.out]; rfl)), HB2.out⟩
              · simp only [if_neg hbig] at hr3
                have HQ1 := Lib.hid hr3
                have q : ¬ (5000 : Int) < n2 := by omega
                have hn4 : n2 ≤ 5000 := by omega
                clear hr3 hen hbig
                go_wp2_with fail
                go_roundw
                case rel => exact ⟨i + 1, n2, by omega, by go_num, rfl, hn4, HQ1.out, HB2.out⟩
                case measure => simp [intOf]; omega
    · obtain rfl : i = l.length := by omega
      rw [List.drop_length, wtF] at hres
      subst hres
      have hlt' : ¬ ((l.length : Int) < l.length) := by omega
      go_wp2_with fail
      go_ret
      exact ⟨rfl, HB.out⟩
end Go.Proofs.YtadkgjbidhfefaaDoor
set_option linter.unusedVariables false
namespace Go.Proofs.YtadkgjbidhfefaaDoor
open Go.RowKit

set_option maxHeartbeats 2000000 in
set_option maxRecDepth 100000 in
theorem large13_any (f : Fe) (u : Value) (w : World) (hu : FeeV w (· < w.heap.size) f u) (hf : FLen f) :
    Calls Tryd.prog 34 #[u] w fun x w' => x = .returned (.bool (wtF 0 [f])) ∧ Below w.heap.size w w' := by
  obtain ⟨cs, rfl, hp⟩ := hu
  obtain ⟨PA, pc, EA, ec, rfl, hpp, hee, h3, h4⟩ := id hp
  have hA0 : Below w.heap.size w (w.alloc (feeBox f PA pc EA ec)) := (Below.refl _ _).alloc (Nat.le_refl _) _
  have hp1 : FeeP (w.alloc (feeBox f PA pc EA ec)) (· < w.heap.size) f _ := hp.keep hA0.block (fun _ h => h)
  have hrow := els_one feeE_ok (w := w.alloc (feeBox f PA pc EA ec)) (p := (· < w.heap.size)) (x := f) hp1 (fun k hk => by have h1 : k < w.heap.size := hk; simp; omega) (· < ((w.alloc (feeBox f PA pc EA ec)).alloc (feeBox f PA pc EA ec)).heap.size) (fun k hk => by have h1 : k < w.heap.size := hk; simp; omega) (by simp)
  have hz : (w.alloc (feeBox f PA pc EA ec)).heap.size = w.heap.size + 1 := by simp
  rw [hz] at hrow
  have htl := tooLarge13_any [f] _ ((w.alloc (feeBox f PA pc EA ec)).alloc (feeBox f PA pc EA ec)) hrow (by simp) (fun x hx => by rw [List.mem_singleton.1 hx]; exact hf)
  have k := cells6 (heap_alloc_new w (feeBox f PA pc EA ec))
  obtain ⟨k0, k1, k2, k3, k4, k5⟩ := k
  have HA0 := Lib.hid hA0
  cases hq : wtF 0 [f] with
  | true =>
    rw [hq] at htl
    simp only [if_true] at htl
    have HTL := Lib.hid htl
    clear htl hq hrow hp hp1 hpp hee hz hA0
    go_enter Tryd.func34, Tryd.ntmps34
    go_wp2_with (go_at_call 26; refine HTL.out.mono ?_; rintro x w1 ⟨rfl, hb1⟩)
    go_ret
    exact ⟨rfl, (HA0.out.alloc (by simp) _).trans (hb1.mono (by simp; omega))⟩
  | false =>
    rw [hq] at htl
    simp only [Bool.false_eq_true, if_false] at htl
    have HTL := Lib.hid htl
    clear htl hq hrow hp hp1 hpp hee hz hA0
    go_enter Tryd.func34, Tryd.ntmps34
    go_wp2_with (go_at_call 26; refine HTL.out.mono ?_; rintro x w1 ⟨rfl, hb1⟩)
    go_ret
    exact ⟨rfl, (HA0.out.alloc (by simp) _).trans (hb1.mono (by simp; omega))⟩
end Go.Proofs.YtadkgjbidhfefaaDoor
set_option linter.unusedVariables false
namespace Go.Proofs.YtadkgjbidhfefaaDoor
open Go.RowKit

/-- Three parameters. -/
structure Box3F (w : World) (B : Nat) (x y z : Obj) : Prop where
  one : w.heap[B]? = some x
  two : w.heap[B + 1]? = some y
  thr : w.heap[B + 1 + 1]? = some z
theorem Box3F.new (w : World) (x y z : Obj) : Box3F (((w.alloc x).alloc y).alloc z) w.heap.size x y z := by
  refine ⟨?_, ?_, ?_⟩
  · exact (Below.heap_alloc _ _ _ (by simp; omega)).trans ((Below.heap_alloc _ _ _ (by simp)).trans (heap_alloc_new w _))
  · refine (Below.heap_alloc _ _ _ (by simp)).trans ?_
    have := heap_alloc_new (w.alloc x) y
    simpa using this
  · have := heap_alloc_new ((w.alloc x).alloc y) z
    simpa using this
theorem Box3F.next {w w' : World} {B : Nat} {x y z : Obj} (h : Box3F w B x y z) (hb : Below w.heap.size w w') : Box3F w' B x y z :=
  ⟨(hb.block _ (heap_lt h.one)).trans h.one, (hb.block _ (heap_lt h.two)).trans h.two, (hb.block _ (heap_lt h.thr)).trans h.thr⟩
end Go.Proofs.YtadkgjbidhfefaaDoor
set_option linter.unusedVariables false
namespace Go.Proofs.YtadkgjbidhfefaaDoor
open Go.RowKit

theorem h2a (W : World) (A B : Obj) (n : Nat) (hn : W.heap.size = n) : ((W.alloc A).alloc B).heap[n]? = some A := by
  subst hn; exact (Below.heap_alloc _ _ _ (by simp)).trans (heap_alloc_new W A)
theorem h2b (W : World) (A B : Obj) (n : Nat) (hn : W.heap.size + 1 = n) : ((W.alloc A).alloc B).heap[n]? = some B := by
  subst hn; have := heap_alloc_new (W.alloc A) B; simpa using this
theorem els_one13 {W : World} {b : Nat} {s0 : Bytes} (hb : W.heap[b]? = some (.cells #[.string (S s0)] 9)) : ElsP strE W (· < W.heap.size) (.slice (some ⟨b, 0, none⟩) 1 1) [s0] :=
  ⟨_, 1, rfl, Nat.le_refl _, .inr ⟨b, 0, rfl, heap_lt hb, fun i a hi => ⟨_, rfl, fun j v hj => by
    match j, hj with
    | 0, hj =>
      simp at hj; subst hj
      rw [Lib.cell_of_heap hb]
      match i, hi with
      | 0, hi => simp at hi; subst hi; rfl
      | i + 1, hi => simp at hi
    | j + 1, hj => simp at hj⟩⟩⟩
theorem els_two13 {W : World} {b : Nat} {s0 s1 : Bytes} (hb : W.heap[b]? = some (.cells #[.string (S s0), .string (S s1)] 9)) : ElsP strE W (· < W.heap.size) (.slice (some ⟨b, 0, none⟩) 2 2) [s0, s1] :=
  ⟨_, 2, rfl, Nat.le_refl _, .inr ⟨b, 0, rfl, heap_lt hb, fun i a hi => ⟨_, rfl, fun j v hj => by
    match j, hj with
    | 0, hj =>
      simp at hj; subst hj
      rw [Lib.cell_of_heap hb]
      match i, hi with
      | 0, hi => simp at hi; subst hi; rfl
      | 1, hi => simp at hi; subst hi; rfl
      | i + 2, hi => simp at hi
    | j + 1, hj => simp at hj⟩⟩⟩
def xE : En := ⟨[120], [], [], [], 7⟩
def aE : En := ⟨[97], [], [], [], 0⟩
def bE : En := ⟨[98], [], [], [], 0⟩
def zE : En := ⟨[], [], [], [], 0⟩
def fF : Fe := ⟨[], [102], [], [], 0, []⟩
theorem dec_one_dig (n : Nat) (h : n < 10) : Lib.itoa (n : Int) = [UInt8.ofNat (48 + n)] := by
  unfold Lib.itoa
  rw [if_neg (by omega)]
  exact Lib.decDigits_one h
theorem xE_key : keyOf (entVal xE) = [91, 34, 120, 34, 44, 34, 34, 44, 34, 34, 44, 34, 34, 44, 55, 93] := by
  rw [key_ent, show Lib.itoa xE.upd = [55] from dec_one_dig 7 (by decide)]
  decide +kernel
theorem later_ab : lat3 cmpK aE bE = bE := by
  have ha : kE aE = [91, 34, 97, 34, 44, 34, 34, 44, 34, 34, 44, 34, 34, 44, 48, 93] := by
    unfold kE
    rw [key_ent, show Lib.itoa aE.upd = [48] from dec_one_dig 0 (by decide)]
    decide +kernel
  have hb : kE bE = [91, 34, 98, 34, 44, 34, 34, 44, 34, 34, 44, 34, 34, 44, 48, 93] := by
    unfold kE
    rw [key_ent, show Lib.itoa bE.upd = [48] from dec_one_dig 0 (by decide)]
    decide +kernel
  unfold lat3 cmpK lex3
  simp only [ha, hb]
  rw [show cmpI aE.upd bE.upd = 0 from rfl]
  rfl
theorem fF_ok : ordFs [fF] = true := by decide +kernel
theorem zE_no : vldE zE = false := rfl

set_option maxHeartbeats 4000000 in
set_option maxRecDepth 100000 in
theorem alive13_any (w : World) (hT : TabJ w) : Calls Tryd.prog 27 #[] w fun e w' => e = .returned (.bool true) ∧ Below w.heap.size w w' := by
  have h1 : ∀ (W : World) (a b : Nat), W.heap[a]? = some (.cells #[.string ⟨#[97]⟩, .string ⟨#[98]⟩] 9) → W.heap[b]? = some (.cells #[.string ⟨#[97]⟩, .string ⟨#[98]⟩, .string ⟨#[99]⟩] 9) →
      Calls Tryd.prog 36 #[.slice (some ⟨a, 0, none⟩) 2 2, .slice (some ⟨b, 0, none⟩) 3 3] W fun e w' => e = .returned (.int .i64 (-1)) ∧ w' = W := fun W a b ha hb =>
    cmpPaths_any [[97], [98]] [[97], [98], [99]] _ _ W _ (els_two13 ha) (els_three hb) (by decide) (by decide)
  have h2 : ∀ (W : World) (a b : Nat), W.heap[a]? = some (.cells #[.string ⟨#[97]⟩, .string ⟨#[98]⟩, .string ⟨#[99]⟩] 9) → W.heap[b]? = some (.cells #[.string ⟨#[98]⟩] 9) →
      Calls Tryd.prog 36 #[.slice (some ⟨a, 0, none⟩) 3 3, .slice (some ⟨b, 0, none⟩) 1 1] W fun e w' => e = .returned (.int .i64 (-1)) ∧ w' = W := fun W a b ha hb =>
    cmpPaths_any [[97], [98], [99]] [[98]] _ _ W _ (els_three ha) (els_one13 hb) (by decide) (by decide)
  have h3 : ∀ W : World, Calls Tryd.prog 37 #[.agg #[.string ⟨#[]⟩, .string ⟨#[]⟩, .string ⟨#[]⟩, .string ⟨#[]⟩, .int .i64 5], .agg #[.string ⟨#[]⟩, .string ⟨#[]⟩, .string ⟨#[]⟩, .string ⟨#[]⟩, .int .i64 4]] W fun e w' => e = .returned (.int .i64 (-1)) ∧ Below W.heap.size W w' := fun W =>
    cmpEntries_any ⟨[], [], [], [], 5⟩ ⟨[], [], [], [], 4⟩ W
  have h4 : ∀ W : World, Below w.heap.size w W → Calls Tryd.prog 41 #[.agg #[.string ⟨#[120]⟩, .string ⟨#[]⟩, .string ⟨#[]⟩, .string ⟨#[]⟩, .int .i64 7]] W fun e w' => e = .returned (.string ⟨#[91, 34, 120, 34, 44, 34, 34, 44, 34, 34, 44, 34, 34, 44, 55, 93]⟩) ∧ Below W.heap.size W w' := fun W hW => by
    have := entryKey_any xE W (hT.next hW) (by constructor <;> decide) (by decide)
    rw [xE_key] at this
    exact this
  have h5 : ∀ (W : World) (b : Nat), Below w.heap.size w W → W.heap[b]? = some (.cells #[.slice none 0 0, .string ⟨#[102]⟩, .string ⟨#[]⟩, .string ⟨#[]⟩, .int .i64 0, .slice none 0 0] 55) →
      Calls Tryd.prog 32 #[.agg #[.slice (some ⟨b, 0, none⟩) 1 1]] W fun e w' => e = .returned (.int .i64 0) ∧ Below W.heap.size W w' := fun W b hW hb => by
    have := checkA_any [fF] (.slice (some ⟨b, 0, none⟩) 1 1) W (hT.next hW) ⟨_, 1, rfl, Nat.le_refl _, .inr ⟨b, 0, rfl, heap_lt hb, fun i a hi => by
      match i, hi with
      | 0, hi =>
        simp at hi; subst hi
        exact ⟨_, ⟨none, 0, none, 0, rfl, ElsP.nil _ _ _, ElsP.nil _ _ _, Nat.le_refl _, Nat.le_refl _⟩, (show W.rangeAt b (0 + 0 * 6) _ from range_of_heap hb)⟩
      | i + 1, hi => simp at hi⟩⟩ (by decide) (fun f hf => by
        rw [List.mem_singleton.1 hf]
        exact ⟨by decide, by decide, by decide, (fun e he => by cases he), by decide⟩)
    rw [fF_ok] at this
    exact this
  have h6 : ∀ W : World, Below w.heap.size w W → Calls Tryd.prog 30 #[.agg #[.string ⟨#[]⟩, .string ⟨#[]⟩, .string ⟨#[]⟩, .string ⟨#[]⟩, .int .i64 0]] W fun e w' => e = .returned (.int .i64 22) ∧ Below W.heap.size W w' := fun W hW =>
    checkEntry_any zE W (hT.next hW) (by decide)
  have h7 : ∀ W : World, Below w.heap.size w W → Calls Tryd.prog 38 #[.agg #[.string ⟨#[97]⟩, .string ⟨#[]⟩, .string ⟨#[]⟩, .string ⟨#[]⟩, .int .i64 0], .agg #[.string ⟨#[98]⟩, .string ⟨#[]⟩, .string ⟨#[]⟩, .string ⟨#[]⟩, .int .i64 0]] W fun e w' => e = .returned (.agg #[.string ⟨#[98]⟩, .string ⟨#[]⟩, .string ⟨#[]⟩, .string ⟨#[]⟩, .int .i64 0]) ∧ Below W.heap.size W w' := fun W hW => by
    have := laterEntry_any aE bE W (hT.next hW) (by constructor <;> decide) (by constructor <;> decide) (by decide) (by decide)
    rw [later_ab] at this
    exact this
  have hfld : ∀ W : World, (Instr.field 59 (.agg #[.string ⟨#[98]⟩, .string ⟨#[]⟩, .string ⟨#[]⟩, .string ⟨#[]⟩, .int .i64 0]) 0).run Tryd.prog W = .ok (.string ⟨#[98]⟩) W := fun W => by kernel_rfl
  have H1 := Lib.hid h1
  have H2 := Lib.hid h2
  have H3 := Lib.hid h3
  have H4 := Lib.hid h4
  have H5 := Lib.hid h5
  have H6 := Lib.hid h6
  have H7 := Lib.hid h7
  clear h1 h2 h3 h4 h5 h6 h7 hT
  go_enter Tryd.func27, Tryd.ntmps27
  go_wp2_with fail
  refine (H1.out _ _ _ ?_ ?_).mono ?_
  · exact h2a _ _ _ _ (by simp)
  · exact h2b _ _ _ _ (by simp)
  rintro e w1 ⟨rfl, rfl⟩
  go_wp2_with fail
  refine (H2.out _ _ _ ?_ ?_).mono ?_
  · exact h2a _ _ _ _ (by simp)
  · exact h2b _ _ _ _ (by simp)
  rintro e w2 ⟨rfl, rfl⟩
  have B2 : ∀ A B C D : Obj, Below w.heap.size w ((((w.alloc A).alloc B).alloc C).alloc D) := fun A B C D => ((((Below.refl _ _).alloc (Nat.le_refl _) A).alloc (by simp) B).alloc (by simp; omega) C).alloc (by simp; omega) D
  have HB2 := Lib.hid B2
  clear B2
  go_wp2_with fail
  refine (H3.out _).mono ?_
  rintro e w3 ⟨rfl, hb3⟩
  have B3 := Lib.hid ((HB2.out _ _ _ _).trans (hb3.mono (by simp; omega)))
  clear hb3
  go_wp2_with fail
  refine (H4.out _ B3.out).mono ?_
  rintro e w4 ⟨rfl, hb4⟩
  have B4 := Lib.hid (B3.out.trans (hb4.mono B3.out.size))
  clear hb4
  go_wp2_with fail
  refine (H5.out _ _ (B4.out.alloc B4.out.size _) (heap_alloc_new w4 _)).mono ?_
  rintro e w5 ⟨rfl, hb5⟩
  have B5 := Lib.hid ((B4.out.alloc B4.out.size _).trans (hb5.mono (by have := B4.out.size; simp; omega)))
  clear hb5
  go_wp2_with fail
  refine (H6.out _ B5.out).mono ?_
  rintro e w6 ⟨rfl, hb6⟩
  have B6 := Lib.hid (B5.out.trans (hb6.mono B5.out.size))
  clear hb6
  go_wp2_with fail
  refine (H7.out _ B6.out).mono ?_
  rintro e w7 ⟨rfl, hb7⟩
  go_wp2_with fail
  go_ret
  exact ⟨rfl, B6.out.trans (hb7.mono B6.out.size)⟩
end Go.Proofs.YtadkgjbidhfefaaDoor
set_option linter.unusedVariables false
namespace Go.Proofs.YtadkgjbidhfefaaDoor
open Go.RowKit

def enEq (a b : En) : Bool := (a.id == b.id) && ((a.title == b.title) && ((a.link == b.link) && ((a.content == b.content) && (a.upd == b.upd))))
theorem enEq_iff {a b : En} : enEq a b = true ↔ a = b := by
  cases a; cases b
  simp [enEq]
theorem enEq_same (a : En) : enEq a a = true := enEq_iff.2 rfl
theorem enEq_no {a b : En} (h : a ≠ b) : enEq a b = false := by
  cases hq : enEq a b with
  | false => rfl
  | true => exact absurd (enEq_iff.1 hq) h
theorem eqIn_ent (a b : En) (w : World) : (Op.equalIn 10000 59 (entV a) (entV b)).run Tryd.prog w = .ok (enEq a b) w := by
  have hS : Tryd.prog.underlying 59 = some (.struct (Tryd.prog.fieldsOf 59)) := by kernel_rfl
  have hp : Tryd.prog.stoodInHeld 59 = false := by kernel_rfl
  have u9 := Tryd.underlying9
  have u2 := Tryd.underlying2
  have a9 := Tryd.isAgg9
  have z9 := Tryd.sizeOf9
  have a2 := Tryd.isAgg2
  have z2 := Tryd.sizeOf2
  rw [show (10000 : Nat) = 9999 + 1 from rfl, run_equalIn_agg w 9999 59 _ _ hS hp]
  simp only [Program.fieldsOf, Tryd.underlying59]
  go_simp
  unfold enEq
  cases h1 : (a.id == b.id) <;> cases h2 : (a.title == b.title) <;> cases h3 : (a.link == b.link) <;> cases h4 : (a.content == b.content) <;> cases h5 : (a.upd == b.upd) <;> simp_all
theorem run_eq_ent (a b : En) (w : World) : (binOp .eql 59 (entV a) (entV b)).run Tryd.prog w = .ok (.bool (enEq a b)) w := by
  rw [run_eql_struct, eqIn_ent]; rfl
theorem run_ne_ent (a b : En) (w : World) : (binOp .neq 59 (entV a) (entV b)).run Tryd.prog w = .ok (.bool (!(enEq a b))) w := by
  rw [run_neq_struct, eqIn_ent]; rfl
end Go.Proofs.YtadkgjbidhfefaaDoor
set_option linter.unusedVariables false
namespace Go.Proofs.YtadkgjbidhfefaaDoor
open Go.RowKit

theorem cmpE_bare {f g : Fe} : cmpE ⟨f.id, [], [], [], f.upd⟩ ⟨g.id, [], [], [], g.upd⟩ = 0 ↔ (⟨f.id, [], [], [], f.upd⟩ : En) = ⟨g.id, [], [], [], g.upd⟩ := by
  constructor
  · intro h
    unfold cmpE lex3 at h
    dsimp only at h
    split at h
    · rename_i h1
      have := cmpI_eq h1
      have := cmpB_eq h
      simp_all
    · rename_i h1; exact absurd h h1
  · intro h
    rw [h]
    exact ordE.same _

set_option maxHeartbeats 16000000 in
set_option maxRecDepth 100000 in
theorem law13orders_any (f g h : Fe) (u v t : Value) (w : World) (hT : TabJ w) (hu : FeeV w (· < w.heap.size) f u) (hv : FeeV w (· < w.heap.size) g v) (ht : FeeV w (· < w.heap.size) h t) (lf : FLen f) (lg : FLen g) (lh : FLen h) :
    Calls Tryd.prog 8 #[u, v, t] w fun e w' => e = .returned (.bool true) ∧ Below w.heap.size w w' := by
  have kp : ∀ {a : Fe} {x : Value} (W : World), Below w.heap.size w W → FeeV w (· < w.heap.size) a x → FeeV W (· < W.heap.size) a x := fun W hW hx => hx.keep hW.block (fun k hk => Nat.lt_of_lt_of_le hk hW.size)
  have hal := fun W => fun (hW : Below w.heap.size w W) => alive13_any W (hT.next hW)
  have l1 := fun W => fun (hW : Below w.heap.size w W) => large13_any f u W (kp W hW hu) lf
  have l2 := fun W => fun (hW : Below w.heap.size w W) => large13_any g v W (kp W hW hv) lg
  have l3 := fun W => fun (hW : Below w.heap.size w W) => large13_any h t W (kp W hW ht) lh
  have fgh : ∀ {a b : Fe} {x y : Value}, FeeV w (· < w.heap.size) a x → FeeV w (· < w.heap.size) b y → FSz a → FSz b → ∀ W, Below w.heap.size w W → Calls Tryd.prog 35 #[x, y] W fun e w' => e = .returned (.int .i64 (cmpF a b)) ∧ Below W.heap.size W w' := fun hx hy la lb W hW => cmpFeeds_any _ _ _ _ W (kp W hW hx) (kp W hW hy) (by have := la.path; omega) (by have := lb.path; omega)
  have sz : ∀ {a : Fe}, wtF 0 [a] = false → FSz a := fun ha => (wtF_no ha (by omega)).2 _ (by simp)
  obtain ⟨P1, p1, E1, e1, rfl, hp1, he1, _, _⟩ := hu.open_
  obtain ⟨P2, p2, E2, e2, rfl, hp2, he2, _, _⟩ := hv.open_
  obtain ⟨P3, p3, E3, e3, rfl, hp3, he3, _, _⟩ := ht.open_
  have B0 := Lib.hid (Box3F.new w (feeBox f P1 p1 E1 e1) (feeBox g P2 p2 E2 e2) (feeBox h P3 p3 E3 e3))
  have W0 : Hid (Below w.heap.size w (((w.alloc (feeBox f P1 p1 E1 e1)).alloc (feeBox g P2 p2 E2 e2)).alloc (feeBox h P3 p3 E3 e3))) := (((Below.refl _ _).alloc (Nat.le_refl _) _).alloc (by simp) _).alloc (by simp; omega) _
  have HAL := Lib.hid hal
  have L1 := Lib.hid l1
  have L2 := Lib.hid l2
  have L3 := Lib.hid l3
  have CE : ∀ W, Box3F W w.heap.size (feeBox f P1 p1 E1 e1) (feeBox g P2 p2 E2 e2) (feeBox h P3 p3 E3 e3) → (W.cell? ⟨w.heap.size, 0, none⟩ = some (.slice P1 f.path.length p1) ∧ W.cell? ⟨w.heap.size, 1, none⟩ = some (.string (S f.id)) ∧ W.cell? ⟨w.heap.size, 2, none⟩ = some (.string (S f.title)) ∧ W.cell? ⟨w.heap.size, 3, none⟩ = some (.string (S f.link)) ∧ W.cell? ⟨w.heap.size, 4, none⟩ = some (.int .i64 f.upd) ∧ W.cell? ⟨w.heap.size, 5, none⟩ = some (.slice E1 f.ents.length e1)) ∧ (W.cell? ⟨w.heap.size + 1, 0, none⟩ = some (.slice P2 g.path.length p2) ∧ W.cell? ⟨w.heap.size + 1, 1, none⟩ = some (.string (S g.id)) ∧ W.cell? ⟨w.heap.size + 1, 2, none⟩ = some (.string (S g.title)) ∧ W.cell? ⟨w.heap.size + 1, 3, none⟩ = some (.string (S g.link)) ∧ W.cell? ⟨w.heap.size + 1, 4, none⟩ = some (.int .i64 g.upd) ∧ W.cell? ⟨w.heap.size + 1, 5, none⟩ = some (.slice E2 g.ents.length e2)) ∧ (W.cell? ⟨w.heap.size + 1 + 1, 0, none⟩ = some (.slice P3 h.path.length p3) ∧ W.cell? ⟨w.heap.size + 1 + 1, 1, none⟩ = some (.string (S h.id)) ∧ W.cell? ⟨w.heap.size + 1 + 1, 2, none⟩ = some (.string (S h.title)) ∧ W.cell? ⟨w.heap.size + 1 + 1, 3, none⟩ = some (.string (S h.link)) ∧ W.cell? ⟨w.heap.size + 1 + 1, 4, none⟩ = some (.int .i64 h.upd) ∧ W.cell? ⟨w.heap.size + 1 + 1, 5, none⟩ = some (.slice E3 h.ents.length e3)) := fun W hW => ⟨cells6 hW.one, cells6 hW.two, cells6 hW.thr⟩
  have HCE := Lib.hid CE
  by_cases hq : wtF 0 [f] = true ∨ wtF 0 [g] = true ∨ wtF 0 [h] = true
  · generalize wtF 0 [f] = k1 at *
    generalize wtF 0 [g] = k2 at *
    generalize wtF 0 [h] = k3 at *
    clear fgh sz kp l1 l2 l3 hal hT hu hv ht lf lg lh hp1 hp2 hp3 he1 he2 he3 CE
    have c0 := HCE.out _ B0.out
    cases k1 <;> cases k2 <;> cases k3
    case false.false.false => exact absurd hq (by decide)
    all_goals
      clear hq
      go_enter Tryd.func8, Tryd.ntmps8
      go_wp2_with (first
        | (go_at_call 34; (with_reducible refine (L1.out _ W0.out).mono ?_); rintro x w1 ⟨rfl, hb1⟩; have B1 := Lib.hid (B0.out.next hb1); have W1 := Lib.hid (W0.out.trans (hb1.mono W0.out.size)); have c1 := HCE.out _ B1.out; clear hb1)
        | (go_at_call 34; (with_reducible refine (L2.out _ W1.out).mono ?_); rintro x w2 ⟨rfl, hb2⟩; have B2 := Lib.hid (B1.out.next hb2); have W2 := Lib.hid (W1.out.trans (hb2.mono W1.out.size)); have c2 := HCE.out _ B2.out; clear hb2)
        | (go_at_call 34; (with_reducible refine (L3.out _ W2.out).mono ?_); rintro x w3 ⟨rfl, hb3⟩; have W3 := Lib.hid (W2.out.trans (hb3.mono W2.out.size)); clear hb3)
        | (go_at_call 27; (with_reducible refine (HAL.out _ W3.out).mono ?_); rintro x w4 ⟨rfl, hb4⟩; have W4 := Lib.hid (W3.out.trans (hb4.mono W3.out.size)); clear hb4)
        | (go_at_call 27; (with_reducible refine (HAL.out _ W2.out).mono ?_); rintro x w4 ⟨rfl, hb4⟩; have W4 := Lib.hid (W2.out.trans (hb4.mono W2.out.size)); clear hb4)
        | (go_at_call 27; (with_reducible refine (HAL.out _ W1.out).mono ?_); rintro x w4 ⟨rfl, hb4⟩; have W4 := Lib.hid (W1.out.trans (hb4.mono W1.out.size)); clear hb4))
      go_ret
      exact ⟨rfl, W4.out⟩
  · have q1 : wtF 0 [f] = false := by cases hx : wtF 0 [f] with | false => rfl | true => exact absurd (.inl hx) hq
    have q2 : wtF 0 [g] = false := by cases hx : wtF 0 [g] with | false => rfl | true => exact absurd (.inr (.inl hx)) hq
    have q3 : wtF 0 [h] = false := by cases hx : wtF 0 [h] with | false => rfl | true => exact absurd (.inr (.inr hx)) hq
    have s1 := sz q1
    have s2 := sz q2
    have s3 := sz q3
    rw [q1] at l1
    rw [q2] at l2
    rw [q3] at l3
    have M1 := Lib.hid l1
    have M2 := Lib.hid l2
    have M3 := Lib.hid l3
    have hfg := fgh hu hv s1 s2
    have hgh := fgh hv ht s2 s3
    have hfh := fgh hu ht s1 s3
    have hgf := fgh hv hu s2 s1
    have hPs : ∀ {a b : Fe} {x y : Value}, ElsP strE w (· < w.heap.size) x a.path → ElsP strE w (· < w.heap.size) y b.path → FSz a → FSz b → ∀ W, Below w.heap.size w W → Calls Tryd.prog 36 #[x, y] W fun e w' => e = .returned (.int .i64 (cmpP a.path b.path)) ∧ w' = W := fun hx hy la lb W hW => cmpPaths_any _ _ _ _ W (· < w.heap.size) (hx.keep strE_ok hW.block (fun _ h => h)) (hy.keep strE_ok hW.block (fun _ h => h)) (by have := la.path; omega) (by have := lb.path; omega)
    have pfg := hPs hp1 hp2 s1 s2
    have pgh := hPs hp2 hp3 s2 s3
    have pfh := hPs hp1 hp3 s1 s3
    have pgf := hPs hp2 hp1 s2 s1
    have a1 := ordF.anti f g
    have t1 := ordF.tr f g h
    have a2 := ordP.anti f.path g.path
    have t2 := ordP.tr f.path g.path h.path
    have n1 := ordF.rng f g
    have n2 := ordF.rng g h
    have n3 := ordF.rng f h
    have n4 := ordP.rng f.path g.path
    have n5 := ordP.rng g.path h.path
    have n6 := ordP.rng f.path h.path
    rw [a1] at hgf
    rw [a2] at pgf
    generalize cmpF f g = x0 at *
    generalize cmpF g h = y0 at *
    generalize cmpF f h = z0 at *
    generalize cmpP f.path g.path = p0 at *
    generalize cmpP g.path h.path = q0 at *
    generalize cmpP f.path h.path = r0 at *
    have HFG := Lib.hid hfg
    have HGH := Lib.hid hgh
    have HFH := Lib.hid hfh
    have HGF := Lib.hid hgf
    have PFG := Lib.hid pfg
    have PGH := Lib.hid pgh
    have PFH := Lib.hid pfh
    have PGF := Lib.hid pgf
    have HA1 := Lib.hid a1
    have HA2 := Lib.hid a2
    have HT1 := Lib.hid t1
    have HT2 := Lib.hid t2
    have HN1 := Lib.hid (And.intro n1 (And.intro n2 n3))
    have HN2 := Lib.hid (And.intro n4 (And.intro n5 n6))
    clear hfg hgh hfh hgf pfg pgh pfh pgf a1 a2 t1 t2 n1 n2 n3 n4 n5 n6 hPs fgh sz kp s1 s2 s3 l1 l2 l3 hal q1 q2 q3 hq L1 L2 L3 hT hu hv ht lf lg lh hp1 hp2 hp3 he1 he2 he3 CE
    have c0 := HCE.out _ B0.out
    go_enter Tryd.func8, Tryd.ntmps8
    go_wp2_with (first
      | (go_at_call 34; (with_reducible refine (M1.out _ W0.out).mono ?_); rintro x w1 ⟨rfl, hb1⟩; have B1 := Lib.hid (B0.out.next hb1); have W1 := Lib.hid (W0.out.trans (hb1.mono W0.out.size)); have c1 := HCE.out _ B1.out; clear hb1)
      | (go_at_call 34; (with_reducible refine (M2.out _ W1.out).mono ?_); rintro x w2 ⟨rfl, hb2⟩; have B2 := Lib.hid (B1.out.next hb2); have W2 := Lib.hid (W1.out.trans (hb2.mono W1.out.size)); have c2 := HCE.out _ B2.out; clear hb2)
      | (go_at_call 34; (with_reducible refine (M3.out _ W2.out).mono ?_); rintro x w3 ⟨rfl, hb3⟩; have B3 := Lib.hid (B2.out.next hb3); have HB := Lib.hid (W2.out.trans (hb3.mono W2.out.size)); clear hb3))
    clear c0 c1 c2
    have hsz := HB.out.size
    have KEEP : Hid (∀ W, Below w3.heap.size w3 W → (W.cell? ⟨w.heap.size, 0, none⟩ = some (.slice P1 f.path.length p1) ∧ W.cell? ⟨w.heap.size, 1, none⟩ = some (.string (S f.id)) ∧ W.cell? ⟨w.heap.size, 2, none⟩ = some (.string (S f.title)) ∧ W.cell? ⟨w.heap.size, 3, none⟩ = some (.string (S f.link)) ∧ W.cell? ⟨w.heap.size, 4, none⟩ = some (.int .i64 f.upd) ∧ W.cell? ⟨w.heap.size, 5, none⟩ = some (.slice E1 f.ents.length e1)) ∧ (W.cell? ⟨w.heap.size + 1, 0, none⟩ = some (.slice P2 g.path.length p2) ∧ W.cell? ⟨w.heap.size + 1, 1, none⟩ = some (.string (S g.id)) ∧ W.cell? ⟨w.heap.size + 1, 2, none⟩ = some (.string (S g.title)) ∧ W.cell? ⟨w.heap.size + 1, 3, none⟩ = some (.string (S g.link)) ∧ W.cell? ⟨w.heap.size + 1, 4, none⟩ = some (.int .i64 g.upd) ∧ W.cell? ⟨w.heap.size + 1, 5, none⟩ = some (.slice E2 g.ents.length e2)) ∧ (W.cell? ⟨w.heap.size + 1 + 1, 0, none⟩ = some (.slice P3 h.path.length p3) ∧ W.cell? ⟨w.heap.size + 1 + 1, 1, none⟩ = some (.string (S h.id)) ∧ W.cell? ⟨w.heap.size + 1 + 1, 2, none⟩ = some (.string (S h.title)) ∧ W.cell? ⟨w.heap.size + 1 + 1, 3, none⟩ = some (.string (S h.link)) ∧ W.cell? ⟨w.heap.size + 1 + 1, 4, none⟩ = some (.int .i64 h.upd) ∧ W.cell? ⟨w.heap.size + 1 + 1, 5, none⟩ = some (.slice E3 h.ents.length e3))) := fun W hW => HCE.out _ (B3.out.next hW)
    go_wp2_with fail
    go_cut [7, 8, 9] (fun s7 s8 s9 wx => s7 = .int .i64 x0 ∧ s8 = .int .i64 y0 ∧ s9 = .int .i64 z0 ∧ Below w3.heap.size w3 wx)
    case first =>
      go_region_held3 (fun x => (x.cell? ⟨w.heap.size, 0, none⟩ = some (.slice P1 f.path.length p1) ∧ x.cell? ⟨w.heap.size, 1, none⟩ = some (.string (S f.id)) ∧ x.cell? ⟨w.heap.size, 2, none⟩ = some (.string (S f.title)) ∧ x.cell? ⟨w.heap.size, 3, none⟩ = some (.string (S f.link)) ∧ x.cell? ⟨w.heap.size, 4, none⟩ = some (.int .i64 f.upd) ∧ x.cell? ⟨w.heap.size, 5, none⟩ = some (.slice E1 f.ents.length e1)) ∧ (x.cell? ⟨w.heap.size + 1, 0, none⟩ = some (.slice P2 g.path.length p2) ∧ x.cell? ⟨w.heap.size + 1, 1, none⟩ = some (.string (S g.id)) ∧ x.cell? ⟨w.heap.size + 1, 2, none⟩ = some (.string (S g.title)) ∧ x.cell? ⟨w.heap.size + 1, 3, none⟩ = some (.string (S g.link)) ∧ x.cell? ⟨w.heap.size + 1, 4, none⟩ = some (.int .i64 g.upd) ∧ x.cell? ⟨w.heap.size + 1, 5, none⟩ = some (.slice E2 g.ents.length e2)) ∧ (x.cell? ⟨w.heap.size + 1 + 1, 0, none⟩ = some (.slice P3 h.path.length p3) ∧ x.cell? ⟨w.heap.size + 1 + 1, 1, none⟩ = some (.string (S h.id)) ∧ x.cell? ⟨w.heap.size + 1 + 1, 2, none⟩ = some (.string (S h.title)) ∧ x.cell? ⟨w.heap.size + 1 + 1, 3, none⟩ = some (.string (S h.link)) ∧ x.cell? ⟨w.heap.size + 1 + 1, 4, none⟩ = some (.int .i64 h.upd) ∧ x.cell? ⟨w.heap.size + 1 + 1, 5, none⟩ = some (.slice E3 h.ents.length e3)))
        (first | exact KEEP.out _ r3 | exact KEEP.out _ r2 | exact KEEP.out _ r1 | exact KEEP.out _ (Below.refl _ _).drew)
        (first
          | ((go_at_call 35; (with_reducible refine (HFG.out _ (HB.out.trans (r2.mono hsz))).mono ?_); rintro x y3 ⟨rfl, hb⟩; have r3 := r2.trans (hb.mono z2); have z3 : w3.heap.size ≤ y3.heap.size := r3.size; clear hb))
          | ((go_at_call 35; (with_reducible refine (HGH.out _ (HB.out.trans (r2.mono hsz))).mono ?_); rintro x y3 ⟨rfl, hb⟩; have r3 := r2.trans (hb.mono z2); have z3 : w3.heap.size ≤ y3.heap.size := r3.size; clear hb))
          | ((go_at_call 35; (with_reducible refine (HFH.out _ (HB.out.trans (r2.mono hsz))).mono ?_); rintro x y3 ⟨rfl, hb⟩; have r3 := r2.trans (hb.mono z2); have z3 : w3.heap.size ≤ y3.heap.size := r3.size; clear hb))
          | ((go_at_call 35; (with_reducible refine (HFG.out _ (HB.out.trans (r1.mono hsz))).mono ?_); rintro x y2 ⟨rfl, hb⟩; have r2 := r1.trans (hb.mono z1); have z2 : w3.heap.size ≤ y2.heap.size := r2.size; clear hb))
          | ((go_at_call 35; (with_reducible refine (HGH.out _ (HB.out.trans (r1.mono hsz))).mono ?_); rintro x y2 ⟨rfl, hb⟩; have r2 := r1.trans (hb.mono z1); have z2 : w3.heap.size ≤ y2.heap.size := r2.size; clear hb))
          | ((go_at_call 35; (with_reducible refine (HFH.out _ (HB.out.trans (r1.mono hsz))).mono ?_); rintro x y2 ⟨rfl, hb⟩; have r2 := r1.trans (hb.mono z1); have z2 : w3.heap.size ≤ y2.heap.size := r2.size; clear hb))
          | ((go_at_call 35; (with_reducible refine (HFG.out _ HB.out.drew).mono ?_); rintro x y1 ⟨rfl, hb⟩; have r1 := (Below.refl w3.heap.size w3).drew.trans hb; have z1 : w3.heap.size ≤ y1.heap.size := r1.size; clear hb))
          | ((go_at_call 35; (with_reducible refine (HGH.out _ HB.out.drew).mono ?_); rintro x y1 ⟨rfl, hb⟩; have r1 := (Below.refl w3.heap.size w3).drew.trans hb; have z1 : w3.heap.size ≤ y1.heap.size := r1.size; clear hb))
          | ((go_at_call 35; (with_reducible refine (HFH.out _ HB.out.drew).mono ?_); rintro x y1 ⟨rfl, hb⟩; have r1 := (Below.refl w3.heap.size w3).drew.trans hb; have z1 : w3.heap.size ≤ y1.heap.size := r1.size; clear hb)))
      all_goals
        go_wp2_with fail
        go_meet
        exact ⟨rfl, rfl, rfl, r3⟩
    case rest =>
      obtain ⟨rfl, rfl, rfl, hbc⟩ := hcut
      have HY := Lib.hid (HB.out.trans (hbc.mono hsz))
      have HYN : Hid (∀ n, Below w.heap.size w (wc.drewN n)) := fun n => HY.out.trans ((below_drewN13 wc n).mono HY.out.size)
      have HK := Lib.hid (KEEP.out _ hbc)
      have HKY : Hid (∀ W, Below wc.heap.size wc W → Box3F W w.heap.size (feeBox f P1 p1 E1 e1) (feeBox g P2 p2 E2 e2) (feeBox h P3 p3 E3 e3)) := fun W hW => (B3.out.next hbc).next hW
      clear hbc
      obtain ⟨⟨a0, a1, a2, a3, a4, a5⟩, ⟨b0, b1, b2, b3, b4, b5⟩, c0, c1, c2, c3, c4, c5⟩ := HK.out
      go_wp2_with fail
      go_quiet ((go_at_call 36; first | exact Calls.quiet_of_same (PFG.out _ (HYN.out _)) | exact Calls.quiet_of_same (PGH.out _ (HYN.out _)) | exact Calls.quiet_of_same (PFH.out _ (HYN.out _))))
      have HY4 := Lib.hid (HY.out.trans ((below_drewN13 wc nq).mono HY.out.size))
      have HB4 := Lib.hid (HKY.out _ (below_drewN13 wc nq))
      have HK4 := Lib.hid (HCE.out _ HB4.out)
      clear a0 a1 a2 a3 a4 a5 b0 b1 b2 b3 b4 b5 c0 c1 c2 c3 c4 c5 HKY HK
      generalize wc.drewN nq = y4 at *
      have bx : -1 ≤ x0 ∧ x0 ≤ 1 := by have := HN1.out; omega
      have by' : -1 ≤ y0 ∧ y0 ≤ 1 := by have := HN1.out; omega
      have bp : -1 ≤ p0 ∧ p0 ≤ 1 := by have := HN2.out; omega
      have bq : -1 ≤ q0 ∧ q0 ≤ 1 := by have := HN2.out; omega
      have hwx : (0 < x0) ∨ (x0 ≤ 0 ∧ 0 < y0) ∨ (x0 ≤ 0 ∧ y0 ≤ 0 ∧ (z0 != min x0 y0) = false) := by
        have := HT1.out
        by_cases h1 : x0 ≤ 0
        · by_cases h2 : y0 ≤ 0
          · exact .inr (.inr ⟨h1, h2, by rw [this h1 h2]; exact bne_self_eq_false _⟩)
          · exact .inr (.inl ⟨h1, by omega⟩)
        · exact .inl (by omega)
      have hwp : (0 < p0) ∨ (p0 ≤ 0 ∧ 0 < q0) ∨ (p0 ≤ 0 ∧ q0 ≤ 0 ∧ (r0 != min p0 q0) = false) := by
        have := HT2.out
        by_cases h1 : p0 ≤ 0
        · by_cases h2 : q0 ≤ 0
          · exact .inr (.inr ⟨h1, h2, by rw [this h1 h2]; exact bne_self_eq_false _⟩)
          · exact .inr (.inl ⟨h1, by omega⟩)
        · exact .inl (by omega)
      obtain ⟨bx1, bx2⟩ := bx
      obtain ⟨by1, by2⟩ := by'
      obtain ⟨bp1, bp2⟩ := bp
      obtain ⟨bq1, bq2⟩ := bq
      go_upto_region 5 with fail
      go_cut [95] (fun s95 wx => s95 = .bool false ∧ Below y4.heap.size y4 wx)
      case first =>
        obtain ⟨⟨a0, a1, a2, a3, a4, a5⟩, ⟨b0, b1, b2, b3, b4, b5⟩, c0, c1, c2, c3, c4, c5⟩ := HK4.out
        go_wp2_with fail
        refine (HGF.out _ HY4.out).mono ?_
        rintro x y5 ⟨rfl, hb5⟩
        have HY5 := Lib.hid (HY4.out.trans (hb5.mono HY4.out.size))
        have HK6 := Lib.hid (HCE.out _ (HB4.out.next hb5))
        have HB5 := Lib.hid hb5
        clear a0 a1 a2 a3 a4 a5 b0 b1 b2 b3 b4 b5 c0 c1 c2 c3 c4 c5 hb5
        obtain ⟨⟨a0, a1, a2, a3, a4, a5⟩, ⟨b0, b1, b2, b3, b4, b5⟩, c0, c1, c2, c3, c4, c5⟩ := HK6.out
        rcases hwx with hx | ⟨hx, hy⟩ | ⟨hx, hy, hz⟩ <;> rcases hwp with hp | ⟨hp, hq⟩ | ⟨hp, hq, hr⟩
        all_goals
          go_wp2_with (go_at_call 36; refine (PGF.out _ HY5.out).mono ?_; rintro x y5 ⟨rfl, rfl⟩)
          go_meet
          exact ⟨rfl, HB5.out⟩
      case rest =>
        obtain ⟨rfl, hb5⟩ := hcut
        have HY6 := Lib.hid (HY4.out.trans (hb5.mono HY4.out.size))
        have HK6 := Lib.hid (HCE.out _ (HB4.out.next hb5))
        have KEEP7 : Hid (∀ W, Below wc.heap.size wc W → (W.cell? ⟨w.heap.size, 0, none⟩ = some (.slice P1 f.path.length p1) ∧ W.cell? ⟨w.heap.size, 1, none⟩ = some (.string (S f.id)) ∧ W.cell? ⟨w.heap.size, 2, none⟩ = some (.string (S f.title)) ∧ W.cell? ⟨w.heap.size, 3, none⟩ = some (.string (S f.link)) ∧ W.cell? ⟨w.heap.size, 4, none⟩ = some (.int .i64 f.upd) ∧ W.cell? ⟨w.heap.size, 5, none⟩ = some (.slice E1 f.ents.length e1)) ∧ (W.cell? ⟨w.heap.size + 1, 0, none⟩ = some (.slice P2 g.path.length p2) ∧ W.cell? ⟨w.heap.size + 1, 1, none⟩ = some (.string (S g.id)) ∧ W.cell? ⟨w.heap.size + 1, 2, none⟩ = some (.string (S g.title)) ∧ W.cell? ⟨w.heap.size + 1, 3, none⟩ = some (.string (S g.link)) ∧ W.cell? ⟨w.heap.size + 1, 4, none⟩ = some (.int .i64 g.upd) ∧ W.cell? ⟨w.heap.size + 1, 5, none⟩ = some (.slice E2 g.ents.length e2)) ∧ (W.cell? ⟨w.heap.size + 1 + 1, 0, none⟩ = some (.slice P3 h.path.length p3) ∧ W.cell? ⟨w.heap.size + 1 + 1, 1, none⟩ = some (.string (S h.id)) ∧ W.cell? ⟨w.heap.size + 1 + 1, 2, none⟩ = some (.string (S h.title)) ∧ W.cell? ⟨w.heap.size + 1 + 1, 3, none⟩ = some (.string (S h.link)) ∧ W.cell? ⟨w.heap.size + 1 + 1, 4, none⟩ = some (.int .i64 h.upd) ∧ W.cell? ⟨w.heap.size + 1 + 1, 5, none⟩ = some (.slice E3 h.ents.length e3))) := fun W hW => HCE.out _ ((HB4.out.next hb5).next hW)
        clear hb5 HB4 HK4 HY4
        obtain ⟨⟨a0, a1, a2, a3, a4, a5⟩, ⟨b0, b1, b2, b3, b4, b5⟩, c0, c1, c2, c3, c4, c5⟩ := HK6.out
        go_wp2_with fail
        go_cut [13, 14] (fun s13 s14 wx => ∃ a b, s13 = .pointer (some ⟨a, 0, none⟩) ∧ s14 = .pointer (some ⟨b, 0, none⟩) ∧ wx.heap[a]? = some (entBox ⟨f.id, [], [], [], f.upd⟩) ∧ wx.heap[b]? = some (entBox ⟨g.id, [], [], [], g.upd⟩) ∧ Below wc.heap.size wc wx)
        case first =>
          go_region_held3 (fun x => (x.cell? ⟨w.heap.size, 0, none⟩ = some (.slice P1 f.path.length p1) ∧ x.cell? ⟨w.heap.size, 1, none⟩ = some (.string (S f.id)) ∧ x.cell? ⟨w.heap.size, 2, none⟩ = some (.string (S f.title)) ∧ x.cell? ⟨w.heap.size, 3, none⟩ = some (.string (S f.link)) ∧ x.cell? ⟨w.heap.size, 4, none⟩ = some (.int .i64 f.upd) ∧ x.cell? ⟨w.heap.size, 5, none⟩ = some (.slice E1 f.ents.length e1)) ∧ (x.cell? ⟨w.heap.size + 1, 0, none⟩ = some (.slice P2 g.path.length p2) ∧ x.cell? ⟨w.heap.size + 1, 1, none⟩ = some (.string (S g.id)) ∧ x.cell? ⟨w.heap.size + 1, 2, none⟩ = some (.string (S g.title)) ∧ x.cell? ⟨w.heap.size + 1, 3, none⟩ = some (.string (S g.link)) ∧ x.cell? ⟨w.heap.size + 1, 4, none⟩ = some (.int .i64 g.upd) ∧ x.cell? ⟨w.heap.size + 1, 5, none⟩ = some (.slice E2 g.ents.length e2)) ∧ (x.cell? ⟨w.heap.size + 1 + 1, 0, none⟩ = some (.slice P3 h.path.length p3) ∧ x.cell? ⟨w.heap.size + 1 + 1, 1, none⟩ = some (.string (S h.id)) ∧ x.cell? ⟨w.heap.size + 1 + 1, 2, none⟩ = some (.string (S h.title)) ∧ x.cell? ⟨w.heap.size + 1 + 1, 3, none⟩ = some (.string (S h.link)) ∧ x.cell? ⟨w.heap.size + 1 + 1, 4, none⟩ = some (.int .i64 h.upd) ∧ x.cell? ⟨w.heap.size + 1 + 1, 5, none⟩ = some (.slice E3 h.ents.length e3)))
            (first
              | exact KEEP7.out _ (Below.refl _ _)
              | exact KEEP7.out _ (Below.refl _ _).drew
              | exact KEEP7.out _ ((Below.refl _ _).alloc (Nat.le_refl _) _)
              | exact KEEP7.out _ ((Below.refl _ _).drew.alloc (Nat.le_refl _) _)
              | exact KEEP7.out _ (((Below.refl _ _).alloc (Nat.le_refl _) _).alloc (by simp) _)
              | exact KEEP7.out _ (((Below.refl _ _).drew.alloc (Nat.le_refl _) _).alloc (by simp) _)
              | (trace_state; exact KEEPFAIL))
            (fail)
          · go_wp2_with fail
            go_meet
            exact ⟨wc.heap.size, wc.heap.size + 1, rfl, rfl, (Below.heap_alloc _ _ _ (by simp)).trans (heap_alloc_new wc (entBox ⟨f.id, [], [], [], f.upd⟩)), (by have := heap_alloc_new (wc.alloc (entBox ⟨f.id, [], [], [], f.upd⟩)) (entBox ⟨g.id, [], [], [], g.upd⟩); rw [show (wc.alloc (entBox ⟨f.id, [], [], [], f.upd⟩)).heap.size = wc.heap.size + 1 by simp] at this; exact this), (((Below.refl _ _).alloc (Nat.le_refl _) _).alloc (by simp) _).drew⟩
          · go_wp2_with fail
            go_meet
            exact ⟨wc.heap.size + 1, wc.heap.size, rfl, rfl, (by have := heap_alloc_new (wc.alloc (entBox ⟨g.id, [], [], [], g.upd⟩)) (entBox ⟨f.id, [], [], [], f.upd⟩); rw [show (wc.alloc (entBox ⟨g.id, [], [], [], g.upd⟩)).heap.size = wc.heap.size + 1 by simp] at this; exact this), (Below.heap_alloc _ _ _ (by simp)).trans (heap_alloc_new wc (entBox ⟨g.id, [], [], [], g.upd⟩)), (((Below.refl _ _).alloc (Nat.le_refl _) _).alloc (by simp) _).drew⟩
        case rest =>
          obtain ⟨a, b, rfl, rfl, ha, hb, h7⟩ := hcut
          obtain ⟨A, hA⟩ : ∃ A, A = (⟨f.id, [], [], [], f.upd⟩ : En) := ⟨_, rfl⟩
          obtain ⟨B, hB⟩ : ∃ B, B = (⟨g.id, [], [], [], g.upd⟩ : En) := ⟨_, rfl⟩
          have hiff := @cmpE_bare f g
          rw [← hA, ← hB] at hiff
          rw [← hA] at ha
          rw [← hB] at hb
          have KE : Hid (∀ W, Below wc.heap.size wc W → (W.cell? ⟨a, 0, none⟩ = some (.string (S A.id)) ∧ W.cell? ⟨a, 1, none⟩ = some (.string (S A.title)) ∧ W.cell? ⟨a, 2, none⟩ = some (.string (S A.link)) ∧ W.cell? ⟨a, 3, none⟩ = some (.string (S A.content)) ∧ W.cell? ⟨a, 4, none⟩ = some (.int .i64 A.upd)) ∧ W.cell? ⟨b, 0, none⟩ = some (.string (S B.id)) ∧ W.cell? ⟨b, 1, none⟩ = some (.string (S B.title)) ∧ W.cell? ⟨b, 2, none⟩ = some (.string (S B.link)) ∧ W.cell? ⟨b, 3, none⟩ = some (.string (S B.content)) ∧ W.cell? ⟨b, 4, none⟩ = some (.int .i64 B.upd)) := fun W hW => ⟨cells5 ((hW.block a (heap_lt ha)).trans ha), cells5 ((hW.block b (heap_lt hb)).trans hb)⟩
          have H8 := Lib.hid (HY6.out.trans (h7.mono HY6.out.size))
          have hc1 := fun W => cmpEntries_any A B W
          have hc2 := fun W => cmpEntries_any B A W
          rw [ordE.anti A B] at hc2
          have heq := fun W => run_eq_ent A B W
          have hne : cmpE A B = 0 → enEq A B = true := fun h => enEq_iff.2 (hiff.1 h)
          have hnn : cmpE A B ≠ 0 → enEq A B = false := fun h => enEq_no (fun e => h (hiff.2 e))
          have hrng := ordE.rng A B
          generalize cmpE A B = cc at *
          generalize enEq A B = qq at *
          clear ha hb h7 hA hB hiff
          clear hwx hwp bx1 bx2 by1 by2 bp1 bp2 bq1 bq2 hsz
          clear a0 a1 a2 a3 a4 a5 b0 b1 b2 b3 b4 b5 c0 c1 c2 c3 c4 c5
          go_wp2_with fail
          have hz : ∃ z, (cc == 0) = z ∧ qq = z ∧ -1 ≤ cc ∧ cc ≤ 1 := by
            refine ⟨_, rfl, ?_, by omega, by omega⟩
            by_cases h0 : cc = 0
            · rw [hne h0, h0]; rfl
            · rw [hnn h0, beq_eq_false_iff_ne.2 h0]
          clear hne hnn hrng
          have HC1 := Lib.hid hc1
          have HC2 := Lib.hid hc2
          clear hc1 hc2
          obtain ⟨z, t0, rfl, r1, r2⟩ := hz
          have hw2 : IntKind.i64.wrap cc = cc := IntWalk.i64_in cc ⟨by omega, by omega⟩
          refine wp_region_held_drew (S := fun x => (x.cell? ⟨a, 0, none⟩ = some (.string (S A.id)) ∧ x.cell? ⟨a, 1, none⟩ = some (.string (S A.title)) ∧ x.cell? ⟨a, 2, none⟩ = some (.string (S A.link)) ∧ x.cell? ⟨a, 3, none⟩ = some (.string (S A.content)) ∧ x.cell? ⟨a, 4, none⟩ = some (.int .i64 A.upd)) ∧ (x.cell? ⟨b, 0, none⟩ = some (.string (S B.id)) ∧ x.cell? ⟨b, 1, none⟩ = some (.string (S B.title)) ∧ x.cell? ⟨b, 2, none⟩ = some (.string (S B.link)) ∧ x.cell? ⟨b, 3, none⟩ = some (.string (S B.content)) ∧ x.cell? ⟨b, 4, none⟩ = some (.int .i64 B.upd))) (by kernel_rfl) ?_ (fun hHeld => ?_)
          · (try dsimp only); exact KE.out _ (Below.refl _ _).drew
          refine wpAnyH_ready (rs := [0]) (by kernel_rfl) (by simp) ?_
          refine AllReadyH.cons (o := (⟨some 106, _, _, _, _, _⟩ : Oper)) rfl (fun K hK => ?_) ?_
          rotate_left
          · exact AllReadyH.nil
          go_simp
          (go_at_call 27; (with_reducible refine (HAL.out _ H8.out.drew).mono ?_); rintro x W ⟨rfl, hb⟩; have R := Lib.hid ((Below.refl wc.heap.size wc).drew.trans hb); have hz : wc.heap.size ≤ W.heap.size := R.out.size; clear hb)
          refine hK.out _ _ ?_ (fun hHeld => ?_)
          · (try dsimp only); exact KE.out _ R.out
          clear hK K
          try simp only [Act.put, List.setIfInBounds_toArray, List.set_cons_zero, List.set_cons_succ]
          refine wpAnyH_take (i := 1) (oi := (⟨some 107, _, _, _, _, _⟩ : Oper)) (v := ?_) rfl (by kernel_rfl) (by kernel_rfl) (by kernel_rfl) (fun _ _ _ h => h) (Or.inl ⟨by rfl, ?_⟩) (by assumption) ?_
          rotate_left
          · intro wS hSw; (try dsimp only at hSw); go_simp <;> with_reducible rfl
          simp only [Act.put, List.setIfInBounds_toArray, List.set_cons_zero, List.set_cons_succ]
          refine wpAnyH_take (i := 2) (oi := (⟨some 108, _, _, _, _, _⟩ : Oper)) (v := ?_) rfl (by kernel_rfl) (by kernel_rfl) (by kernel_rfl) (fun _ _ _ h => h) (Or.inl ⟨by rfl, ?_⟩) (by assumption) ?_
          rotate_left
          · intro wS hSw; (try dsimp only at hSw); go_simp <;> with_reducible rfl
          simp only [Act.put, List.setIfInBounds_toArray, List.set_cons_zero, List.set_cons_succ]
          refine wpAnyH_take (i := 3) (oi := (⟨some 109, _, _, _, _, _⟩ : Oper)) (v := ?_) rfl (by kernel_rfl) (by kernel_rfl) (by kernel_rfl) (fun _ _ _ h => h) (Or.inl ⟨by rfl, ?_⟩) (by assumption) ?_
          rotate_left
          · intro wS hSw; (try dsimp only at hSw); go_simp <;> with_reducible rfl
          simp only [Act.put, List.setIfInBounds_toArray, List.set_cons_zero, List.set_cons_succ]
          refine wpAnyH_take (i := 5) (oi := (⟨some 111, _, _, _, _, _⟩ : Oper)) (v := ?_) rfl (by kernel_rfl) (by kernel_rfl) (by kernel_rfl) (fun _ _ _ h => h) (Or.inl ⟨by rfl, ?_⟩) (by assumption) ?_
          rotate_left
          · intro wS hSw; (try dsimp only at hSw); go_simp <;> with_reducible rfl
          simp only [Act.put, List.setIfInBounds_toArray, List.set_cons_zero, List.set_cons_succ]
          refine wpAnyH_take (i := 6) (oi := (⟨some 112, _, _, _, _, _⟩ : Oper)) (v := ?_) rfl (by kernel_rfl) (by kernel_rfl) (by kernel_rfl) (fun _ _ _ h => h) (Or.inl ⟨by rfl, ?_⟩) (by assumption) ?_
          rotate_left
          · intro wS hSw; (try dsimp only at hSw); go_simp <;> with_reducible rfl
          simp only [Act.put, List.setIfInBounds_toArray, List.set_cons_zero, List.set_cons_succ]
          refine wpAnyH_ready (rs := [4]) (by kernel_rfl) (by simp) ?_
          refine AllReadyH.cons (o := (⟨some 110, _, _, _, _, _⟩ : Oper)) rfl (fun K hK => ?_) ?_
          rotate_left
          · exact AllReadyH.nil
          go_simp
          (go_at_call 37; (with_reducible refine (HC1.out _).mono ?_); rintro x W ⟨rfl, hb⟩; have R := Lib.hid (R.out.trans (hb.mono hz)); have hz : wc.heap.size ≤ W.heap.size := R.out.size; clear hb)
          refine hK.out _ _ ?_ (fun hHeld => ?_)
          · (try dsimp only); exact KE.out _ R.out
          clear hK K
          try simp only [Act.put, List.setIfInBounds_toArray, List.set_cons_zero, List.set_cons_succ]
          refine wpAnyH_ready (rs := [7]) (by kernel_rfl) (by simp) ?_
          refine AllReadyH.cons (o := (⟨some 113, _, _, _, _, _⟩ : Oper)) rfl (fun K hK => ?_) ?_
          rotate_left
          · exact AllReadyH.nil
          go_simp
          (go_at_call 37; (with_reducible refine (HC2.out _).mono ?_); rintro x W ⟨rfl, hb⟩; have R := Lib.hid (R.out.trans (hb.mono hz)); have hz : wc.heap.size ≤ W.heap.size := R.out.size; clear hb)
          refine hK.out _ _ ?_ (fun hHeld => ?_)
          · (try dsimp only); exact KE.out _ R.out
          clear hK K
          try simp only [Act.put, List.setIfInBounds_toArray, List.set_cons_zero, List.set_cons_succ]
          refine wpAnyH_take (i := 8) (oi := (⟨some 114, _, _, _, _, _⟩ : Oper)) (v := ?_) rfl (by kernel_rfl) (by kernel_rfl) (by kernel_rfl) (fun _ _ _ h => h) (Or.inl ⟨by rfl, ?_⟩) (by assumption) ?_
          rotate_left
          · intro wS hSw; (try dsimp only at hSw); go_simp <;> with_reducible rfl
          simp only [Act.put, List.setIfInBounds_toArray, List.set_cons_zero, List.set_cons_succ]
          refine wpAnyH_take (i := 9) (oi := (⟨some 115, _, _, _, _, _⟩ : Oper)) (v := ?_) rfl (by kernel_rfl) (by kernel_rfl) (by kernel_rfl) (fun _ _ _ h => h) (Or.inl ⟨by rfl, ?_⟩) (by assumption) ?_
          rotate_left
          · intro wS hSw; (try dsimp only at hSw); go_simp <;> with_reducible rfl
          simp only [Act.put, List.setIfInBounds_toArray, List.set_cons_zero, List.set_cons_succ]
          refine wpAnyH_take (i := 10) (oi := (⟨some 116, _, _, _, _, _⟩ : Oper)) (v := ?_) rfl (by kernel_rfl) (by kernel_rfl) (by kernel_rfl) (fun _ _ _ h => h) (Or.inl ⟨by rfl, ?_⟩) (by assumption) ?_
          rotate_left
          · intro wS hSw; (try dsimp only at hSw); go_simp <;> with_reducible rfl
          simp only [Act.put, List.setIfInBounds_toArray, List.set_cons_zero, List.set_cons_succ]
          refine wpAnyH_take (i := 11) (oi := (⟨some 117, _, _, _, _, _⟩ : Oper)) (v := ?_) rfl (by kernel_rfl) (by kernel_rfl) (by kernel_rfl) (fun _ _ _ h => h) (Or.inl ⟨by rfl, ?_⟩) (by assumption) ?_
          rotate_left
          · intro wS hSw; (try dsimp only at hSw); go_simp <;> with_reducible rfl
          simp only [Act.put, List.setIfInBounds_toArray, List.set_cons_zero, List.set_cons_succ]
          refine wpAnyH_take (i := 12) (oi := (⟨some 118, _, _, _, _, _⟩ : Oper)) (v := ?_) rfl (by kernel_rfl) (by kernel_rfl) (by kernel_rfl) (fun _ _ _ h => h) (Or.inl ⟨by rfl, ?_⟩) (by assumption) ?_
          rotate_left
          · intro wS hSw; (try dsimp only at hSw); go_simp <;> with_reducible rfl
          simp only [Act.put, List.setIfInBounds_toArray, List.set_cons_zero, List.set_cons_succ]
          refine wpAnyH_take (i := 13) (oi := (⟨some 119, _, _, _, _, _⟩ : Oper)) (v := ?_) rfl (by kernel_rfl) (by kernel_rfl) (by kernel_rfl) (fun _ _ _ h => h) (Or.inl ⟨by rfl, ?_⟩) (by assumption) ?_
          rotate_left
          · intro wS hSw; (try dsimp only at hSw); go_simp <;> with_reducible rfl
          simp only [Act.put, List.setIfInBounds_toArray, List.set_cons_zero, List.set_cons_succ]
          refine wpAnyH_take (i := 16) (oi := (⟨some 122, _, _, _, _, _⟩ : Oper)) (v := ?_) rfl (by kernel_rfl) (by kernel_rfl) (by kernel_rfl) (fun _ _ _ h => h) (Or.inl ⟨by rfl, ?_⟩) (by assumption) ?_
          rotate_left
          · intro wS hSw; (try dsimp only at hSw); go_simp <;> with_reducible rfl
          simp only [Act.put, List.setIfInBounds_toArray, List.set_cons_zero, List.set_cons_succ]
          refine wpAnyH_take (i := 17) (oi := (⟨some 123, _, _, _, _, _⟩ : Oper)) (v := ?_) rfl (by kernel_rfl) (by kernel_rfl) (by kernel_rfl) (fun _ _ _ h => h) (Or.inl ⟨by rfl, ?_⟩) (by assumption) ?_
          rotate_left
          · intro wS hSw; (try dsimp only at hSw); go_simp <;> with_reducible rfl
          simp only [Act.put, List.setIfInBounds_toArray, List.set_cons_zero, List.set_cons_succ]
          refine wpAnyH_take (i := 18) (oi := (⟨some 124, _, _, _, _, _⟩ : Oper)) (v := ?_) rfl (by kernel_rfl) (by kernel_rfl) (by kernel_rfl) (fun _ _ _ h => h) (Or.inl ⟨by rfl, ?_⟩) (by assumption) ?_
          rotate_left
          · intro wS hSw; (try dsimp only at hSw); go_simp <;> with_reducible rfl
          simp only [Act.put, List.setIfInBounds_toArray, List.set_cons_zero, List.set_cons_succ]
          refine wpAnyH_ready (rs := [14]) (by kernel_rfl) (by simp) ?_
          refine AllReadyH.cons (o := (⟨some 120, _, _, _, _, _⟩ : Oper)) rfl (fun K hK => ?_) ?_
          rotate_left
          · exact AllReadyH.nil
          go_simp
          (go_at_call 37; (with_reducible refine (HC1.out _).mono ?_); rintro x W ⟨rfl, hb⟩; have R := Lib.hid (R.out.trans (hb.mono hz)); have hz : wc.heap.size ≤ W.heap.size := R.out.size; clear hb)
          refine hK.out _ _ ?_ (fun hHeld => ?_)
          · (try dsimp only); exact KE.out _ R.out
          clear hK K
          try simp only [Act.put, List.setIfInBounds_toArray, List.set_cons_zero, List.set_cons_succ]
          refine wpAnyH_take (i := 15) (oi := (⟨some 121, _, _, _, _, _⟩ : Oper)) (v := ?_) rfl (by kernel_rfl) (by kernel_rfl) (by kernel_rfl) (fun _ _ _ h => h) (Or.inl ⟨by rfl, ?_⟩) (by assumption) ?_
          rotate_left
          · intro wS hSw; (try dsimp only at hSw); go_simp <;> with_reducible rfl
          simp only [Act.put, List.setIfInBounds_toArray, List.set_cons_zero, List.set_cons_succ]
          refine wpAnyH_take (i := 19) (oi := (⟨some 125, _, _, _, _, _⟩ : Oper)) (v := ?_) rfl (by kernel_rfl) (by kernel_rfl) (by kernel_rfl) (fun _ _ _ h => h) (Or.inl ⟨by rfl, ?_⟩) (by assumption) ?_
          rotate_left
          · intro wS hSw; (try dsimp only at hSw); go_simp <;> with_reducible rfl
          simp only [Act.put, List.setIfInBounds_toArray, List.set_cons_zero, List.set_cons_succ]
          refine wpAnyH_take (i := 20) (oi := (⟨some 126, _, _, _, _, _⟩ : Oper)) (v := ?_) rfl (by kernel_rfl) (by kernel_rfl) (by kernel_rfl) (fun _ _ _ h => h) (Or.inl ⟨by rfl, ?_⟩) (by assumption) ?_
          rotate_left
          · intro wS hSw; (try dsimp only at hSw); go_simp <;> with_reducible rfl
          simp only [Act.put, List.setIfInBounds_toArray, List.set_cons_zero, List.set_cons_succ]
          refine wpAnyH_take (i := 21) (oi := (⟨some 6, _, _, _, _, _⟩ : Oper)) (v := ?_) rfl (by kernel_rfl) (by kernel_rfl) (by kernel_rfl) (fun _ _ _ h => h) (Or.inl ⟨by rfl, ?_⟩) (by assumption) ?_
          rotate_left
          · intro wS hSw; (try dsimp only at hSw); go_simp <;> with_reducible rfl
          simp only [Act.put, List.setIfInBounds_toArray, List.set_cons_zero, List.set_cons_succ]
          refine wpAnyH_done (by kernel_rfl) ?_ _
          go_wp2_with fail
          go_ret
          exact ⟨rfl, H8.out.trans (R.out.mono H8.out.size)⟩
end Go.Proofs.YtadkgjbidhfefaaDoor
