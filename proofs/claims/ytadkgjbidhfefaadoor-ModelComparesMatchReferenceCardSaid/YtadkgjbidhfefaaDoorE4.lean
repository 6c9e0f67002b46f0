/-
  Several texts in one file, in build order:
  - Walks of chapter 13: the canonical bytes of entries (the reference).
  - Chapter 13, plain: what the canonical bytes of an entry and of a feed are; they identify it.
  - Walks of chapter 13: EntryKey and FeedKey (the reference).
  - Walks of chapter 13: the later one of two entries (both).
  - Walks of chapter 13: LaterEntry (the program).
-/
import Derived.Test.YtadkgjbidhfefaaDoorKey13b
import Derived.Test.YtadkgjbidhfefaaDoorRefQ10
import Derived.Test.YtadkgjbidhfefaaDoorDecim
import Derived.Test.YtadkgjbidhfefaaDoorJwr2
import Derived.Test.YtadkgjbidhfefaaDoorInj12
import Derived.Test.YtadkgjbidhfefaaDoorCmp13b
set_option linter.unusedVariables false
namespace Go.Proofs.YtadkgjbidhfefaaDoor
open Go.RowKit

/-- What quote returns: empty if one is no UTF-8. -/
def quoL (l : List Bytes) : Bytes := if l.all utf8J = true then jtxL true (l.map jstr) else []
theorem jtx_jstr (s : Bytes) : jtx (jstr s) = jq s := by unfold jstr; rw [jtx]; simp
theorem jtxL_jstr {l : List Bytes} {i : Nat} (f : Bool) (h : i < l.length) : jtxL f ((l.drop i).map jstr) = (if f = true then [] else [44]) ++ (jq l[i] ++ jtxL false ((l.drop (i + 1)).map jstr)) := by
  rw [List.drop_eq_getElem_cons h, List.map_cons, jtxL_cons, jtx_jstr]
theorem all_drop {l : List Bytes} {i : Nat} (h : i < l.length) : (l.drop i).all utf8J = (utf8J l[i] && (l.drop (i + 1)).all utf8J) := by
  rw [List.drop_eq_getElem_cons h, List.all_cons]
theorem jtxL_jstr_len : ∀ (f : Bool) (l : List Bytes), (jtxL f (l.map jstr)).length ≤ 6 * (l.map List.length).sum + 3 * l.length
  | f, [] => by rw [List.map_nil, jtxL_nil]; simp
  | f, a :: l => by
    rw [List.map_cons, jtxL_cons, jtx_jstr]
    have h1 := jq_len a
    have h2 := jtxL_jstr_len false l
    simp only [List.length_append, List.map_cons, List.sum_cons, List.length_cons]
    split <;> simp only [List.length_nil, List.length_cons] <;> omega
theorem mem_sum {l : List Bytes} {i : Nat} (h : i < l.length) : l[i].length ≤ (l.map List.length).sum := by
  induction l generalizing i with
  | nil => simp at h
  | cons a l ih =>
    simp only [List.map_cons, List.sum_cons]
    cases i with
    | zero => simp
    | succ i => have := ih (i := i) (by simpa using h); simp only [List.getElem_cons_succ]; omega

set_option maxHeartbeats 2000000 in
set_option maxRecDepth 100000 in
theorem refQuoteL_any (l : List Bytes) (u : Value) (w : World) (h : ElsP strE w (· < w.heap.size) u l) (hl : l.length ≤ 1000000) (hs : (l.map List.length).sum ≤ 1000000) :
    Calls Tryd.prog 77 #[u] w fun e w' => e = .returned (.string (S (quoL l))) ∧ Below w.heap.size w w' := by
  obtain ⟨A0, c0, rfl, _⟩ := h.slice
  have HL := Lib.hid h
  have htl := jtxL_jstr_len true l
  obtain ⟨T, hT⟩ : ∃ T, quoL l = T := ⟨_, rfl⟩
  rw [hT]
  have hst : l.all utf8J = true → ([] : Bytes) ++ jtxL (decide (0 = 0)) ((l.drop 0).map jstr) = T := fun h => by rw [← hT]; unfold quoL; rw [if_pos h]; rfl
  have hno : l.all utf8J = false → ([] : Bytes) = T := fun h => by rw [← hT]; unfold quoL; rw [if_neg (by rw [h]; decide)]
  have hTl : T.length ≤ 9000000 := by
    rw [← hT]; unfold quoL; split
    · omega
    · simp
  have HS := Lib.hid hs
  have HR : Hid (∀ (i : Nat) (hi : i < l.length), l[i].length ≤ 1000000) := fun i hi => by have := mem_sum hi; omega
  obtain ⟨q, hq⟩ : ∃ q, l.all utf8J = q := ⟨_, rfl⟩
  have HST := Lib.hid (show (q = true → ([] : Bytes) ++ jtxL (decide (0 = 0)) ((l.drop 0).map jstr) = T) ∧ (q = false → ([] : Bytes) = T) ∧ (l.drop 0).all utf8J = q from by rw [← hq]; exact ⟨hst, hno, rfl⟩)
  clear hT hst hno htl h hs hq
  go_enter Tryd.func77, Tryd.ntmps77
  go_wp2_with fail
  go_loopw [3, 4] (fun s3 i4 wr => ∃ (i : Nat) (Y : Bytes), i ≤ l.length ∧ i4 = .int .i64 i ∧ s3 = .string (S Y) ∧ Y.length ≤ 6000003 * i ∧ (q = true → Y ++ jtxL (decide (i = 0)) ((l.drop i).map jstr) = T) ∧ (q = false → ([] : Bytes) = T) ∧ (l.drop i).all utf8J = q ∧ Below w.heap.size w wr) (fun _ i4 _ => l.length - (intOf i4).toNat)
  case atStart => exact ⟨0, [], Nat.zero_le _, rfl, rfl, by simp, HST.out.1, HST.out.2.1, HST.out.2.2, Below.refl _ _⟩
  case round =>
    obtain ⟨i, Y, hi, rfl, rfl, hYl, h1, h2, h3, hb⟩ := hrel
    have HB := Lib.hid hb
    have hsz := hb.size
    clear hb HST
    by_cases hlt : i < l.length
    · have hlt' : (i : Int) < l.length := by omega
      obtain ⟨b, off, rfl, hpb, hc1⟩ := strs_cell (HL.out.keep strE_ok HB.out.block (fun _ h => h)) hlt
      have hxl := HR.out i hlt
      rw [jtxL_jstr _ hlt] at h1
      rw [all_drop hlt] at h3
      generalize l[i] = x at *
      have hq := fun W => refQuote_any x W (by omega)
      have hjl := jq_len x
      unfold quoteB quoteE at hq
      cases hu : utf8J x with
      | false =>
        rw [hu] at hq h3
        simp only [Bool.false_and, Bool.false_eq_true, if_false] at hq h3
        have hT := h2 h3.symm
        subst hT
        have HQ := Lib.hid hq
        clear hq h1 h2 h3 hu
        go_wp2_with (go_at_call 89; refine (HQ.out _).mono ?_; rintro e w2 ⟨rfl, hb2⟩)
        go_ret
        exact ⟨rfl, HB.out.trans (hb2.mono hsz)⟩
      | true =>
        rw [hu] at hq h3
        simp only [Bool.true_and, if_true] at hq h3
        have HQ := Lib.hid hq
        have H3 := Lib.hid h3
        have H2 := Lib.hid h2
        clear hq h2 h3 hu
        generalize jq x = J at *
        by_cases hi0 : i = 0
        · have q0 : ¬ ((0 : Int) < i) := by omega
          rw [decide_eq_true hi0] at h1
          simp only [if_true, List.nil_append] at h1
          have g1 : ∀ W : World, (Op.stringOp .add (S Y) (S J)).run Tryd.prog W = .ok (.string (S (Y ++ J))) W := run_catJ Y J _ rfl (by omega)
          have hn : q = true → (Y ++ J) ++ jtxL (decide (i + 1 = 0)) ((l.drop (i + 1)).map jstr) = T := fun h => by rw [← h1 h, decide_eq_false (by omega : ¬ i + 1 = 0)]; simp
          have HN := Lib.hid hn
          clear h1 hn hi0
          go_wp2_with (go_at_call 89; refine (HQ.out _).mono ?_; rintro e w2 ⟨rfl, hb2⟩)
          go_roundw
          case rel => exact ⟨i + 1, Y ++ J, by omega, by go_num, rfl, by simp only [List.length_append]; omega, HN.out, H2.out, H3.out, HB.out.trans (hb2.mono hsz)⟩
          case measure => simp [intOf]; omega
        · have q0 : (0 : Int) < i := by omega
          rw [decide_eq_false hi0] at h1
          simp only [Bool.false_eq_true, if_false] at h1
          obtain ⟨Z, hZ⟩ : ∃ Z, Y ++ [44] = Z := ⟨_, rfl⟩
          have hZl : Z.length = Y.length + 1 := by rw [← hZ]; simp
          have g0 : ∀ W : World, (Op.stringOp .add (S Y) ⟨#[44]⟩).run Tryd.prog W = .ok (.string (S Z)) W := run_catJ Y [44] _ hZ.symm (by simp only [List.length_cons, List.length_nil]; omega)
          have g1 : ∀ W : World, (Op.stringOp .add (S Z) (S J)).run Tryd.prog W = .ok (.string (S (Z ++ J))) W := run_catJ Z J _ rfl (by omega)
          have hn : q = true → (Z ++ J) ++ jtxL (decide (i + 1 = 0)) ((l.drop (i + 1)).map jstr) = T := fun h => by rw [← h1 h, ← hZ, decide_eq_false (by omega : ¬ i + 1 = 0)]; simp
          have HN := Lib.hid hn
          have HZL := Lib.hid hZl
          clear h1 hn hZ hi0 hZl
          go_wp2_with (go_at_call 89; refine (HQ.out _).mono ?_; rintro e w2 ⟨rfl, hb2⟩)
          go_roundw
          case rel => exact ⟨i + 1, Z ++ J, by omega, by go_num, rfl, by have := HZL.out; simp only [List.length_append]; omega, HN.out, H2.out, H3.out, HB.out.trans (hb2.mono hsz)⟩
          case measure => simp [intOf]; omega
    · obtain rfl : i = l.length := by omega
      rw [List.drop_length] at h1 h3
      have hT := h1 h3.symm
      rw [List.map_nil, jtxL_nil, List.append_nil] at hT
      subst hT
      clear h1 h2 h3
      go_wp2_with fail
      go_ret
      exact ⟨rfl, HB.out⟩
end Go.Proofs.YtadkgjbidhfefaaDoor
set_option linter.unusedVariables false
namespace Go.Proofs.YtadkgjbidhfefaaDoor

theorem jrv_jstr (s : Bytes) : jrv (jstr s) = utf8J s := by unfold jstr; rw [jrv, jrvL, jrvM]; simp [jhOk, JV.kind, JV.b, JV.n, JV.s, JV.items, JV.mems]
theorem jrv_jint (n : Int) : jrv (jint n) = true := by
  unfold jint; rw [jrv, jrvL, jrvM]
  have : utf8J [] = true := by unfold utf8J; rfl
  simp [jhOk, JV.kind, JV.b, JV.n, JV.s, JV.items, JV.mems, this]
theorem jrv_jarr (l : List JV) : jrv (jarr l) = jrvL l := by
  unfold jarr; rw [jrv, jrvM]
  have : utf8J [] = true := by unfold utf8J; rfl
  simp [jhOk, JV.kind, JV.b, JV.n, JV.s, JV.items, JV.mems, this]
theorem jrvL_app : ∀ l r : List JV, jrvL (l ++ r) = (jrvL l && jrvL r)
  | [], r => by rw [List.nil_append, jrvL, Bool.true_and]
  | a :: l, r => by rw [List.cons_append, jrvL, jrvL, jrvL_app l r, Bool.and_assoc]
theorem jrvL_jstr : ∀ l : List Bytes, jrvL (l.map jstr) = l.all utf8J
  | [] => by rw [List.map_nil, jrvL]; rfl
  | a :: l => by rw [List.map_cons, jrvL, jrv_jstr, jrvL_jstr l, List.all_cons]
theorem jdep_jstr (s : Bytes) : jdep (jstr s) = 1 := by unfold jstr; rw [jdep]; simp
theorem jdep_jint (n : Int) : jdep (jint n) = 1 := by unfold jint; rw [jdep]; simp
theorem jdep_jarr (l : List JV) : jdep (jarr l) = jdepL l + 1 := by unfold jarr; rw [jdep]; simp
theorem jdepL_app : ∀ l r : List JV, jdepL (l ++ r) = max (jdepL l) (jdepL r)
  | [], r => by rw [List.nil_append, jdepL]; omega
  | a :: l, r => by rw [List.cons_append, jdepL, jdepL, jdepL_app l r]; omega
theorem jdepL_jstr : ∀ l : List Bytes, jdepL (l.map jstr) ≤ 1
  | [] => by rw [List.map_nil, jdepL]; omega
  | a :: l => by rw [List.map_cons, jdepL, jdep_jstr]; have := jdepL_jstr l; omega
theorem jtxL_app : ∀ (f : Bool) (l r : List JV), jtxL f (l ++ r) = jtxL f l ++ jtxL (f && l.isEmpty) r
  | f, [], r => by rw [List.nil_append, jtxL_nil]; simp
  | f, a :: l, r => by
    rw [List.cons_append, jtxL_cons, jtxL_cons, jtxL_app false l r]
    simp
theorem jtx_jint (n : Int) : jtx (jint n) = Lib.itoa n := by unfold jint; rw [jtx]; simp
theorem jtx_jarr (l : List JV) : jtx (jarr l) = 91 :: (jtxL true l ++ [93]) := by unfold jarr; rw [jtx]; simp
theorem quoL_ne {l : List Bytes} (hl : l ≠ []) (h : l.all utf8J = true) : quoL l ≠ [] := by
  unfold quoL
  rw [if_pos h]
  cases l with
  | nil => exact absurd rfl hl
  | cons a l => rw [List.map_cons, jtxL_cons, jtx_jstr]; unfold jq; simp
theorem quoL_no {l : List Bytes} (h : l.all utf8J = false) : quoL l = [] := by unfold quoL; rw [if_neg (by rw [h]; decide)]
/-- The strings of an entry. -/
def strsE (e : En) : List Bytes := [e.id, e.title, e.link, e.content]
theorem jvd_ent (e : En) : jvd (entVal e) 1 = (strsE e).all utf8J := by
  unfold entVal
  rw [jvd_eq, jrv_jarr, jrvL_app, jrvL_jstr, jrvL, jrvL, jrv_jint, jdep_jarr, jdepL_app, jdepL, jdepL, jdep_jint]
  have := jdepL_jstr [e.id, e.title, e.link, e.content]
  rw [decide_eq_true (by omega)]
  simp [strsE]
theorem key_ent (e : En) : keyOf (entVal e) = if quoL (strsE e) = [] then [] else [91] ++ quoL (strsE e) ++ [44] ++ Lib.itoa e.upd ++ [93] := by
  unfold keyOf outJ
  rw [jvd_ent]
  cases h : (strsE e).all utf8J with
  | false => rw [quoL_no h]; simp
  | true =>
    rw [if_pos rfl, if_neg (quoL_ne (by simp [strsE]) h)]
    unfold quoL
    rw [if_pos h]
    unfold entVal
    rw [jtx_jarr, jtxL_app, jtxL_cons, jtx_jint, jtxL_nil]
    simp [strsE]
def strsF (f : Fe) : List Bytes := [f.id, f.title, f.link]
theorem jvd_fee (f : Fe) : jvd (feeVal f) 1 = (f.path.all utf8J && (strsF f).all utf8J) := by
  unfold feeVal
  rw [List.cons_append, jvd_eq, jrv_jarr, jrvL, jrv_jarr, jrvL_jstr, jrvL_app, jrvL_jstr, jrvL, jrvL, jrv_jint, jdep_jarr, jdepL, jdep_jarr, jdepL_app, jdepL, jdepL, jdep_jint]
  have h1 := jdepL_jstr [f.id, f.title, f.link]
  have h2 := jdepL_jstr f.path
  rw [decide_eq_true (by omega)]
  simp [strsF]
theorem key_fee (f : Fe) : keyOf (feeVal f) = if quoL (strsF f) = [] ∨ (quoL f.path = [] ∧ 0 < f.path.length) then [] else [91, 91] ++ quoL f.path ++ [93, 44] ++ quoL (strsF f) ++ [44] ++ Lib.itoa f.upd ++ [93] := by
  unfold keyOf outJ
  rw [jvd_fee]
  cases h : (strsF f).all utf8J with
  | false => rw [quoL_no h]; simp
  | true =>
    cases hp : f.path.all utf8J with
    | false =>
      rw [if_neg (by simp), if_pos]
      refine .inr ⟨quoL_no hp, ?_⟩
      cases hn : f.path with
      | nil => rw [hn] at hp; simp at hp
      | cons a l => simp
    | true =>
      rw [if_pos (show (true && true) = true from rfl), if_neg]
      · have e1 : quoL f.path = jtxL true (f.path.map jstr) := by unfold quoL; rw [if_pos hp]
        have e2 : quoL (strsF f) = jtxL true ((strsF f).map jstr) := by unfold quoL; rw [if_pos h]
        rw [e1, e2]
        unfold feeVal
        rw [List.cons_append, jtx_jarr, jtxL_cons, jtx_jarr, jtxL_app, jtxL_cons, jtx_jint, jtxL_nil]
        simp only [strsF, List.map_cons, List.map_nil, jtxL_cons, jtxL_nil]
        simp
      · rintro (h1 | ⟨h1, h2⟩)
        · exact quoL_ne (by simp [strsF]) h h1
        · exact quoL_ne (by intro e; rw [e] at h2; simp at h2) hp h1
/-- Valid strings, the same bytes: the same entry. -/
theorem key_inj {a b : En} (ha : (strsE a).all utf8J = true) (hb : (strsE b).all utf8J = true) (h : keyOf (entVal a) = keyOf (entVal b)) : a = b := by
  unfold keyOf outJ at h
  rw [jvd_ent, jvd_ent, if_pos ha, if_pos hb] at h
  have h1 : jrv (entVal a) = true := by have := jvd_ent a; rw [ha, jvd_eq, Bool.and_eq_true] at this; exact this.1
  have h2 : jrv (entVal b) = true := by have := jvd_ent b; rw [hb, jvd_eq, Bool.and_eq_true] at this; exact this.1
  have h3 := jtx_inj h1 h2
  rw [h] at h3
  simp only [beq_self_eq_true] at h3
  have h4 := h3.symm
  unfold entVal jarr jstr jint at h4
  simp [jeq, jeqL, jeqM, jhEq, JV.kind, JV.b, JV.n, JV.s, JV.items, JV.mems, JV.pos] at h4
  cases a
  cases b
  simp_all
theorem key_empty {e : En} : keyOf (entVal e) = [] ↔ (strsE e).all utf8J = false := by
  rw [key_ent]
  cases h : (strsE e).all utf8J with
  | false => rw [quoL_no h]; simp
  | true => rw [if_neg (quoL_ne (by simp [strsE]) h)]; simp
end Go.Proofs.YtadkgjbidhfefaaDoor
set_option linter.unusedVariables false
namespace Go.Proofs.YtadkgjbidhfefaaDoor
open Go.RowKit

theorem els_four {W : World} {b : Nat} {s0 s1 s2 s3 : Bytes} (hb : W.heap[b]? = some (.cells #[.string (S s0), .string (S s1), .string (S s2), .string (S s3)] 9)) : ElsP strE W (· < W.heap.size) (.slice (some ⟨b, 0, none⟩) 4 4) [s0, s1, s2, s3] :=
  ⟨_, 4, rfl, Nat.le_refl _, .inr ⟨b, 0, rfl, heap_lt hb, fun i a hi => ⟨_, rfl, fun j v hj => by
    match j, hj with
    | 0, hj =>
      simp at hj; subst hj
      rw [Lib.cell_of_heap hb]
      match i, hi with
      | 0, hi => simp at hi; subst hi; rfl
      | 1, hi => simp at hi; subst hi; rfl
      | 2, hi => simp at hi; subst hi; rfl
      | 3, hi => simp at hi; subst hi; rfl
      | i + 4, hi => simp at hi
    | j + 1, hj => simp at hj⟩⟩⟩
theorem els_three {W : World} {b : Nat} {s0 s1 s2 : Bytes} (hb : W.heap[b]? = some (.cells #[.string (S s0), .string (S s1), .string (S s2)] 9)) : ElsP strE W (· < W.heap.size) (.slice (some ⟨b, 0, none⟩) 3 3) [s0, s1, s2] :=
  ⟨_, 3, rfl, Nat.le_refl _, .inr ⟨b, 0, rfl, heap_lt hb, fun i a hi => ⟨_, rfl, fun j v hj => by
    match j, hj with
    | 0, hj =>
      simp at hj; subst hj
      rw [Lib.cell_of_heap hb]
      match i, hi with
      | 0, hi => simp at hi; subst hi; rfl
      | 1, hi => simp at hi; subst hi; rfl
      | 2, hi => simp at hi; subst hi; rfl
      | i + 3, hi => simp at hi
    | j + 1, hj => simp at hj⟩⟩⟩

set_option maxHeartbeats 4000000 in
set_option maxRecDepth 100000 in
theorem refEntryKey_any (e : En) (w : World) (hf : EFit e) (hs : e.id.length + e.title.length + e.link.length + e.content.length ≤ 100000) :
    Calls Tryd.prog 42 #[entV e] w fun x w' => x = .returned (.string (S (keyOf (entVal e)))) ∧ Below w.heap.size w w' := by
  rw [key_ent]
  have hq := fun (W : World) (b : Nat) (hb : W.heap[b]? = some (.cells #[.string (S e.id), .string (S e.title), .string (S e.link), .string (S e.content)] 9)) => refQuoteL_any (strsE e) _ W (els_four hb) (by simp [strsE]) (by simp [strsE]; omega)
  have hd := fun W => decimal_any e.upd hf.1 hf.2 W
  have hil := itoa_len e.upd hf.1 hf.2
  have hql : (quoL (strsE e)).length ≤ 900000 := by
    have := jtxL_jstr_len true (strsE e)
    unfold quoL
    split
    · simp only [strsE, List.map_cons, List.map_nil, List.sum_cons, List.sum_nil, List.length_cons, List.length_nil] at this ⊢; omega
    · simp
  have hnew : ((w.alloc (entBox e)).alloc (.cells #[.string (S e.id), .string (S e.title), .string (S e.link), .string (S e.content)] 9)).heap[w.heap.size + 1]? = some (.cells #[.string (S e.id), .string (S e.title), .string (S e.link), .string (S e.content)] 9) := by
    have := heap_alloc_new (w.alloc (entBox e)) (.cells #[.string (S e.id), .string (S e.title), .string (S e.link), .string (S e.content)] 9)
    simpa using this
  have hx : ∀ W, Below (w.heap.size + 1) (w.alloc (entBox e)) W → W.cell? ⟨w.heap.size, 0, none⟩ = some (.string (S e.id)) ∧ W.cell? ⟨w.heap.size, 1, none⟩ = some (.string (S e.title)) ∧ W.cell? ⟨w.heap.size, 2, none⟩ = some (.string (S e.link)) ∧ W.cell? ⟨w.heap.size, 3, none⟩ = some (.string (S e.content)) ∧ W.cell? ⟨w.heap.size, 4, none⟩ = some (.int .i64 e.upd) := fun W hW =>
    cells5 ((hW.block w.heap.size (by omega)).trans (heap_alloc_new w (entBox e)))
  have KEEP := Lib.hid hx
  have HNEW := Lib.hid hnew
  have HA0 := Lib.hid (show Below w.heap.size w (w.alloc (entBox e)) from (Below.refl _ _).alloc (Nat.le_refl _) _)
  have HD := Lib.hid hd
  generalize quoL (strsE e) = Q at *
  generalize Lib.itoa e.upd = N at *
  have HQ := Lib.hid hq
  clear hx hnew hd hq hf
  by_cases hQ : Q = []
  · subst hQ
    rw [if_pos rfl]
    go_enter Tryd.func42, Tryd.ntmps42
    go_wp2_with (go_at_call 77; refine (HQ.out _ _ HNEW.out).mono ?_; rintro x w1 ⟨rfl, hb1⟩)
    go_ret
    exact ⟨rfl, (HA0.out.alloc (by simp) _).trans (hb1.mono (by simp; omega))⟩
  · rw [if_neg hQ]
    have t : Q.isEmpty = false := by cases Q with | nil => exact absurd rfl hQ | cons _ _ => rfl
    have t2 : (Q == []) = false := by rw [beq_eq_false_iff_ne]; exact hQ
    obtain ⟨L1, e1⟩ : ∃ L1 : Bytes, L1 = [91] ++ Q := ⟨_, rfl⟩
    obtain ⟨L2, e2⟩ : ∃ L2 : Bytes, L2 = L1 ++ [44] := ⟨_, rfl⟩
    obtain ⟨L3, e3⟩ : ∃ L3 : Bytes, L3 = L2 ++ N := ⟨_, rfl⟩
    obtain ⟨L4, e4⟩ : ∃ L4 : Bytes, L4 = L3 ++ [93] := ⟨_, rfl⟩
    have g1 : ∀ W : World, (Op.stringOp .add ⟨#[91]⟩ (S Q)).run Tryd.prog W = .ok (.string (S L1)) W := run_catJ [91] Q L1 e1 (by simp only [List.length_cons, List.length_nil]; omega)
    have g2 : ∀ W : World, (Op.stringOp .add (S L1) ⟨#[44]⟩).run Tryd.prog W = .ok (.string (S L2)) W := run_catJ L1 [44] L2 e2 (by rw [e1]; simp only [List.length_append, List.length_cons, List.length_nil]; omega)
    have g3 : ∀ W : World, (Op.stringOp .add (S L2) (S N)).run Tryd.prog W = .ok (.string (S L3)) W := run_catJ L2 N L3 e3 (by rw [e2, e1]; simp only [List.length_append, List.length_cons, List.length_nil]; omega)
    have g4 : ∀ W : World, (Op.stringOp .add (S L3) ⟨#[93]⟩).run Tryd.prog W = .ok (.string (S L4)) W := run_catJ L3 [93] L4 e4 (by rw [e3, e2, e1]; simp only [List.length_append, List.length_cons, List.length_nil]; omega)
    have he : L4 = [91] ++ Q ++ [44] ++ N ++ [93] := by rw [e4, e3, e2, e1]
    rw [← he]
    clear e1 e2 e3 e4 he hQ
    go_enter Tryd.func42, Tryd.ntmps42
    go_wp2_with (first
      | (go_at_call 77; refine (HQ.out _ _ HNEW.out).mono ?_; rintro x w1 ⟨rfl, hb1⟩; have r1 := ((Below.refl (w.heap.size + 1) (w.alloc (entBox e))).alloc (by simp) (.cells #[.string (S e.id), .string (S e.title), .string (S e.link), .string (S e.content)] 9)).trans (hb1.mono (by simp)); obtain ⟨k0, k1, k2, k3, k4⟩ := KEEP.out _ r1)
      | (go_at_call 78; refine (HD.out _).mono ?_; rintro x w2 ⟨rfl, hb2⟩))
    go_ret
    exact ⟨rfl, HA0.out.trans ((r1.trans (hb2.mono (by have := r1.size; simpa using this))).mono (Nat.le_succ _))⟩
end Go.Proofs.YtadkgjbidhfefaaDoor
set_option linter.unusedVariables false
namespace Go.Proofs.YtadkgjbidhfefaaDoor
open Go.RowKit

def kE (e : En) : Bytes := keyOf (entVal e)
/-- By time, then by canonical bytes. -/
def cmpK (a b : En) : Int := lex3 (fun a b : En => cmpI a.upd b.upd) (fun a b : En => cmpB (kE a) (kE b)) a b
theorem ordK : Ord3 cmpK := (ordI.on (fun e : En => e.upd)).lex (ordB.on kE)
theorem wp_store_ent {ops : Array Oper} {rest : List Oper} {o : Oper} {a : Act} {w : World} {Q : Exit → Act → World → Prop} (hgd : o.guard = none) (x y : Operand) (ho : o.op = .store 59 x y)
    (g : Nat) (cur : Array Value) (s0 s1 s2 s3 : ByteArray) (n : Int) (hx : a.eval x = .pointer (some ⟨g, 0, none⟩)) (hy : a.eval y = .agg #[.string s0, .string s1, .string s2, .string s3, .int .i64 n])
    (hg : w.heap[g]? = some (.cells cur 59 (0, 0))) (hs : cur.size = 5)
    (h : ∀ w', w'.heap[g]? = some (.cells #[.string s0, .string s1, .string s2, .string s3, .int .i64 n] 59 (0, 0)) → Upd g w w' → wpList Tryd.prog ops Q rest (a.put o.dst undef) w') : wpList Tryd.prog ops Q (o :: rest) a w :=
  wp_store_whole hgd 59 x y ho g 59 cur _ hx hy hg (by rw [hs]; rfl) entSize (by simp [Value.oneCell']) h
abbrev zEntO : Obj := .cells #[.string ⟨#[]⟩, .string ⟨#[]⟩, .string ⟨#[]⟩, .string ⟨#[]⟩, .int .i64 0] 59
/-- The three blocks of a function of two entries that returns one. -/
structure Ent3 (w : World) (B : Nat) (a b : En) : Prop where
  one : w.heap[B]? = some (entBox a)
  two : w.heap[B + 1]? = some (entBox b)
  res : w.heap[B + 1 + 1]? = some zEntO
theorem Ent3.new (w : World) (a b : En) : Ent3 (((w.alloc (entBox a)).alloc (entBox b)).alloc zEntO) w.heap.size a b := by
  refine ⟨?_, ?_, ?_⟩
  · exact (Below.heap_alloc _ _ _ (by simp; omega)).trans ((Below.heap_alloc _ _ _ (by simp)).trans (heap_alloc_new w _))
  · refine (Below.heap_alloc _ _ _ (by simp)).trans ?_
    have := heap_alloc_new (w.alloc (entBox a)) (entBox b)
    simpa using this
  · have := heap_alloc_new ((w.alloc (entBox a)).alloc (entBox b)) zEntO
    simpa using this
theorem Ent3.next {w w' : World} {B : Nat} {a b : En} (h : Ent3 w B a b) (hb : Below w.heap.size w w') : Ent3 w' B a b :=
  ⟨(hb.block _ (heap_lt h.one)).trans h.one, (hb.block _ (heap_lt h.two)).trans h.two, (hb.block _ (heap_lt h.res)).trans h.res⟩
theorem Ent3.cells {w : World} {B : Nat} {a b : En} (h : Ent3 w B a b) :
    (w.cell? ⟨B, 0, none⟩ = some (.string (S a.id)) ∧ w.cell? ⟨B, 1, none⟩ = some (.string (S a.title)) ∧ w.cell? ⟨B, 2, none⟩ = some (.string (S a.link)) ∧ w.cell? ⟨B, 3, none⟩ = some (.string (S a.content)) ∧ w.cell? ⟨B, 4, none⟩ = some (.int .i64 a.upd)) ∧
    (w.cell? ⟨B + 1, 0, none⟩ = some (.string (S b.id)) ∧ w.cell? ⟨B + 1, 1, none⟩ = some (.string (S b.title)) ∧ w.cell? ⟨B + 1, 2, none⟩ = some (.string (S b.link)) ∧ w.cell? ⟨B + 1, 3, none⟩ = some (.string (S b.content)) ∧ w.cell? ⟨B + 1, 4, none⟩ = some (.int .i64 b.upd)) :=
  ⟨cells5 h.one, cells5 h.two⟩

set_option maxHeartbeats 4000000 in
set_option maxRecDepth 100000 in
theorem refLaterEntry_any (a b : En) (w : World) (hf : EFit a) (hg : EFit b) (hs : a.id.length + a.title.length + a.link.length + a.content.length ≤ 100000) (ht : b.id.length + b.title.length + b.link.length + b.content.length ≤ 100000) :
    Calls Tryd.prog 39 #[entV a, entV b] w fun x w' => x = .returned (entV (lat3 cmpK a b)) ∧ Below w.heap.size w w' := by
  have E0 := Lib.hid (Ent3.new w a b)
  have F3 : Hid (Below w.heap.size w (((w.alloc (entBox a)).alloc (entBox b)).alloc zEntO)) := (((Below.refl _ _).alloc (Nat.le_refl _) _).alloc (by simp) _).alloc (by simp; omega) _
  by_cases h1 : a.upd < b.upd
  · have hl : lat3 cmpK a b = b := by unfold lat3 cmpK lex3 cmpI; simp only [if_pos h1]; simp
    rw [hl]
    have q1 : decide (a.upd < b.upd) = true := decide_eq_true h1
    clear hl hf hg hs ht
    obtain ⟨⟨a0, a1, a2, a3, a4⟩, b0, b1, b2, b3, b4⟩ := E0.out.cells
    go_enter Tryd.func39, Tryd.ntmps39
    go_wp2_with fail
    go_quiet (fail)
    have E1 := E0.out.next (below_drewN13 _ nq)
    have R1 := E1.res
    go_wp2_with (with_reducible refine gate ?_; refine wp_store_ent rfl _ _ rfl (w.heap.size + 1 + 1) _ _ _ _ _ _ rfl rfl R1 rfl ?_; intro w2 hw2 hu2)
    refine bodyPost_ret (v := .agg _) (res_whole Tryd.results39 _ _ (w.heap.size + 1 + 1) rfl _ _ hw2 Tryd.underlying59 rfl entSize) rfl ⟨rfl, ?_⟩
    exact (F3.out.trans ((below_drewN13 _ nq).mono (by simp; omega))).trans (hu2.below (by omega) (by simp; omega))
  · by_cases h2 : b.upd < a.upd
    · have hl : lat3 cmpK a b = a := by unfold lat3 cmpK lex3 cmpI; simp only [if_neg h1, if_pos h2]; simp
      rw [hl]
      have q1 : decide (a.upd < b.upd) = false := decide_eq_false h1
      have q2 : (b.upd == a.upd) = false := by rw [beq_eq_false_iff_ne]; omega
      clear hl hf hg hs ht
      obtain ⟨⟨a0, a1, a2, a3, a4⟩, b0, b1, b2, b3, b4⟩ := E0.out.cells
      go_enter Tryd.func39, Tryd.ntmps39
      go_wp2_with fail
      go_quiet (fail)
      have E1 := E0.out.next (below_drewN13 _ nq)
      have R1 := E1.res
      go_wp2_with (with_reducible refine gate ?_; refine wp_store_ent rfl _ _ rfl (w.heap.size + 1 + 1) _ _ _ _ _ _ rfl rfl R1 rfl ?_; intro w2 hw2 hu2)
      refine bodyPost_ret (v := .agg _) (res_whole Tryd.results39 _ _ (w.heap.size + 1 + 1) rfl _ _ hw2 Tryd.underlying59 rfl entSize) rfl ⟨rfl, ?_⟩
      exact (F3.out.trans ((below_drewN13 _ nq).mono (by simp; omega))).trans (hu2.below (by omega) (by simp; omega))
    · have he : a.upd = b.upd := by omega
      have hl : lat3 cmpK a b = if cmpB (kE a) (kE b) = -1 then b else a := by unfold lat3 cmpK lex3 cmpI; simp only [if_neg h1, if_neg h2]; simp
      have hka := fun W => refEntryKey_any a W hf hs
      have hkb := fun W => refEntryKey_any b W hg ht
      rw [show keyOf (entVal a) = kE a from rfl] at hka
      rw [show keyOf (entVal b) = kE b from rfl] at hkb
      generalize kE a = ka at *
      generalize kE b = kb at *
      have hway : ∃ X Y : Bool, Op.bytesLess kb ka = X ∧ (kb == ka) = Y ∧ lat3 cmpK a b = if (!(X || Y)) = true then b else a := by
        have := ordB.anti ka kb
        rcases ordB.rng ka kb with h | h | h
        · exact ⟨false, false, less_no (by omega), ne_of_cmp (by omega), by rw [hl, if_pos h]; rfl⟩
        · have e := cmpB_eq h
          subst e
          exact ⟨false, true, less_no (by omega), by simp, by rw [hl, if_neg (by omega)]; rfl⟩
        · exact ⟨true, false, less_yes (by omega), ne_of_cmp (by omega), by rw [hl, if_neg (by omega)]; rfl⟩
      obtain ⟨X, Y, hX, hY, hr⟩ := hway
      have q1 : decide (a.upd < b.upd) = false := decide_eq_false h1
      have q2 : (b.upd == a.upd) = true := by rw [he]; exact beq_self_eq_true _
      have HKA := Lib.hid hka
      have HKB := Lib.hid hkb
      have KEEP : Hid (∀ W, Below (w.heap.size + 3) (((w.alloc (entBox a)).alloc (entBox b)).alloc zEntO) W → Ent3 W w.heap.size a b) := fun W hW => E0.out.next (by simpa using hW)
      clear hl hf hg hs ht h1 h2 hka hkb
      have HE := Lib.hid he
      clear he
      cases X <;> cases Y
      all_goals
        rw [hr]
        clear hr
        obtain ⟨⟨a0, a1, a2, a3, a4⟩, b0, b1, b2, b3, b4⟩ := E0.out.cells
        go_enter Tryd.func39, Tryd.ntmps39
        go_wp2_with fail
        clear a0 a1 a2 a3 a4 b0 b1 b2 b3 b4
        go_region_held3 (fun x => (x.cell? ⟨w.heap.size, 0, none⟩ = some (.string (S a.id)) ∧ x.cell? ⟨w.heap.size, 1, none⟩ = some (.string (S a.title)) ∧ x.cell? ⟨w.heap.size, 2, none⟩ = some (.string (S a.link)) ∧ x.cell? ⟨w.heap.size, 3, none⟩ = some (.string (S a.content)) ∧ x.cell? ⟨w.heap.size, 4, none⟩ = some (.int .i64 a.upd)) ∧
            (x.cell? ⟨w.heap.size + 1, 0, none⟩ = some (.string (S b.id)) ∧ x.cell? ⟨w.heap.size + 1, 1, none⟩ = some (.string (S b.title)) ∧ x.cell? ⟨w.heap.size + 1, 2, none⟩ = some (.string (S b.link)) ∧ x.cell? ⟨w.heap.size + 1, 3, none⟩ = some (.string (S b.content)) ∧ x.cell? ⟨w.heap.size + 1, 4, none⟩ = some (.int .i64 b.upd)))
          (first | exact (KEEP.out _ r2).cells | exact (KEEP.out _ r1).cells | exact (KEEP.out _ (Below.refl _ _).drew).cells)
          (first
            | ((go_at_call 42; (with_reducible refine (HKA.out _).mono ?_); rintro x w2 ⟨rfl, hb2⟩; have r2 := r1.trans (hb2.mono hz1); have hz2 : w.heap.size + 3 ≤ w2.heap.size := (by have := r2.size; simpa using this); clear hb2))
            | ((go_at_call 42; (with_reducible refine (HKB.out _).mono ?_); rintro x w2 ⟨rfl, hb2⟩; have r2 := r1.trans (hb2.mono hz1); have hz2 : w.heap.size + 3 ≤ w2.heap.size := (by have := r2.size; simpa using this); clear hb2))
            | ((go_at_call 42; (with_reducible refine (HKA.out _).mono ?_); rintro x w1 ⟨rfl, hb1⟩; have r1 := (Below.refl (w.heap.size + 3) (((w.alloc (entBox a)).alloc (entBox b)).alloc zEntO)).drew.trans (hb1.mono (by simp)); have hz1 : w.heap.size + 3 ≤ w1.heap.size := (by have := r1.size; simpa using this); clear hb1))
            | ((go_at_call 42; (with_reducible refine (HKB.out _).mono ?_); rintro x w1 ⟨rfl, hb1⟩; have r1 := (Below.refl (w.heap.size + 3) (((w.alloc (entBox a)).alloc (entBox b)).alloc zEntO)).drew.trans (hb1.mono (by simp)); have hz1 : w.heap.size + 3 ≤ w1.heap.size := (by have := r1.size; simpa using this); clear hb1)))
        all_goals
          have R2 := (KEEP.out _ r2).res
          have HR2 := Lib.hid r2
          clear r1 r2
          go_wp2_with (with_reducible refine gate ?_; refine wp_store_ent rfl _ _ rfl (w.heap.size + 1 + 1) _ _ _ _ _ _ rfl rfl R2 rfl ?_; intro w4 hw4 hu4)
          refine bodyPost_ret (v := .agg _) (res_whole Tryd.results39 _ _ (w.heap.size + 1 + 1) rfl _ _ hw4 Tryd.underlying59 rfl entSize) rfl ⟨rfl, ?_⟩
          exact (F3.out.trans (HR2.out.mono (by omega))).trans (hu4.below (by omega) (by omega))
end Go.Proofs.YtadkgjbidhfefaaDoor
set_option linter.unusedVariables false
namespace Go.Proofs.YtadkgjbidhfefaaDoor
open Go.RowKit

set_option maxHeartbeats 1000000 in
theorem updOf_any (e : En) (w : World) : Calls Tryd.prog 74 #[entV e] w fun x w' => x = .returned (.int .i64 e.upd) ∧ Below w.heap.size w w' := by
  go_enter Tryd.func74, Tryd.ntmps74
  go_wp2
  go_ret
  exact ⟨rfl, (Below.refl _ _).alloc (Nat.le_refl _) _⟩

set_option maxHeartbeats 8000000 in
set_option maxRecDepth 100000 in
theorem laterE_any (a b : En) (w : World) (hT : TabJ w) (hf : EFit a) (hg : EFit b) (hs : a.id.length + a.title.length + a.link.length + a.content.length ≤ 100000) (ht : b.id.length + b.title.length + b.link.length + b.content.length ≤ 100000) :
    Calls Tryd.prog 73 #[entV a, entV b, .func (.func 74) #[] #[], .func (.func 41) #[] #[]] w fun x w' => x = .returned (entV (lat3 cmpK a b)) ∧ Below w.heap.size w w' := by
  have E0 := Lib.hid (Ent3.new w a b)
  have F3 : Hid (Below w.heap.size w (((w.alloc (entBox a)).alloc (entBox b)).alloc zEntO)) := (((Below.refl _ _).alloc (Nat.le_refl _) _).alloc (by simp) _).alloc (by simp; omega) _
  have hka := fun W => fun (hW : Below w.heap.size w W) => entryKey_any a W (hT.next hW) hf hs
  have hkb := fun W => fun (hW : Below w.heap.size w W) => entryKey_any b W (hT.next hW) hg ht
  rw [show keyOf (entVal a) = kE a from rfl] at hka
  rw [show keyOf (entVal b) = kE b from rfl] at hkb
  have hua := fun W => updOf_any a W
  have hub := fun W => updOf_any b W
  have hc := fun W => cmpInt_any a.upd b.upd W
  have HKA := Lib.hid hka
  have HKB := Lib.hid hkb
  have HUA := Lib.hid hua
  have HUB := Lib.hid hub
  have KEEP : Hid (∀ W, Below (w.heap.size + 3) (((w.alloc (entBox a)).alloc (entBox b)).alloc zEntO) W → Ent3 W w.heap.size a b) := fun W hW => E0.out.next (by simpa using hW)
  clear hka hkb hua hub hT hf hg hs ht
  have hways : (cmpI a.upd b.upd = -1 ∧ lat3 cmpK a b = b) ∨ (cmpI a.upd b.upd = 1 ∧ lat3 cmpK a b = a) ∨ (cmpI a.upd b.upd = 0 ∧ lat3 cmpK a b = if cmpB (kE a) (kE b) = -1 then b else a) := by
    rcases ordI.rng a.upd b.upd with h | h | h
    · exact .inl ⟨h, by unfold lat3 cmpK lex3; simp [h]⟩
    · exact .inr (.inr ⟨h, by unfold lat3 cmpK lex3; simp [h]⟩)
    · exact .inr (.inl ⟨h, by unfold lat3 cmpK lex3; simp [h]⟩)
  generalize cmpI a.upd b.upd = c at *
  generalize lat3 cmpK a b = L at *
  have HC := Lib.hid hc
  clear hc
  obtain ⟨⟨a0, a1, a2, a3, a4⟩, b0, b1, b2, b3, b4⟩ := E0.out.cells
  go_enter Tryd.func73, Tryd.ntmps73
  go_wp2_with fail
  clear a0 a1 a2 a3 a4 b0 b1 b2 b3 b4
  go_region_held3 (fun x => (x.cell? ⟨w.heap.size, 0, none⟩ = some (.string (S a.id)) ∧ x.cell? ⟨w.heap.size, 1, none⟩ = some (.string (S a.title)) ∧ x.cell? ⟨w.heap.size, 2, none⟩ = some (.string (S a.link)) ∧ x.cell? ⟨w.heap.size, 3, none⟩ = some (.string (S a.content)) ∧ x.cell? ⟨w.heap.size, 4, none⟩ = some (.int .i64 a.upd)) ∧
      (x.cell? ⟨w.heap.size + 1, 0, none⟩ = some (.string (S b.id)) ∧ x.cell? ⟨w.heap.size + 1, 1, none⟩ = some (.string (S b.title)) ∧ x.cell? ⟨w.heap.size + 1, 2, none⟩ = some (.string (S b.link)) ∧ x.cell? ⟨w.heap.size + 1, 3, none⟩ = some (.string (S b.content)) ∧ x.cell? ⟨w.heap.size + 1, 4, none⟩ = some (.int .i64 b.upd)))
    (first | exact (KEEP.out _ r2).cells | exact (KEEP.out _ r1).cells | exact (KEEP.out _ (Below.refl _ _).drew).cells)
    (first
      | ((go_at_call 74; (with_reducible refine (HUA.out _).mono ?_); rintro x w2 ⟨rfl, hb2⟩; have r2 := r1.trans (hb2.mono hz1); have hz2 : w.heap.size + 3 ≤ w2.heap.size := (by have := r2.size; simpa using this); clear hb2))
      | ((go_at_call 74; (with_reducible refine (HUB.out _).mono ?_); rintro x w2 ⟨rfl, hb2⟩; have r2 := r1.trans (hb2.mono hz1); have hz2 : w.heap.size + 3 ≤ w2.heap.size := (by have := r2.size; simpa using this); clear hb2))
      | ((go_at_call 74; (with_reducible refine (HUA.out _).mono ?_); rintro x w1 ⟨rfl, hb1⟩; have r1 := (Below.refl (w.heap.size + 3) (((w.alloc (entBox a)).alloc (entBox b)).alloc zEntO)).drew.trans (hb1.mono (by simp)); have hz1 : w.heap.size + 3 ≤ w1.heap.size := (by have := r1.size; simpa using this); clear hb1))
      | ((go_at_call 74; (with_reducible refine (HUB.out _).mono ?_); rintro x w1 ⟨rfl, hb1⟩; have r1 := (Below.refl (w.heap.size + 3) (((w.alloc (entBox a)).alloc (entBox b)).alloc zEntO)).drew.trans (hb1.mono (by simp)); have hz1 : w.heap.size + 3 ≤ w1.heap.size := (by have := r1.size; simpa using this); clear hb1))
      | ((go_at_call 72; (with_reducible refine (HC.out _).mono ?_); rintro x wq ⟨rfl, rfl⟩)))
  all_goals
    have HR2 := Lib.hid r2
    have hE2 := (KEEP.out _ r2).cells
    obtain ⟨⟨a0, a1, a2, a3, a4⟩, b0, b1, b2, b3, b4⟩ := hE2
    clear r1 r2
    rcases hways with ⟨hcc, hLL⟩ | ⟨hcc, hLL⟩ | ⟨hcc, hLL⟩
    · subst hcc hLL
      go_wp2_with fail
      go_quiet (fail)
      have R1 := (KEEP.out _ (HR2.out.trans ((below_drewN13 wq nq).mono hz2))).res
      go_wp2_with (with_reducible refine gate ?_; refine wp_store_ent rfl _ _ rfl (w.heap.size + 1 + 1) _ _ _ _ _ _ rfl rfl R1 rfl ?_; intro w4 hw4 hu4)
      refine bodyPost_ret (v := .agg _) (res_whole Tryd.results73 _ _ (w.heap.size + 1 + 1) rfl _ _ hw4 Tryd.underlying59 rfl entSize) rfl ⟨rfl, ?_⟩
      exact (F3.out.trans ((HR2.out.trans ((below_drewN13 wq nq).mono hz2)).mono (by omega))).trans (hu4.below (by omega) (by simp; omega))
    · subst hcc hLL
      go_wp2_with fail
      go_quiet (fail)
      have R1 := (KEEP.out _ (HR2.out.trans ((below_drewN13 wq nq).mono hz2))).res
      go_wp2_with (with_reducible refine gate ?_; refine wp_store_ent rfl _ _ rfl (w.heap.size + 1 + 1) _ _ _ _ _ _ rfl rfl R1 rfl ?_; intro w4 hw4 hu4)
      refine bodyPost_ret (v := .agg _) (res_whole Tryd.results73 _ _ (w.heap.size + 1 + 1) rfl _ _ hw4 Tryd.underlying59 rfl entSize) rfl ⟨rfl, ?_⟩
      exact (F3.out.trans ((HR2.out.trans ((below_drewN13 wq nq).mono hz2)).mono (by omega))).trans (hu4.below (by omega) (by simp; omega))
    · have hway : ∃ X : Bool, Op.bytesLess (kE a) (kE b) = X ∧ L = if X = true then b else a := by
        by_cases h : cmpB (kE a) (kE b) = -1
        · exact ⟨true, less_yes h, by rw [hLL, if_pos h]; rfl⟩
        · exact ⟨false, less_no h, by rw [hLL, if_neg h]; rfl⟩
      obtain ⟨X, hX, hr⟩ := hway
      subst hcc
      clear hLL a0 a1 a2 a3 a4 b0 b1 b2 b3 b4
      generalize kE a = ka at *
      generalize kE b = kb at *
      have hw0 : Below w.heap.size w wq := F3.out.trans (HR2.out.mono (by omega))
      have HW0 := Lib.hid hw0
      clear hw0
      cases X
      all_goals
        have HRL := Lib.hid hr
        clear hr
        go_wp2_with fail
        go_region_held3 (fun x => (x.cell? ⟨w.heap.size, 0, none⟩ = some (.string (S a.id)) ∧ x.cell? ⟨w.heap.size, 1, none⟩ = some (.string (S a.title)) ∧ x.cell? ⟨w.heap.size, 2, none⟩ = some (.string (S a.link)) ∧ x.cell? ⟨w.heap.size, 3, none⟩ = some (.string (S a.content)) ∧ x.cell? ⟨w.heap.size, 4, none⟩ = some (.int .i64 a.upd)) ∧
          (x.cell? ⟨w.heap.size + 1, 0, none⟩ = some (.string (S b.id)) ∧ x.cell? ⟨w.heap.size + 1, 1, none⟩ = some (.string (S b.title)) ∧ x.cell? ⟨w.heap.size + 1, 2, none⟩ = some (.string (S b.link)) ∧ x.cell? ⟨w.heap.size + 1, 3, none⟩ = some (.string (S b.content)) ∧ x.cell? ⟨w.heap.size + 1, 4, none⟩ = some (.int .i64 b.upd)))
          (first | exact (KEEP.out _ r4).cells | exact (KEEP.out _ r3).cells | exact (KEEP.out _ HR2.out.drew).cells)
          (first
            | ((go_at_call 41; (with_reducible refine (HKA.out _ (F3.out.trans (r3.mono (by omega)))).mono ?_); rintro x w4 ⟨rfl, hb4⟩; have r4 := r3.trans (hb4.mono hz3); have hz4 : w.heap.size + 3 ≤ w4.heap.size := (by have := r4.size; simpa using this); clear hb4))
            | ((go_at_call 41; (with_reducible refine (HKB.out _ (F3.out.trans (r3.mono (by omega)))).mono ?_); rintro x w4 ⟨rfl, hb4⟩; have r4 := r3.trans (hb4.mono hz3); have hz4 : w.heap.size + 3 ≤ w4.heap.size := (by have := r4.size; simpa using this); clear hb4))
            | ((go_at_call 41; (with_reducible refine (HKA.out _ HW0.out.drew).mono ?_); rintro x w3 ⟨rfl, hb3⟩; have r3 := HR2.out.drew.trans (hb3.mono (by simpa using hz2)); have hz3 : w.heap.size + 3 ≤ w3.heap.size := (by have := r3.size; simpa using this); clear hb3))
            | ((go_at_call 41; (with_reducible refine (HKB.out _ HW0.out.drew).mono ?_); rintro x w3 ⟨rfl, hb3⟩; have r3 := HR2.out.drew.trans (hb3.mono (by simpa using hz2)); have hz3 : w.heap.size + 3 ≤ w3.heap.size := (by have := r3.size; simpa using this); clear hb3)))
        all_goals
          have R4 := (KEEP.out _ r4).res
          have HR4 := Lib.hid r4
          clear r3 r4
          go_wp2_with (with_reducible refine gate ?_; refine wp_store_ent rfl _ _ rfl (w.heap.size + 1 + 1) _ _ _ _ _ _ rfl rfl R4 rfl ?_; intro w5 hw5 hu5)
          refine bodyPost_ret (v := .agg _) (res_whole Tryd.results73 _ _ (w.heap.size + 1 + 1) rfl _ _ hw5 Tryd.underlying59 rfl entSize) rfl ⟨by rw [HRL.out]; rfl, ?_⟩
          exact (F3.out.trans (HR4.out.mono (by omega))).trans (hu5.below (by omega) (by omega))
end Go.Proofs.YtadkgjbidhfefaaDoor
