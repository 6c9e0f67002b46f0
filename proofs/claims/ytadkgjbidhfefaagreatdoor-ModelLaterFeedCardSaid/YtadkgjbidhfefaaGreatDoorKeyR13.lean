/-
  Walks of chapter 13: the canonical bytes of entries (the reference).
-/
import Derived.Test.YtadkgjbidhfefaaGreatDoorKey13b
import Derived.Test.YtadkgjbidhfefaaGreatDoorRefQ10
import Derived.Test.YtadkgjbidhfefaaGreatDoorDecim
import Derived.Test.YtadkgjbidhfefaaGreatDoorJwr2
set_option linter.unusedVariables false
namespace Go.Proofs.YtadkgjbidhfefaaGreatDoor
open Go.RowKit

/-- What quote returns: empty if one is no UTF-8. -/
def quoL (l : List Bytes) : Bytes := if l.all utf8J = true then jtxL true (l.map jstr) else []
theorem jtx_jstr (s : Bytes) : jtx (jstr s) = jq s := by unfold jstr; rw [jtx]; simp
theorem jtxL_jstr {l : List Bytes} {i : Nat} (f : Bool) (h : i < l.length) : jtxL f ((l.drop i).map jstr) = (if f = true then [] else [44]) ++ (jq l[i] ++ jtxL false ((l.drop (i + 1)).map jstr)) := by
  rw [List.drop_eq_getElem_cons h, List.map_cons, jtxL_cons, jtx_jstr]
theorem all_drop {l : List Bytes} {i : Nat} (h : i < l.length) : (l.drop i).all utf8J = (utf8J l[i] && (l.drop (i + 1)).all utf8J) := by
  rw [List.drop_eq_getElem_cons h, List.all_cons]
theorem jtxL_jstr_len : ∀ (f : Bool) (l : List Bytes), (jtxL f (l.map jstr)).length ≤ 6 * (l.map List.length).sum + 3 * l.length
  | f, [] => by rw [List.map_nil, jtxL_nil]; simp
  | f, a :: l => by
    rw [List.map_cons, jtxL_cons, jtx_jstr]
    have h1 := jq_len a
    have h2 := jtxL_jstr_len false l
    simp only [List.length_append, List.map_cons, List.sum_cons, List.length_cons]
    split <;> simp only [List.length_nil, List.length_cons] <;> omega
theorem mem_sum {l : List Bytes} {i : Nat} (h : i < l.length) : l[i].length ≤ (l.map List.length).sum := by
  induction l generalizing i with
  | nil => simp at h
  | cons a l ih =>
    simp only [List.map_cons, List.sum_cons]
    cases i with
    | zero => simp
    | succ i => have := ih (i := i) (by simpa using h); simp only [List.getElem_cons_succ]; omega

set_option maxHeartbeats 2000000 in
set_option maxRecDepth 100000 in
theorem refQuoteL_any (l : List Bytes) (u : Value) (w : World) (h : ElsP strE w (· < w.heap.size) u l) (hl : l.length ≤ 1000000) (hs : (l.map List.length).sum ≤ 1000000) :
    Calls Tryz.prog 45 #[u] w fun e w' => e = .returned (.string (S (quoL l))) ∧ Below w.heap.size w w' := by
  obtain ⟨A0, c0, rfl, _⟩ := h.slice
  have HL := Lib.hid h
  have htl := jtxL_jstr_len true l
  obtain ⟨T, hT⟩ : ∃ T, quoL l = T := ⟨_, rfl⟩
  rw [hT]
  have hst : l.all utf8J = true → ([] : Bytes) ++ jtxL (decide (0 = 0)) ((l.drop 0).map jstr) = T := fun h => by rw [← hT]; unfold quoL; rw [if_pos h]; rfl
  have hno : l.all utf8J = false → ([] : Bytes) = T := fun h => by rw [← hT]; unfold quoL; rw [if_neg (by rw [h]; decide)]
  have hTl : T.length ≤ 9000000 := by
    rw [← hT]; unfold quoL; split
    · omega
    · simp
  have HS := Lib.hid hs
  have HR : Hid (∀ (i : Nat) (hi : i < l.length), l[i].length ≤ 1000000) := fun i hi => by have := mem_sum hi; omega
  obtain ⟨q, hq⟩ : ∃ q, l.all utf8J = q := ⟨_, rfl⟩
  have HST := Lib.hid (show (q = true → ([] : Bytes) ++ jtxL (decide (0 = 0)) ((l.drop 0).map jstr) = T) ∧ (q = false → ([] : Bytes) = T) ∧ (l.drop 0).all utf8J = q from by rw [← hq]; exact ⟨hst, hno, rfl⟩)
  clear hT hst hno htl h hs hq
  go_enter Tryz.func45, Tryz.ntmps45
  go_wp2_with fail
  go_loopw [3, 4] (fun s3 i4 wr => ∃ (i : Nat) (Y : Bytes), i ≤ l.length ∧ i4 = .int .i64 i ∧ s3 = .string (S Y) ∧ Y.length ≤ 6000003 * i ∧ (q = true → Y ++ jtxL (decide (i = 0)) ((l.drop i).map jstr) = T) ∧ (q = false → ([] : Bytes) = T) ∧ (l.drop i).all utf8J = q ∧ Below w.heap.size w wr) (fun _ i4 _ => l.length - (intOf i4).toNat)
  case atStart => exact ⟨0, [], Nat.zero_le _, rfl, rfl, by simp, HST.out.1, HST.out.2.1, HST.out.2.2, Below.refl _ _⟩
  case round =>
    obtain ⟨i, Y, hi, rfl, rfl, hYl, h1, h2, h3, hb⟩ := hrel
    have HB := Lib.hid hb
    have hsz := hb.size
    clear hb HST
    by_cases hlt : i < l.length
    · have hlt' : (i : Int) < l.length := by omega
      obtain ⟨b, off, rfl, hpb, hc1⟩ := strs_cell (HL.out.keep strE_ok HB.out.block (fun _ h => h)) hlt
      have hxl := HR.out i hlt
      rw [jtxL_jstr _ hlt] at h1
      rw [all_drop hlt] at h3
      generalize l[i] = x at *
      have hq := fun W => refQuote_any x W (by omega)
      have hjl := jq_len x
      unfold quoteB quoteE at hq
      cases hu : utf8J x with
      | false =>
        rw [hu] at hq h3
        simp only [Bool.false_and, Bool.false_eq_true, if_false] at hq h3
        have hT := h2 h3.symm
        subst hT
        have HQ := Lib.hid hq
        clear hq h1 h2 h3 hu
        go_wp2_with (go_at_call 60; refine (HQ.out _).mono ?_; rintro e w2 ⟨rfl, hb2⟩)
        go_ret
        exact ⟨rfl, HB.out.trans (hb2.mono hsz)⟩
      | true =>
        rw [hu] at hq h3
        simp only [Bool.true_and, if_true] at hq h3
        have HQ := Lib.hid hq
        have H3 := Lib.hid h3
        have H2 := Lib.hid h2
        clear hq h2 h3 hu
        generalize jq x = J at *
        by_cases hi0 : i = 0
        · have q0 : ¬ ((0 : Int) < i) := by omega
          rw [decide_eq_true hi0] at h1
          simp only [if_true, List.nil_append] at h1
          have g1 : ∀ W : World, (Op.stringOp .add (S Y) (S J)).run Tryz.prog W = .ok (.string (S (Y ++ J))) W := run_catJ Y J _ rfl (by omega)
          have hn : q = true → (Y ++ J) ++ jtxL (decide (i + 1 = 0)) ((l.drop (i + 1)).map jstr) = T := fun h => by rw [← h1 h, decide_eq_false (by omega : ¬ i + 1 = 0)]; simp
          have HN := Lib.hid hn
          clear h1 hn hi0
          go_wp2_with (go_at_call 60; refine (HQ.out _).mono ?_; rintro e w2 ⟨rfl, hb2⟩)
          go_roundw
          case rel => exact ⟨i + 1, Y ++ J, by omega, by go_num, rfl, by simp only [List.length_append]; omega, HN.out, H2.out, H3.out, HB.out.trans (hb2.mono hsz)⟩
          case measure => simp [intOf]; omega
        · have q0 : (0 : Int) < i := by omega
          rw [decide_eq_false hi0] at h1
          simp only [Bool.false_eq_true, if_false] at h1
          obtain ⟨Z, hZ⟩ : ∃ Z, Y ++ [44] = Z := ⟨_, rfl⟩
          have hZl : Z.length = Y.length + 1 := by rw [← hZ]; simp
          have g0 : ∀ W : World, (Op.stringOp .add (S Y) ⟨#[44]⟩).run Tryz.prog W = .ok (.string (S Z)) W := run_catJ Y [44] _ hZ.symm (by simp only [List.length_cons, List.length_nil]; omega)
          have g1 : ∀ W : World, (Op.stringOp .add (S Z) (S J)).run Tryz.prog W = .ok (.string (S (Z ++ J))) W := run_catJ Z J _ rfl (by omega)
          have hn : q = true → (Z ++ J) ++ jtxL (decide (i + 1 = 0)) ((l.drop (i + 1)).map jstr) = T := fun h => by rw [← h1 h, ← hZ, decide_eq_false (by omega : ¬ i + 1 = 0)]; simp
          have HN := Lib.hid hn
          have HZL := Lib.hid hZl
          clear h1 hn hZ hi0 hZl
          go_wp2_with (go_at_call 60; refine (HQ.out _).mono ?_; rintro e w2 ⟨rfl, hb2⟩)
          go_roundw
          case rel => exact ⟨i + 1, Z ++ J, by omega, by go_num, rfl, by have := HZL.out; simp only [List.length_append]; omega, HN.out, H2.out, H3.out, HB.out.trans (hb2.mono hsz)⟩
          case measure => simp [intOf]; omega
    · obtain rfl : i = l.length := by omega
      rw [List.drop_length] at h1 h3
      have hT := h1 h3.symm
      rw [List.map_nil, jtxL_nil, List.append_nil] at hT
      subst hT
      clear h1 h2 h3
      go_wp2_with fail
      go_ret
      exact ⟨rfl, HB.out⟩
end Go.Proofs.YtadkgjbidhfefaaGreatDoor
