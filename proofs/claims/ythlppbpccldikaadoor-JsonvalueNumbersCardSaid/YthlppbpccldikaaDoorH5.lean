/-
  Several texts in one file, in build order:
  - Walks of chapter 1: the program's decoder, and both checks.
  - Walk of chapter 10: the program's Quote.
  - Walks of chapter 10, the reference: Parse.
  - A strings.Builder of the call's own: WriteRune.
  - Walks of chapter 10, the program: Parse.
  - Plain functions of chapter 11: a JSON text is read. No program.
  - Walks of chapter 11, the program: the parser's block; spaces.
  - Walks of chapter 11, the program: peek, wrong.
  - Walks of chapter 11, the program: str.
-/
import Derived.Test.YthlppbpccldikaaDoorH4
import Derived.Lib.ValidU
import Derived.Test.YthlppbpccldikaaDoorH3
import Derived.Test.YthlppbpccldikaaDoorH2
import Derived.Lib.RuneBytes
import Derived.WalkMore
import Derived.Deep.QuietTactic
import Derived.BigQuiet
import Derived.Deep.LoopGhost
import Derived.Deep.RegionHeld3
set_option linter.unusedVariables false
namespace Go.Proofs.YthlppbpccldikaaDoor
open Go.RowKit

theorem dec_one (l : Bytes) (h : (dec l).2 = 1) : (dec l).1 < 128 := by
  unfold dec at h ⊢
  match l with
  | [] => simp
  | a :: t =>
    dsimp only at h ⊢
    by_cases h1 : a.toNat < 128
    · simp [h1]
    · simp only [h1, if_false] at h ⊢
      match t with
      | [] => simp
      | b :: t =>
        dsimp only at h ⊢
        repeat' split at h
        all_goals first | omega | (simp at h)
theorem decodeGo_S (l : Bytes) (h : l ≠ []) : Lib.decodeGo (S l) = if (dec l).2 = 0 then (65533, 1) else dec l := by
  unfold Lib.decodeGo
  rw [if_neg (by rw [S_size]; intro e; exact h (List.eq_nil_of_length_eq_zero e)), utf8_dec l h]

theorem ret_dec {r r' : Nat} {n n' : Nat} (h : (r, n) = (r', n')) : Ending.returned (.tuple #[.int .i32 r, .int .i64 n]) = .returned (.tuple #[.int .i32 r', .int .i64 n']) := by
  cases h; rfl

set_option maxHeartbeats 1000000 in
theorem decode_out (l : Bytes) (n : Int) (w : World) (hl : l.length ≤ 4611686018427387904) (h : n < 0 ∨ (l.length : Int) ≤ n) :
    Calls Tryd.prog 56 #[.string (S l), .int .i64 n] w fun e w' => e = .returned (.tuple #[.int .i32 0, .int .i64 0]) ∧ w = w' := by
  rcases h with h | h
  · go_enter Tryd.func56, Tryd.ntmps56
    go_wp2
    go_ret2
    exact ⟨rfl, rfl⟩
  · have h0 : 0 ≤ n := by omega
    go_enter Tryd.func56, Tryd.ntmps56
    go_wp2
    go_ret2
    exact ⟨rfl, rfl⟩

set_option maxHeartbeats 1000000 in
theorem decode_in (l : Bytes) (n : Nat) (w : World) (hT : Tabs w) (hl : l.length ≤ 4611686018427387904) (h : n < l.length) :
    Calls Tryd.prog 56 #[.string (S l), .int .i64 n] w fun e w' => e = .returned (.tuple #[.int .i32 (dec (l.drop n)).1, .int .i64 (dec (l.drop n)).2]) ∧ Below w.heap.size w w' := by
  have hne : l.drop n ≠ [] := fun e => by have := congrArg List.length e; simp at this; omega
  have hc := Tryd.utf8_DecodeRuneInString (S (l.drop n)) w hT.utf
  rw [decodeGo_S _ hne] at hc
  have HT := Lib.hid hT
  clear hT
  by_cases h0 : (dec (l.drop n)).2 = 0
  · have hz := dec_zero h0
    rw [if_pos h0] at hc
    rw [hz]
    have HC := Lib.hid hc
    clear hc h0 hz hne
    go_enter Tryd.func56, Tryd.ntmps56
    go_wp2_with (go_at_call 67; refine HC.out.mono ?_; rintro e w' ⟨rfl, hb⟩)
    go_ret2
    exact ⟨rfl, hb⟩
  · rw [if_neg h0] at hc
    have h1 := dec_one (l.drop n)
    generalize (dec (l.drop n)).1 = r at *
    generalize (dec (l.drop n)).2 = k at *
    have t : ((r : Int) == 65533) = false ∨ (((r : Int) == 65533) = true ∧ ((k : Int) == 1) = false) := by
      by_cases hr : r = 65533
      · right; subst hr; refine ⟨rfl, ?_⟩; rw [beq_eq_false_iff_ne]; intro hk; have := h1 (by omega); omega
      · left; rw [beq_eq_false_iff_ne]; omega
    have HC := Lib.hid hc
    clear hc h0 hne h1
    rcases t with t | ⟨t, t2⟩
    · go_enter Tryd.func56, Tryd.ntmps56
      go_wp2_with (go_at_call 67; refine HC.out.mono ?_; rintro e w' ⟨rfl, hb⟩)
      go_ret2
      exact ⟨rfl, hb⟩
    · go_enter Tryd.func56, Tryd.ntmps56
      go_wp2_with (go_at_call 67; refine HC.out.mono ?_; rintro e w' ⟨rfl, hb⟩)
      go_ret2
      exact ⟨rfl, hb⟩

theorem decode_any (l : Bytes) (n : Int) (w : World) (hT : Tabs w) (hl : l.length ≤ 4611686018427387904) :
    Calls Tryd.prog 56 #[.string (S l), .int .i64 n] w fun e w' => e = .returned (.tuple #[.int .i32 (decAt l n).1, .int .i64 (decAt l n).2]) ∧ Below w.heap.size w w' := by
  unfold decAt
  by_cases h : 0 ≤ n ∧ n < l.length
  · rw [if_pos h]
    obtain ⟨k, rfl⟩ := Int.eq_ofNat_of_zero_le h.1
    exact decode_in l k w hT hl (by omega)
  · rw [if_neg h]
    refine (decode_out l n w hl (by omega)).mono ?_
    rintro e w' ⟨rfl, rfl⟩
    exact ⟨rfl, Below.refl _ _⟩
theorem drop_ne {l : Bytes} {n : Nat} (h : n < l.length) : l.drop n ≠ [] := fun e => by have := congrArg List.length e; simp at this; omega
theorem ret_chk {a b a' b' : Nat} (h : (a', b') = (a, b)) : Ending.returned (.tuple #[.int .i64 a, .int .i64 b]) = .returned (.tuple #[.int .i64 a', .int .i64 b']) := by cases h; rfl

end Go.Proofs.YthlppbpccldikaaDoor
set_option linter.unusedVariables false
namespace Go.Proofs.YthlppbpccldikaaDoor
open Go.RowKit

theorem run_catJ {P : Program} (x y z : Bytes) (hz : z = x ++ y) (h : x.length + y.length ≤ 4611686018427387904) : ∀ W : World, (Op.stringOp .add (S x) (S y)).run P W = .ok (.string (S z)) W := fun W => by
  rw [run_string_add_sum W (S x) (S y) (by simp only [S, ByteArray.size, List.size_toArray]; omega), hz, S_append]
theorem ret_SJ {a b : Bytes} (h : a = b) : Ending.returned (.string (S a)) = .returned (.string (S b)) := by rw [h]
theorem qb_take {l : Bytes} {i : Nat} (h : i < l.length) : (l.take (i + 1)).flatMap escJ = (l.take i).flatMap escJ ++ escJ l[i] := by
  rw [List.take_succ_eq_append_getElem h, List.flatMap_append]; simp
theorem qb_len (l : Bytes) : (l.flatMap escJ).length ≤ 6 * l.length := by
  induction l with
  | nil => simp
  | cons c s ih => rw [List.flatMap_cons, List.length_append, List.length_cons]; have := (escJ_len c).2; omega
theorem escP_nil {c : UInt8} (h : escP c = []) : escJ c = [c] := by
  unfold escP at h
  split at h
  · have := (escJ_len c).1; rw [h] at this; simp at this
  · rename_i hn
    have h1 : c ≠ 34 := fun e => hn (.inl e)
    have h2 : c ≠ 92 := fun e => hn (.inr (.inl e))
    have h3 : ¬ c < 32 := fun e => hn (.inr (.inr e))
    unfold escJ
    rw [if_neg h1, if_neg h2, if_neg (fun e => h3 (by rw [e]; decide)), if_neg (fun e => h3 (by rw [e]; decide)), if_neg (fun e => h3 (by rw [e]; decide)), if_neg (fun e => h3 (by rw [e]; decide)), if_neg (fun e => h3 (by rw [e]; decide)), if_neg h3]
theorem escP_some {c : UInt8} (h : escP c ≠ []) : escP c = escJ c := by
  unfold escP at h ⊢
  split at h
  · rw [if_pos (by assumption)]
  · exact absurd rfl h
/-- What Quote returns. -/
def quoteB (l : Bytes) : Bytes := if utf8J l then jq l else []
def quoteE (l : Bytes) : Int := if utf8J l then 0 else 5

end Go.Proofs.YthlppbpccldikaaDoor
set_option linter.unusedVariables false
namespace Go.Proofs.YthlppbpccldikaaDoor
open Go.RowKit

/-- What a reader of strings returns: text, place, code. -/
def strT : Except (Nat × Nat) (Bytes × Nat) → Value
  | .error q => .tuple #[.string ByteArray.empty, .int .i64 q.1, .int .i64 q.2]
  | .ok p => .tuple #[.string (S p.1), .int .i64 p.2, .int .i64 0]
theorem ret_strT {R R' : Except (Nat × Nat) (Bytes × Nat)} (h : R = R') : Ending.returned (strT R') = Ending.returned (strT R) := by rw [h]
theorem enc_le4 (r : Nat) : (enc r).length ≤ 4 := by unfold enc; (repeat' split) <;> simp
end Go.Proofs.YthlppbpccldikaaDoor
set_option linter.unusedVariables false
namespace Go.Proofs.YthlppbpccldikaaDoor
open Go.RowKit

theorem runeCells_enc {r : Nat} (h : okRune r) : Lib.runeCells r = Lib.byteCells (enc r) := by
  have hx := h
  unfold okRune at hx
  unfold Lib.runeCells enc
  rw [if_neg (by simpa using h)]
  by_cases h1 : r < 128
  · rw [if_pos h1, Lib.encodeRuneZ_one (by omega) (by omega)]
    simp only [Lib.byteCells, List.map_cons, List.map_nil]
    rw [u8_of (by omega)]
  · rw [if_neg h1]
    by_cases h2 : r < 2048
    · rw [if_pos h2, Lib.encodeRuneZ_two (by omega) (by omega)]
      simp only [Lib.byteCells, List.map_cons, List.map_nil]
      rw [u8_of (by omega), u8_of (by omega)]
      simp
    · rw [if_neg h2]
      by_cases h3 : r < 65536
      · rw [if_pos h3, Lib.encodeRuneZ_three (by omega)]
        simp only [Lib.byteCells, List.map_cons, List.map_nil]
        rw [u8_of (by omega), u8_of (by omega), u8_of (by omega)]
        simp
      · rw [if_neg h3, Lib.encodeRuneZ_four (by omega) (by omega)]
        simp only [Lib.byteCells, List.map_cons, List.map_nil]
        rw [u8_of (by omega), u8_of (by omega), u8_of (by omega), u8_of (by omega)]
        simp

set_option maxHeartbeats 2000000 in
set_option maxRecDepth 100000 in
theorem writeRune_cells (B b : Nat) (bs : List Value) (r : Int) (hr0 : -2147483648 ≤ r) (hr1 : r ≤ 2147483647) (w : World) (h : Lib.IsBuilderF 63 5 B b bs w) (hlen : bs.length + 4 ≤ 140737488355328) (hBw : B ≤ w.heap.size) :
    Calls Tryd.prog 58 #[.pointer (some ⟨b, 0, none⟩), .int .i32 r] w fun e w' => (∃ k, e = .returned (.tuple #[k, .nilIface])) ∧ (Lib.BuilderAtF 63 5 B b (.pointer (some ⟨b, 0, none⟩)) (bs ++ Lib.runeCells r) w' ∧ Below B w w' ∧ Kept b w w') := by
  go_enter Tryd.func58, Tryd.ntmps58
  go_wp2_with (go_at_call 45; refine (copyCheck_any B b bs _ h).mono ?_)
  rintro e w1 ⟨rfl, h1, hb1, hk1⟩
  obtain ⟨hB, v, hbk, hown, hne⟩ := h1
  have hsz := hb1.size
  obtain ⟨ao, n1, c1, rfl⟩ : ∃ ao n1 c1, v = .slice ao n1 c1 := by
    rcases hown.2 with ⟨hv, _⟩ | ⟨g, cap, cur, fz, hv, _⟩
    · exact ⟨_, _, _, hv⟩
    · exact ⟨_, _, _, hv⟩
  have c0 : w1.cell? ⟨b, 0, none⟩ = some (.pointer (some ⟨b, 0, none⟩)) := by rw [Lib.cell_of_heap hbk]; rfl
  have c1' : w1.cell? ⟨b, 1, none⟩ = some (.slice ao n1 c1) := by rw [Lib.cell_of_heap hbk]; rfl
  go_wp2_with (go_at_call 69; refine (Tryd.utf8_AppendRune_row B _ _ _ r hr0 hr1 _ hown (by omega) (by omega)).mono ?_)
  rintro e w2 ⟨v', rfl, hown', o, hgrow⟩
  have hlt : b < w1.heap.size := by
    rcases Nat.lt_or_ge b w1.heap.size with h' | h'
    · exact h'
    · simp [Array.getElem?_eq_none h'] at hbk
  have hb2 : w2.heap[b]? = some (.cells #[.pointer (some ⟨b, 0, none⟩), .slice ao n1 c1] 63 (0, 0)) := by
    rw [hgrow.block b (by simp; omega) (fun e => hne e.symm), Lib.alloc_old w1 _ b hlt]
    exact hbk
  have d0 : w2.cell? ⟨b, 0, none⟩ = some (.pointer (some ⟨b, 0, none⟩)) := by rw [Lib.cell_of_heap hb2]; rfl
  have d1 : w2.cell? ⟨b, 1, none⟩ = some (.slice ao n1 c1) := by rw [Lib.cell_of_heap hb2]; rfl
  have f1 : w2.frozen? ⟨b, 1, none⟩ = false := Lib.frozen_of_heap hb2 1
  obtain ⟨ao', n2, c2, rfl⟩ : ∃ ao n' cap, v' = .slice ao n' cap := by
    rcases hown'.2 with ⟨hv, _⟩ | ⟨g, cap, cur, fz, hv, _⟩
    · exact ⟨_, _, _, hv⟩
    · exact ⟨_, _, _, hv⟩
  go_wp2
  go_ret2
  refine ⟨⟨_, rfl⟩, ?_, ?_, ((hk1.alloc o).grown hgrow (Lib.ownsRowF_kind (hown.alloc o))).setCell ⟨b, 1, none⟩ rfl _⟩
  · exact Lib.BuilderAtF.put (T := 63) (e := 5) hB hb2 (bs' := bs ++ Lib.runeCells r) (by simpa using hown') (by decide)
  · exact ((hb1.alloc (by omega) o).grown hgrow (by simp; omega) (fun k hk => (hown.lt k hk).1)).setCell (p := ⟨b, 1, none⟩) hB _
theorem writeRune_any (B b : Nat) (l : Bytes) (r : Nat) (hr : okRune r) (w : World) (h : Bld B b l w) (hlen : l.length + 4 ≤ 140737488355328) (hBw : B ≤ w.heap.size) :
    Calls Tryd.prog 58 #[.pointer (some ⟨b, 0, none⟩), .int .i32 r] w fun e w' => (∃ k, e = .returned (.tuple #[k, .nilIface])) ∧ Bld B b (l ++ enc r) w' ∧ Below B w w' ∧ Kept b w w' := by
  have hx := hr
  unfold okRune at hx
  refine (writeRune_cells B b (Lib.byteCells l) r (by omega) (by omega) w h (by rw [Lib.byteCells_length]; exact hlen) hBw).mono ?_
  rintro e w' ⟨hk, h1, h2, h3⟩
  refine ⟨hk, .inr ?_, h2, h3⟩
  rw [Lib.byteCells_append, ← runeCells_enc hr]; exact h1
end Go.Proofs.YthlppbpccldikaaDoor
set_option linter.unusedVariables false
namespace Go.Proofs.YthlppbpccldikaaDoor
open Go.RowKit

set_option maxHeartbeats 4000000 in
set_option maxRecDepth 100000 in
theorem jparse10_any (l : Bytes) (a : Nat) (w : World) (hT : Tabs w) (hl : l.length ≤ 1000000000) (ha2 : a ≤ 4611686018427387904) :
    Calls Tryd.prog 47 #[.string (S l), .int .i64 a] w fun e w' => e = .returned (strT (jstrAt l a)) ∧ Below w.heap.size w w' := by
  by_cases h1 : l.length ≤ a
  · have e : jstrAt l a = .error (a, 7) := by unfold jstrAt; rw [if_pos (.inl h1)]
    have h1' : (l.length : Int) ≤ a := by omega
    rw [e]
    clear e
    go_enter Tryd.func47, Tryd.ntmps47
    go_wp2_with fail
    go_step3
    go_wp2_with fail
    try rw [Exit.noGoto_ret]
    go_ret3
    exact ⟨rfl, Below.refl _ _⟩
  have ha : a < l.length := by omega
  have eg : l.getD a 0 = l[a] := by rw [List.getD_eq_getElem?_getD, List.getElem?_eq_getElem ha]; rfl
  by_cases h2 : l[a] = 34
  · have e : jstrAt l a = jstrS a 0 (l.drop (a + 1)) (a + 1) := by unfold jstrAt; rw [if_neg (by rw [eg, h2]; simp; omega)]
    have t2 : ((l[a].toNat : Int) != 34) = false := by rw [h2]; rfl
    rw [e]
    obtain ⟨R, hR⟩ : ∃ R, jstrS a 0 (l.drop (a + 1)) (a + 1) = R := ⟨_, rfl⟩
    rw [hR]
    have h0 : StrJ l a [] (a + 1) R := by
      unfold StrJ
      rw [hR]
      cases R <;> simp [Except.map]
    have H0 := Lib.hid h0
    have HT := Lib.hid hT
    have HB0 := Lib.hid (Bld.new w)
    clear h0 hR e eg h2 h1 hT
    go_enter Tryd.func47, Tryd.ntmps47
    go_wp2_with fail
    go_step3
    go_wp2_with fail
    go_step3
    go_wp2_with fail
    have d1 : decide (l.length ≤ a) = false := by simp; omega
    try simp only [d1, Bool.or_false]
    go_loopw [8] (fun i8 wr => ∃ (o : Bytes) (i : Nat), i ≤ l.length ∧ i8 = .int .i64 i ∧ o.length ≤ 4 * i ∧ StrJ l a o i R ∧ Bld w.heap.size w.heap.size o wr ∧ Below w.heap.size w wr) (fun i8 _ => l.length - (intOf i8).toNat)
    case atStart => exact ⟨[], a + 1, by omega, by go_num, by simp, H0.out, HB0.out, (Below.refl _ _).alloc (Nat.le_refl _) _⟩
    case round =>
      obtain ⟨o, i, hil, rfl, hol, hi, hbl, hb⟩ := hrel
      have HBL := Lib.hid hbl
      have HB := Lib.hid hb
      have hsz := hb.size
      have HI := Lib.hid hi
      clear hb hi hbl H0
      by_cases hlt : i < l.length
      · have hle := dec_le (l.drop i)
        have hd := decode_in l i wr (HT.out.next HB.out) (by omega) hlt
        have HD := Lib.hid hd
        clear hd
        obtain ⟨r, hr⟩ : ∃ r, (dec (l.drop i)).1 = r := ⟨_, rfl⟩
        obtain ⟨k, hk⟩ : ∃ k, (dec (l.drop i)).2 = k := ⟨_, rfl⟩
        rw [hr, hk] at HD
        have hle1 : i + k ≤ l.length := by have := hle.1; simp at this; omega
        have hk4 : k ≤ 4 := by have := hle.2; omega
        have hr2 : r ≤ 1114111 := by
          by_cases h0 : k = 0
          · rw [← hr, (dec_zero (by rw [hk]; exact h0))]
            decide
          · have := (dec_enc (l.drop i) (by rw [hk]; exact h0)).1
            rw [hr] at this
            unfold okRune at this
            omega
        clear hle
        have HR := Lib.hid hr
        have HK := Lib.hid hk
        clear hr hk
        by_cases h0 : k = 0
        · have hcc := HI.out.bad hlt (by rw [HK.out]; exact h0)
          have HCC := Lib.hid hcc
          subst h0
          clear hcc
          go_wp2_with (go_at_call 56; refine HD.out.mono ?_; rintro e w' ⟨rfl, hb⟩; have B1 := HB.out.trans (hb.mono hsz); have bl1 := HBL.out.below hb; have z1 := B1.size)
          try rw [Exit.noGoto_ret]
          go_ret3
          exact ⟨by rw [HCC.out]; rfl, B1⟩
        have t0 : ((k : Int) == 0) = false := by rw [beq_eq_false_iff_ne]; omega
        have hk1 : 1 ≤ k := by omega
        by_cases h3 : r < 32
        · have hcc := HI.out.ctl hlt (by rw [HK.out]; exact h0) (by rw [HR.out]; exact h3)
          have HCC := Lib.hid hcc
          clear hcc h0
          go_wp2_with (go_at_call 56; refine HD.out.mono ?_; rintro e w' ⟨rfl, hb⟩; have B1 := HB.out.trans (hb.mono hsz); have bl1 := HBL.out.below hb; have z1 := B1.size)
          try rw [Exit.noGoto_ret]
          go_ret3
          exact ⟨by rw [HCC.out]; rfl, B1⟩
        by_cases h4 : r = 34
        · have hcc := HI.out.quote hlt (by rw [HK.out]; exact h0) (by rw [HR.out]; exact h4)
          have HCC := Lib.hid hcc
          subst h4
          clear hcc h0 h3
          go_wp2_with (first | (go_at_call 56; refine HD.out.mono ?_; rintro e w' ⟨rfl, hb⟩; have B1 := HB.out.trans (hb.mono hsz); have bl1 := HBL.out.below hb; have z1 := B1.size) | (go_at_call 31; refine (builderString_any w.heap.size w.heap.size _ _ bl1 z1).mono ?_; rintro e w3 ⟨rfl, hb3, hbel3, _⟩))
          try rw [Exit.noGoto_ret]
          go_ret3
          exact ⟨by rw [HCC.out]; rfl, B1.trans hbel3⟩
        have t4 : ((r : Int) == 34) = false := by rw [beq_eq_false_iff_ne]; omega
        by_cases h5 : r = 92
        · subst h5
          by_cases h6 : i + 1 = l.length
          · have hcc := HI.out.last h6 (by rw [HK.out]; exact h0) HR.out
            have HCC := Lib.hid hcc
            have t6 : (((i : Int) + 1) == (l.length : Int)) = true := by rw [beq_iff_eq]; omega
            clear hcc h0 h3 h4 h6
            go_wp2_with (go_at_call 56; refine HD.out.mono ?_; rintro e w' ⟨rfl, hb⟩; have B1 := HB.out.trans (hb.mono hsz); have bl1 := HBL.out.below hb; have z1 := B1.size)
            try rw [Exit.noGoto_ret]
            go_ret3
            exact ⟨by rw [HCC.out]; rfl, B1⟩
          · have t6 : (((i : Int) + 1) == (l.length : Int)) = false := by rw [beq_eq_false_iff_ne]; omega
            have h7 : i + 1 < l.length := by omega
            have hs := fun W (hW : Below w.heap.size w W) => seq10_any (l.drop i) W (HT.out.next hW) (by rw [List.length_drop]; omega) (by rw [List.length_drop]; omega)
            cases hq : seqJ (l.drop i) with
            | none =>
              rw [hq] at hs
              have HS := Lib.hid hs
              have hcc := HI.out.noseq h7 (by rw [HK.out]; exact h0) HR.out hq
              have HCC := Lib.hid hcc
              clear hcc h0 h3 h4 h6 hs hq
              go_wp2_with (first | (go_at_call 56; refine HD.out.mono ?_; rintro e w' ⟨rfl, hb⟩; have B1 := HB.out.trans (hb.mono hsz); have bl1 := HBL.out.below hb; have z1 := B1.size) | (go_at_call 57; refine (HS.out _ B1).mono ?_; rintro e w2 ⟨rfl, hb2⟩; simp only [seqI]; have B2 := B1.trans (hb2.mono z1); have bl2 := bl1.below hb2; have z2 := B2.size))
              try rw [Exit.noGoto_ret]
              go_ret3
              exact ⟨by rw [HCC.out]; rfl, B2⟩
            | some p =>
              obtain ⟨q, m⟩ := p
              rw [hq] at hs
              have HS := Lib.hid hs
              have hm := seqJ_ok (by rw [List.length_drop]; omega) hq
              rw [List.length_drop] at hm
              have hcc := HI.out.seq h7 (by rw [HK.out]; exact h0) HR.out hq
              have HCC := Lib.hid hcc
              have hel := enc_le4 q
              have hok := hm.1
              have HOK := Lib.hid hok
              have hm1 : 2 ≤ m := hm.2.1
              have hm2 : i + m ≤ l.length := by omega
              have hm3 : ((m : Int) == 0) = false := by rw [beq_eq_false_iff_ne]; omega
              have hll : (o ++ enc q).length ≤ 4 * (i + m) := by rw [List.length_append]; omega
              have HLL := Lib.hid hll
              have hlen : o.length + 4 ≤ 140737488355328 := by omega
              clear hcc h0 h3 h4 h6 hs hq hm hll hok
              go_wp2_with (first | (go_at_call 56; refine HD.out.mono ?_; rintro e w' ⟨rfl, hb⟩; have B1 := HB.out.trans (hb.mono hsz); have bl1 := HBL.out.below hb; have z1 := B1.size) | (go_at_call 57; refine (HS.out _ B1).mono ?_; rintro e w2 ⟨rfl, hb2⟩; simp only [seqI]; have B2 := B1.trans (hb2.mono z1); have bl2 := bl1.below hb2; have z2 := B2.size) | (go_at_call 58; refine (writeRune_any w.heap.size w.heap.size o q HOK.out _ bl2 hlen z2).mono ?_; rintro e2 w3 ⟨⟨kk, rfl⟩, hb3, hbel3, _⟩))
              go_roundw
              case rel => exact ⟨o ++ enc q, i + m, by omega, by go_num, HLL.out, HCC.out, hb3, B2.trans hbel3⟩
              case measure => simp [intOf]; omega
        · have t5 : ((r : Int) == 92) = false := by rw [beq_eq_false_iff_ne]; omega
          have hcc := HI.out.rune hlt (by rw [HK.out]; exact h0) (by rw [HR.out]; exact h3) (by rw [HR.out]; exact h4) (by rw [HR.out]; exact h5)
          rw [HR.out, HK.out] at hcc
          have HCC := Lib.hid hcc
          have hel := enc_le4 r
          have hok : okRune r := by rw [← HR.out]; exact (dec_enc (l.drop i) (by rw [HK.out]; exact h0)).1
          have HOK := Lib.hid hok
          have hll : (o ++ enc r).length ≤ 4 * (i + k) := by rw [List.length_append]; omega
          have HLL := Lib.hid hll
          have hlen : o.length + 4 ≤ 140737488355328 := by omega
          clear hcc h0 h4 h5 hll hok
          go_wp2_with (first | (go_at_call 56; refine HD.out.mono ?_; rintro e w' ⟨rfl, hb⟩; have B1 := HB.out.trans (hb.mono hsz); have bl1 := HBL.out.below hb; have z1 := B1.size) | (go_at_call 58; refine (writeRune_any w.heap.size w.heap.size o r HOK.out _ bl1 hlen z1).mono ?_; rintro e2 w3 ⟨⟨kk, rfl⟩, hb3, hbel3, _⟩))
          go_roundw
          case rel => exact ⟨o ++ enc r, i + k, by omega, by go_num, HLL.out, HCC.out, hb3, B1.trans hbel3⟩
          case measure => simp [intOf]; omega
      · have hcc := HI.out.end_ (by omega)
        have HCC := Lib.hid hcc
        clear hcc
        obtain rfl : i = l.length := by omega
        go_wp2
        try rw [Exit.noGoto_ret]
        go_ret3
        exact ⟨by rw [HCC.out]; rfl, HB.out⟩
  · have e : jstrAt l a = .error (a, 7) := by unfold jstrAt; rw [if_pos (.inr (by rw [eg]; exact h2))]
    have t2 : ((l[a].toNat : Int) != 34) = true := by
      rw [bne_iff_ne]
      intro q
      exact h2 (UInt8.toNat_inj.mp (by simpa using Int.ofNat_inj.mp q))
    rw [e]
    clear e eg h2 h1
    go_enter Tryd.func47, Tryd.ntmps47
    go_wp2_with fail
    go_step3
    go_wp2_with fail
    try rw [Exit.noGoto_ret]
    go_ret3
    exact ⟨rfl, Below.refl _ _⟩
end Go.Proofs.YthlppbpccldikaaDoor
set_option linter.unusedVariables false
namespace Go.Proofs.YthlppbpccldikaaDoor

/-- A byte that may occur in a number. -/
def isNumB (c : UInt8) : Bool := isDg c || c == 43 || c == 45 || c == 46 || c == 101 || c == 69
/-- The number that a string stands for. -/
def numJ (x : Bytes) : Option Int :=
  if x.head? = some 45 then
    (if x.drop 1 ≠ [] ∧ (x.drop 1).length ≤ 19 ∧ (x.drop 1).all isDg = true ∧ ¬ (1 < (x.drop 1).length ∧ (x.drop 1).head? = some 48) ∧ dvalJ (x.drop 1) ≤ 9223372036854775808 then some (-(dvalJ (x.drop 1) : Int)) else none)
  else (if x ≠ [] ∧ x.length ≤ 19 ∧ x.all isDg = true ∧ ¬ (1 < x.length ∧ x.head? = some 48) ∧ dvalJ x < 9223372036854775808 then some (dvalJ x : Int) else none)
def wrongJ (l : Bytes) (a : Nat) : Nat × Nat := if l.length ≤ a then (l.length, 8) else (a, 7)
def sNull : Bytes := [110, 117, 108, 108]
def sTrue : Bytes := [116, 114, 117, 101]
def sFalse : Bytes := [102, 97, 108, 115, 101]
def wordJ (l : Bytes) (a : Nat) (s : Bytes) (v : JV) : Except (Nat × Nat) (JV × Nat) := if hasAt l a s = true then .ok (v, a + s.length) else .error (a, 7)
def numEnd (l : Bytes) (a : Nat) : Nat := a + run isNumB (l.drop a)
def numAt (l : Bytes) (a : Nat) : Except (Nat × Nat) (JV × Nat) :=
  match numJ ((l.drop a).take (run isNumB (l.drop a))) with
  | none => .error (a, 15)
  | some n => .ok (.mk 2 false n [] [] [] a, numEnd l a)
def strJ (l : Bytes) (a : Nat) : Except (Nat × Nat) (JV × Nat) := (jstrAt l a).map fun p => (.mk 3 false 0 p.1 [] [] a, p.2)
/-- A key and its colon: the key, and the place behind the colon. -/
def keyAt (l : Bytes) (a : Nat) (ms : List JM) : Except (Nat × Nat) (Bytes × Nat) :=
  if l.length ≤ a ∨ l.getD a 0 ≠ 34 then .error (wrongJ l a)
  else match jstrAt l a with
    | .error q => .error q
    | .ok (k, e) =>
      if ms.any (fun m => m.key == k) = true then .error (a, 10)
      else if hasAt l (spEnd l e) [58] = true then .ok (k, spEnd l e + 1)
      else .error (wrongJ l (spEnd l e))
mutual
/-- A value at a place, within d - 1 others. -/
def pvV (l : Bytes) : Nat → Nat → Nat → Except (Nat × Nat) (JV × Nat)
  | 0, _, _ => .error (0, 0)
  | f + 1, d, n =>
    if l.length ≤ spEnd l n then .error (l.length, 8)
    else if l.getD (spEnd l n) 0 = 110 then wordJ l (spEnd l n) sNull (.mk 0 false 0 [] [] [] (spEnd l n))
    else if l.getD (spEnd l n) 0 = 116 then wordJ l (spEnd l n) sTrue (.mk 1 true 0 [] [] [] (spEnd l n))
    else if l.getD (spEnd l n) 0 = 102 then wordJ l (spEnd l n) sFalse (.mk 1 false 0 [] [] [] (spEnd l n))
    else if l.getD (spEnd l n) 0 = 34 then strJ l (spEnd l n)
    else if l.getD (spEnd l n) 0 = 91 then
      if 100 < d then .error (spEnd l n, 9)
      else if hasAt l (spEnd l (spEnd l n + 1)) [93] = true then .ok (.mk 4 false 0 [] [] [] (spEnd l n), spEnd l (spEnd l n + 1) + 1)
      else match pvI l f d (spEnd l (spEnd l n + 1)) [] with
        | .error q => .error q
        | .ok (its, e) => .ok (.mk 4 false 0 [] its [] (spEnd l n), e)
    else if l.getD (spEnd l n) 0 = 123 then
      if 100 < d then .error (spEnd l n, 9)
      else if hasAt l (spEnd l (spEnd l n + 1)) [125] = true then .ok (.mk 5 false 0 [] [] [] (spEnd l n), spEnd l (spEnd l n + 1) + 1)
      else match pvM l f d (spEnd l (spEnd l n + 1)) [] with
        | .error q => .error q
        | .ok (ms, e) => .ok (.mk 5 false 0 [] [] ms (spEnd l n), e)
    else if l.getD (spEnd l n) 0 = 45 ∨ isDg (l.getD (spEnd l n) 0) = true then numAt l (spEnd l n)
    else .error (spEnd l n, 7)
/-- Items from a place on. -/
def pvI (l : Bytes) : Nat → Nat → Nat → List JV → Except (Nat × Nat) (List JV × Nat)
  | 0, _, _, _ => .error (0, 0)
  | f + 1, d, n, its =>
    match pvV l f (d + 1) n with
    | .error q => .error q
    | .ok (v, e) =>
      if hasAt l (spEnd l e) [93] = true then .ok (its ++ [v], spEnd l e + 1)
      else if hasAt l (spEnd l e) [44] = true then pvI l f d (spEnd l e + 1) (its ++ [v])
      else .error (wrongJ l (spEnd l e))
/-- Members from a place on. -/
def pvM (l : Bytes) : Nat → Nat → Nat → List JM → Except (Nat × Nat) (List JM × Nat)
  | 0, _, _, _ => .error (0, 0)
  | f + 1, d, n, ms =>
    match keyAt l (spEnd l n) ms with
    | .error q => .error q
    | .ok (k, a) =>
      match pvV l f (d + 1) a with
      | .error q => .error q
      | .ok (v, e) =>
        if hasAt l (spEnd l e) [125] = true then .ok (ms ++ [.mk k v (spEnd l n)], spEnd l e + 1)
        else if hasAt l (spEnd l e) [44] = true then pvM l f d (spEnd l e + 1) (ms ++ [.mk k v (spEnd l n)])
        else .error (wrongJ l (spEnd l e))
end
def zJV : JV := .mk 0 false 0 [] [] [] 0
def sBomJ : Bytes := [239, 187, 191]
def startJ (l : Bytes) : Nat := if hasAt l 0 sBomJ = true then 3 else 0
/-- What Parse returns. -/
def parseJ (l : Bytes) : Except (Nat × Nat) JV :=
  match pvV l (2 * l.length + 2) 1 (startJ l) with
  | .error q => .error q
  | .ok (v, e) => if spEnd l e < l.length then .error (spEnd l e, 17) else .ok v

/-! How far values reach. -/
theorem hasAt_in {l : Bytes} {n : Nat} {c : UInt8} (h : hasAt l n [c] = true) : n < l.length := by
  have := hasAt_le h
  simp at this; omega
theorem numEnd_le {l : Bytes} {a : Nat} (h : a ≤ l.length) : a ≤ numEnd l a ∧ numEnd l a ≤ l.length := by
  have := run_le isNumB (l.drop a)
  rw [List.length_drop] at this
  unfold numEnd; omega
theorem keyAt_ok {l : Bytes} {a : Nat} {ms : List JM} {k : Bytes} {e : Nat} (h : keyAt l a ms = .ok (k, e)) : a < e ∧ e ≤ l.length ∧ k.length ≤ 4 * l.length ∧ ms.any (fun m => m.key == k) = false := by
  unfold keyAt at h
  split at h
  · cases h
  · cases hs : jstrAt l a with
    | error q => rw [hs] at h; cases h
    | ok p =>
      obtain ⟨k', e'⟩ := p
      rw [hs] at h
      have h1 := jstrAt_ok hs
      simp only at h
      split at h
      · cases h
      · rename_i hd
        split at h
        · rename_i hc
          cases h
          have := hasAt_in hc
          have := spEnd_ge l e'
          exact ⟨by omega, by omega, h1.2.2, by simpa using hd⟩
        · cases h
mutual
theorem pvV_ok {l : Bytes} : ∀ {f d n : Nat} {v : JV} {e : Nat}, n ≤ l.length → pvV l f d n = .ok (v, e) → n < e ∧ e ≤ l.length
  | 0, _, _, _, _, _, h => by rw [pvV] at h; cases h
  | f + 1, d, n, v, e, hn, h => by
    rw [pvV] at h
    have g1 := spEnd_ge l n
    by_cases h0 : l.length ≤ spEnd l n
    · rw [if_pos h0] at h; cases h
    rw [if_neg h0] at h
    have wd : ∀ s u, s ≠ [] → wordJ l (spEnd l n) s u = .ok (v, e) → n < e ∧ e ≤ l.length := by
      intro s u hs hw
      unfold wordJ at hw
      split at hw
      · rename_i hh
        cases hw
        rcases hasAt_le hh with h2 | h2
        · have := List.length_pos_iff.2 hs; omega
        · exact absurd h2 hs
      · cases hw
    by_cases h1 : l.getD (spEnd l n) 0 = 110
    · rw [if_pos h1] at h; exact wd _ _ (by decide) h
    rw [if_neg h1] at h
    by_cases h2 : l.getD (spEnd l n) 0 = 116
    · rw [if_pos h2] at h; exact wd _ _ (by decide) h
    rw [if_neg h2] at h
    by_cases h3 : l.getD (spEnd l n) 0 = 102
    · rw [if_pos h3] at h; exact wd _ _ (by decide) h
    rw [if_neg h3] at h
    by_cases h4 : l.getD (spEnd l n) 0 = 34
    · rw [if_pos h4] at h
      unfold strJ at h
      cases hs : jstrAt l (spEnd l n) with
      | error q => rw [hs] at h; cases h
      | ok p =>
        rw [hs] at h
        cases h
        have := jstrAt_ok (s := p.1) (e := p.2) hs
        exact ⟨by omega, this.2.1⟩
    rw [if_neg h4] at h
    by_cases h5 : l.getD (spEnd l n) 0 = 91
    · rw [if_pos h5] at h
      have g2 := spEnd_ge l (spEnd l n + 1)
      have g3 := spEnd_le (l := l) (n := spEnd l n + 1) (by omega)
      split at h
      · cases h
      · split at h
        · rename_i hc
          cases h
          have := hasAt_in hc
          omega
        · cases hi : pvI l f d (spEnd l (spEnd l n + 1)) [] with
          | error q => rw [hi] at h; cases h
          | ok p =>
            obtain ⟨its, e'⟩ := p
            rw [hi] at h
            cases h
            have := pvI_ok g3 hi
            omega
    rw [if_neg h5] at h
    by_cases h6 : l.getD (spEnd l n) 0 = 123
    · rw [if_pos h6] at h
      have g2 := spEnd_ge l (spEnd l n + 1)
      have g3 := spEnd_le (l := l) (n := spEnd l n + 1) (by omega)
      split at h
      · cases h
      · split at h
        · rename_i hc
          cases h
          have := hasAt_in hc
          omega
        · cases hi : pvM l f d (spEnd l (spEnd l n + 1)) [] with
          | error q => rw [hi] at h; cases h
          | ok p =>
            obtain ⟨ms, e'⟩ := p
            rw [hi] at h
            cases h
            have := pvM_ok g3 hi
            omega
    rw [if_neg h6] at h
    split at h
    · rename_i h7
      unfold numAt at h
      cases hq : numJ ((l.drop (spEnd l n)).take (run isNumB (l.drop (spEnd l n)))) with
      | none => rw [hq] at h; cases h
      | some x =>
        rw [hq] at h
        cases h
        have hlt : spEnd l n < l.length := by omega
        have hb : isNumB l[spEnd l n] = true := by
          rw [List.getD_eq_getElem?_getD, List.getElem?_eq_getElem hlt, Option.getD_some] at h7
          unfold isNumB
          rcases h7 with h7 | h7
          · rw [h7]; decide
          · rw [h7]; rfl
        have := run_yes hlt hb
        have := run_le isNumB (l.drop (spEnd l n + 1))
        rw [List.length_drop] at this
        unfold numEnd; omega
    · cases h
theorem pvI_ok {l : Bytes} : ∀ {f d n : Nat} {its js : List JV} {e : Nat}, n ≤ l.length → pvI l f d n its = .ok (js, e) → n < e ∧ e ≤ l.length
  | 0, _, _, _, _, _, _, h => by rw [pvI] at h; cases h
  | f + 1, d, n, its, js, e, hn, h => by
    rw [pvI] at h
    cases hv : pvV l f (d + 1) n with
    | error q => rw [hv] at h; cases h
    | ok p =>
      obtain ⟨v, e1⟩ := p
      rw [hv] at h
      have h1 := pvV_ok hn hv
      have h2 := spEnd_ge l e1
      simp only at h
      split at h
      · rename_i hc
        cases h
        have := hasAt_in hc
        omega
      · split at h
        · rename_i hc
          have := hasAt_in hc
          have := pvI_ok (by omega) h
          omega
        · cases h
theorem pvM_ok {l : Bytes} : ∀ {f d n : Nat} {ms ns : List JM} {e : Nat}, n ≤ l.length → pvM l f d n ms = .ok (ns, e) → n < e ∧ e ≤ l.length
  | 0, _, _, _, _, _, _, h => by rw [pvM] at h; cases h
  | f + 1, d, n, ms, ns, e, hn, h => by
    rw [pvM] at h
    have g1 := spEnd_ge l n
    cases hk : keyAt l (spEnd l n) ms with
    | error q => rw [hk] at h; cases h
    | ok p =>
      obtain ⟨k, a⟩ := p
      rw [hk] at h
      have h0 := keyAt_ok hk
      simp only at h
      cases hv : pvV l f (d + 1) a with
      | error q => rw [hv] at h; cases h
      | ok p =>
        obtain ⟨v, e1⟩ := p
        rw [hv] at h
        have h1 := pvV_ok h0.2.1 hv
        have h2 := spEnd_ge l e1
        simp only at h
        split at h
        · rename_i hc
          cases h
          have := hasAt_in hc
          omega
        · split at h
          · rename_i hc
            have := hasAt_in hc
            have := pvM_ok (by omega) h
            omega
          · cases h
end

/-! Enough fuel; errors. -/
mutual
theorem pvV_fuel {l : Bytes} : ∀ {f g d n : Nat}, n ≤ l.length → 2 * (l.length - n) + 1 ≤ f → 2 * (l.length - n) + 1 ≤ g → pvV l f d n = pvV l g d n
  | 0, _, _, n, hn, hf, _ => by omega
  | f + 1, 0, _, n, hn, _, hg => by omega
  | f + 1, g + 1, d, n, hn, hf, hg => by
    rw [pvV, pvV]
    have g1 := spEnd_ge l n
    by_cases h0 : l.length ≤ spEnd l n
    · rw [if_pos h0, if_pos h0]
    have g2 := spEnd_ge l (spEnd l n + 1)
    have g3 := spEnd_le (l := l) (n := spEnd l n + 1) (by omega)
    rw [pvI_fuel (f := f) (g := g) g3 (by omega) (by omega), pvM_fuel (f := f) (g := g) g3 (by omega) (by omega)]
theorem pvI_fuel {l : Bytes} : ∀ {f g d n : Nat} {its : List JV}, n ≤ l.length → 2 * (l.length - n) + 2 ≤ f → 2 * (l.length - n) + 2 ≤ g → pvI l f d n its = pvI l g d n its
  | 0, _, _, n, _, hn, hf, _ => by omega
  | f + 1, 0, _, n, _, hn, _, hg => by omega
  | f + 1, g + 1, d, n, its, hn, hf, hg => by
    rw [pvI, pvI, pvV_fuel (f := f) (g := g) hn (by omega) (by omega)]
    cases hv : pvV l g (d + 1) n with
    | error q => rfl
    | ok p =>
      obtain ⟨v, e⟩ := p
      have h1 := pvV_ok hn hv
      have h2 := spEnd_ge l e
      simp only
      split
      · rfl
      · split
        · rename_i hc
          have := hasAt_in hc
          exact pvI_fuel (by omega) (by omega) (by omega)
        · rfl
theorem pvM_fuel {l : Bytes} : ∀ {f g d n : Nat} {ms : List JM}, n ≤ l.length → 2 * (l.length - n) + 2 ≤ f → 2 * (l.length - n) + 2 ≤ g → pvM l f d n ms = pvM l g d n ms
  | 0, _, _, n, _, hn, hf, _ => by omega
  | f + 1, 0, _, n, _, hn, _, hg => by omega
  | f + 1, g + 1, d, n, ms, hn, hf, hg => by
    rw [pvM, pvM]
    have g1 := spEnd_ge l n
    cases hk : keyAt l (spEnd l n) ms with
    | error q => rfl
    | ok p =>
      obtain ⟨k, a⟩ := p
      have h0 := keyAt_ok hk
      simp only
      rw [pvV_fuel (f := f) (g := g) h0.2.1 (by omega) (by omega)]
      cases hv : pvV l g (d + 1) a with
      | error q => rfl
      | ok p =>
        obtain ⟨v, e⟩ := p
        have h1 := pvV_ok h0.2.1 hv
        have h2 := spEnd_ge l e
        simp only
        split
        · rfl
        · split
          · rename_i hc
            have := hasAt_in hc
            exact pvM_fuel (by omega) (by omega) (by omega)
          · rfl
end
theorem wrongJ_le (l : Bytes) (a : Nat) : (wrongJ l a).1 ≤ l.length ∧ (wrongJ l a).2 ≠ 0 := by
  unfold wrongJ
  split
  · simp
  · exact ⟨by simp only; omega, by simp⟩
theorem keyAt_err {l : Bytes} {a : Nat} {ms : List JM} {q : Nat × Nat} (ha : a ≤ l.length) (h : keyAt l a ms = .error q) : q.1 ≤ l.length ∧ q.2 ≠ 0 := by
  unfold keyAt at h
  split at h
  · cases h; exact wrongJ_le l a
  · cases hs : jstrAt l a with
    | error q' => rw [hs] at h; cases h; exact jstrAt_err ha hs
    | ok p =>
      obtain ⟨k', e'⟩ := p
      rw [hs] at h
      simp only at h
      split at h
      · cases h; exact ⟨ha, by simp⟩
      · split at h
        · cases h
        · cases h; exact wrongJ_le l _
mutual
theorem pvV_err {l : Bytes} : ∀ {f d n : Nat} {q : Nat × Nat}, n ≤ l.length → 2 * (l.length - n) + 1 ≤ f → pvV l f d n = .error q → q.1 ≤ l.length ∧ q.2 ≠ 0
  | 0, _, n, _, hn, hf, _ => by omega
  | f + 1, d, n, q, hn, hf, h => by
    rw [pvV] at h
    have g1 := spEnd_ge l n
    by_cases h0 : l.length ≤ spEnd l n
    · rw [if_pos h0] at h; cases h; simp
    rw [if_neg h0] at h
    have g2 := spEnd_ge l (spEnd l n + 1)
    have g3 := spEnd_le (l := l) (n := spEnd l n + 1) (by omega)
    have wd : ∀ s u, wordJ l (spEnd l n) s u = .error q → q.1 ≤ l.length ∧ q.2 ≠ 0 := by
      intro s u hw
      unfold wordJ at hw
      split at hw
      · cases hw
      · cases hw; exact ⟨by simp only; omega, by simp⟩
    by_cases h1 : l.getD (spEnd l n) 0 = 110
    · rw [if_pos h1] at h; exact wd _ _ h
    rw [if_neg h1] at h
    by_cases h2 : l.getD (spEnd l n) 0 = 116
    · rw [if_pos h2] at h; exact wd _ _ h
    rw [if_neg h2] at h
    by_cases h3 : l.getD (spEnd l n) 0 = 102
    · rw [if_pos h3] at h; exact wd _ _ h
    rw [if_neg h3] at h
    by_cases h4 : l.getD (spEnd l n) 0 = 34
    · rw [if_pos h4] at h
      unfold strJ at h
      cases hs : jstrAt l (spEnd l n) with
      | error q' => rw [hs] at h; cases h; exact jstrAt_err (by omega) hs
      | ok p => rw [hs] at h; cases h
    rw [if_neg h4] at h
    by_cases h5 : l.getD (spEnd l n) 0 = 91
    · rw [if_pos h5] at h
      split at h
      · cases h; exact ⟨by simp only; omega, by simp⟩
      · split at h
        · cases h
        · cases hi : pvI l f d (spEnd l (spEnd l n + 1)) [] with
          | error q' => rw [hi] at h; cases h; exact pvI_err g3 (by omega) hi
          | ok p => rw [hi] at h; cases h
    rw [if_neg h5] at h
    by_cases h6 : l.getD (spEnd l n) 0 = 123
    · rw [if_pos h6] at h
      split at h
      · cases h; exact ⟨by simp only; omega, by simp⟩
      · split at h
        · cases h
        · cases hi : pvM l f d (spEnd l (spEnd l n + 1)) [] with
          | error q' => rw [hi] at h; cases h; exact pvM_err g3 (by omega) hi
          | ok p => rw [hi] at h; cases h
    rw [if_neg h6] at h
    split at h
    · unfold numAt at h
      cases hq : numJ ((l.drop (spEnd l n)).take (run isNumB (l.drop (spEnd l n)))) with
      | none => rw [hq] at h; cases h; exact ⟨by simp only; omega, by simp⟩
      | some x => rw [hq] at h; cases h
    · cases h; exact ⟨by simp only; omega, by simp⟩
theorem pvI_err {l : Bytes} : ∀ {f d n : Nat} {its : List JV} {q : Nat × Nat}, n ≤ l.length → 2 * (l.length - n) + 2 ≤ f → pvI l f d n its = .error q → q.1 ≤ l.length ∧ q.2 ≠ 0
  | 0, _, n, _, _, hn, hf, _ => by omega
  | f + 1, d, n, its, q, hn, hf, h => by
    rw [pvI] at h
    cases hv : pvV l f (d + 1) n with
    | error q' => rw [hv] at h; cases h; exact pvV_err hn (by omega) hv
    | ok p =>
      obtain ⟨v, e⟩ := p
      rw [hv] at h
      have h1 := pvV_ok hn hv
      have h2 := spEnd_ge l e
      simp only at h
      split at h
      · cases h
      · split at h
        · rename_i hc
          have := hasAt_in hc
          exact pvI_err (by omega) (by omega) h
        · cases h; exact wrongJ_le l _
theorem pvM_err {l : Bytes} : ∀ {f d n : Nat} {ms : List JM} {q : Nat × Nat}, n ≤ l.length → 2 * (l.length - n) + 2 ≤ f → pvM l f d n ms = .error q → q.1 ≤ l.length ∧ q.2 ≠ 0
  | 0, _, n, _, _, hn, hf, _ => by omega
  | f + 1, d, n, ms, q, hn, hf, h => by
    rw [pvM] at h
    have g1 := spEnd_ge l n
    have g2 := spEnd_le hn
    cases hk : keyAt l (spEnd l n) ms with
    | error q' => rw [hk] at h; cases h; exact keyAt_err g2 hk
    | ok p =>
      obtain ⟨k, a⟩ := p
      rw [hk] at h
      have h0 := keyAt_ok hk
      simp only at h
      cases hv : pvV l f (d + 1) a with
      | error q' => rw [hv] at h; cases h; exact pvV_err h0.2.1 (by omega) hv
      | ok p =>
        obtain ⟨v, e⟩ := p
        rw [hv] at h
        have h1 := pvV_ok h0.2.1 hv
        have h2 := spEnd_ge l e
        simp only at h
        split at h
        · cases h
        · split at h
          · rename_i hc
            have := hasAt_in hc
            exact pvM_err (by omega) (by omega) h
          · cases h; exact wrongJ_le l _
end
theorem startJ_le {l : Bytes} : startJ l ≤ l.length := by
  unfold startJ
  split
  · rename_i h
    have := hasAt_le h
    simp [sBomJ] at this; omega
  · omega
theorem parseJ_err {l : Bytes} {q : Nat × Nat} (h : parseJ l = .error q) : q.1 ≤ l.length ∧ q.2 ≠ 0 := by
  unfold parseJ at h
  cases hv : pvV l (2 * l.length + 2) 1 (startJ l) with
  | error q' => rw [hv] at h; cases h; exact pvV_err startJ_le (by omega) hv
  | ok p =>
    obtain ⟨v, e⟩ := p
    rw [hv] at h
    simp only at h
    split at h
    · cases h; exact ⟨by simp only; omega, by simp⟩
    · cases h
end Go.Proofs.YthlppbpccldikaaDoor
set_option linter.unusedVariables false
namespace Go.Proofs.YthlppbpccldikaaDoor
open Go.RowKit

/-- The parser's block: the text, the place, the depth. -/
def Psr (w : World) (b : Nat) (l : Bytes) (n d : Int) : Prop :=
  w.heap[b]? = some (.cells #[.string (S l), .int .i64 n, .int .i64 d] 54 (0, 0))
section
variable {w w' : World} {b : Nat} {l : Bytes} {n d : Int}
theorem Psr.lt (h : Psr w b l n d) : b < w.heap.size := heap_lt h
theorem Psr.c0 (h : Psr w b l n d) : w.cell? ⟨b, 0, none⟩ = some (.string (S l)) := by rw [Lib.cell_of_heap h]; rfl
theorem Psr.c1 (h : Psr w b l n d) : w.cell? ⟨b, 1, none⟩ = some (.int .i64 n) := by rw [Lib.cell_of_heap h]; rfl
theorem Psr.c2 (h : Psr w b l n d) : w.cell? ⟨b, 2, none⟩ = some (.int .i64 d) := by rw [Lib.cell_of_heap h]; rfl
theorem Psr.free (h : Psr w b l n d) (i : Nat) : w.frozen? ⟨b, i, none⟩ = false := Lib.frozen_of_heap h i
theorem Psr.below (h : Psr w b l n d) (hb : Below w.heap.size w w') : Psr w' b l n d := (hb.block b h.lt).trans h
theorem Psr.drewN (h : Psr w b l n d) (k : Nat) : Psr (w.drewN k) b l n d := h
theorem Psr.move (h : Psr w b l n d) (m : Int) : Psr (w.setCell ⟨b, 1, none⟩ (.int .i64 m)) b l m d := by
  have := heap_set (i := 1) h (.int .i64 m)
  exact this
theorem Psr.deep (h : Psr w b l n d) (m : Int) : Psr (w.setCell ⟨b, 2, none⟩ (.int .i64 m)) b l n m := by
  have := heap_set (i := 2) h (.int .i64 m)
  exact this
end
theorem updDrewN (w : World) (k b : Nat) : Upd b w (w.drewN k) := ⟨rfl, rfl, rfl, Nat.le_refl _, fun _ _ _ => rfl⟩
theorem isSpace11_any (c : UInt8) (w : World) : Calls Tryd.prog 42 #[.int .u8 c.toNat] w fun e w' => e = .returned (.bool (isSp c)) ∧ w = w' := by
  have hc := u8_lt c
  go_enter Tryd.func42, Tryd.ntmps42
  go_wp2
  all_goals go_ret
  all_goals exact ⟨ret_bool (by unfold isSp; rw [Bool.eq_iff_iff]; simp <;> omega), rfl⟩
theorem quiet_drewnJ {P : Program} {f : FuncId} {args : Array Value} {w : World} {n : Nat} {v : Value} (h : ∀ W, Calls P f args W fun e w' => e = .returned v ∧ W = w') :
    Calls P f args (w.drewN n) fun e w'' => e = .returned v ∧ ∃ m, w'' = w.drewN m := (h _).mono fun _ _ ⟨he, hm⟩ => ⟨he, n, hm.symm⟩
set_option maxHeartbeats 2000000 in
theorem psrSpaces_any (b : Nat) (l : Bytes) (n : Nat) (d : Int) (w : World) (hC : Psr w b l n d) (hn : n ≤ l.length) (hl : l.length ≤ 1000000000) :
    Calls Tryd.prog 26 #[.pointer (some ⟨b, 0, none⟩)] w fun e w' =>
      e = .returned undef ∧ Psr w' b l (spEnd l n : Nat) d ∧ Upd b w w' := by
  obtain ⟨R, hR⟩ : ∃ R, spEnd l n = R := ⟨_, rfl⟩
  have hge := spEnd_ge l n
  rw [hR] at hge ⊢
  have HR := Lib.hid hR
  have HC := Lib.hid hC
  clear hR hC
  go_enter Tryd.func26, Tryd.ntmps26
  go_wp2_with fail
  go_loopg [] (l.length - n) (fun k wr => ∃ m : Nat, n ≤ m ∧ m ≤ l.length ∧ k = l.length - m ∧ Psr wr b l m d ∧ Upd b w wr ∧ spEnd l m = R)
  case atStart => exact ⟨n, Nat.le_refl _, hn, rfl, HC.out, Upd.refl _ _, HR.out⟩
  case round =>
    obtain ⟨m, hnm, hml, hk, hcur, hupd, hsp⟩ := hrel
    have HK := Lib.hid hk
    have HCu := Lib.hid hcur
    have HU := Lib.hid hupd
    have c0 := hcur.c0
    have c1 := hcur.c1
    have f1 := hcur.free 1
    clear hk hcur hupd
    by_cases hlt : m < l.length
    · have hlt' : (m : Int) < l.length := by omega
      have hcall := fun w => isSpace11_any l[m] w
      cases hb : isSp l[m]
      · have hs := spEnd_no hlt hb
        rw [hsp] at hs
        subst hs
        rw [hb] at hcall
        have HCL := Lib.hid hcall
        clear hcall hb hsp
        go_wp2_with fail
        go_quiet ((go_at_call 42; exact quiet_drewnJ HCL.out))
        go_wp2_with fail
        go_end0
        exact ⟨rfl, HCu.out.drewN _, HU.out.trans (updDrewN _ _ _)⟩
      · have hs := spEnd_yes hlt hb
        rw [hsp] at hs
        rw [hb] at hcall
        have HCL := Lib.hid hcall
        have HS := Lib.hid hs
        clear hcall hb hsp hs
        go_wp2_with fail
        go_quiet ((go_at_call 42; exact quiet_drewnJ HCL.out))
        have c1' : (wr.drewN nq).cell? ⟨b, 1, none⟩ = _ := c1
        have f1' : (wr.drewN nq).frozen? ⟨b, 1, none⟩ = _ := f1
        have HM := Lib.hid ((HCu.out.drewN nq).move ((m : Int) + 1))
        have HU2 := Lib.hid ((HU.out.trans (updDrewN _ nq _)).trans (Upd.set_ b 1 (wr.drewN nq) (.int .i64 ((m : Int) + 1))))
        clear c0 c1 f1 HCu HU
        go_wp2_with fail
        go_roundg (l.length - (m + 1))
        case measure => have := HK.out; omega
        case rel => exact ⟨m + 1, by omega, by omega, rfl, by rw [Int.natCast_add]; exact HM.out, HU2.out, HS.out.symm⟩
    · obtain rfl : m = l.length := by omega
      rw [spEnd_end] at hsp
      subst hsp
      go_wp2_with fail
      go_quiet (fail)
      go_wp2_with fail
      go_end0
      exact ⟨rfl, HCu.out.drewN _, HU.out.trans (updDrewN _ _ _)⟩
end Go.Proofs.YthlppbpccldikaaDoor
set_option linter.unusedVariables false
namespace Go.Proofs.YthlppbpccldikaaDoor
open Go.RowKit

/-- The next byte behind white space, 0 at the end. -/
def peekB (l : Bytes) (n : Nat) : Nat := (l.getD (spEnd l n) 0).toNat
set_option maxHeartbeats 2000000 in
theorem peek_any (b : Nat) (l : Bytes) (n : Nat) (d : Int) (w : World) (hC : Psr w b l n d) (hn : n ≤ l.length) (hl : l.length ≤ 1000000000) :
    Calls Tryd.prog 33 #[.pointer (some ⟨b, 0, none⟩)] w fun e w' =>
      e = .returned (.int .u8 (peekB l n)) ∧ Psr w' b l (spEnd l n : Nat) d ∧ Upd b w w' := by
  have hs := psrSpaces_any b l n d w hC hn hl
  have hz := spEnd_le (l := l) (n := n) hn
  unfold peekB
  generalize spEnd l n = z at *
  have HS := Lib.hid hs
  clear hs hC
  by_cases hlt : z < l.length
  · have hlt' : (z : Int) < l.length := by omega
    have t : ((z : Int) == (l.length : Int)) = false := by rw [beq_eq_false_iff_ne]; omega
    have eg : l.getD z 0 = l[z] := by rw [List.getD_eq_getElem?_getD, List.getElem?_eq_getElem hlt]; rfl
    rw [eg]
    clear eg
    go_enter Tryd.func33, Tryd.ntmps33
    go_wp2_with (go_at_call 26; refine HS.out.mono ?_; rintro e w1 ⟨rfl, hp1, hu1⟩; have c0 := hp1.c0; have c1 := hp1.c1)
    go_quiet (fail)
    have c0' : (w1.drewN nq).cell? ⟨b, 0, none⟩ = _ := c0
    have c1' : (w1.drewN nq).cell? ⟨b, 1, none⟩ = _ := c1
    have HP := Lib.hid (hp1.drewN nq)
    have HU := Lib.hid (hu1.trans (updDrewN w1 nq b))
    clear c0 c1 hp1 hu1
    generalize w1.drewN nq = W2 at *
    go_wp2_with fail
    go_quiet (fail)
    go_wp2_with fail
    go_ret
    exact ⟨rfl, HP.out.drewN _, HU.out.trans (updDrewN _ _ _)⟩
  · obtain rfl : z = l.length := by omega
    have eg : l.getD l.length 0 = 0 := by simp
    rw [eg]
    clear eg
    go_enter Tryd.func33, Tryd.ntmps33
    go_wp2_with (go_at_call 26; refine HS.out.mono ?_; rintro e w1 ⟨rfl, hp1, hu1⟩; have c0 := hp1.c0; have c1 := hp1.c1)
    go_quiet (fail)
    go_wp2_with fail
    go_ret
    exact ⟨rfl, hp1.drewN _, hu1.trans (updDrewN _ _ _)⟩
set_option maxHeartbeats 2000000 in
theorem wrong11_any (b : Nat) (l : Bytes) (n : Nat) (d : Int) (w : World) (hC : Psr w b l n d) (hn : n ≤ l.length) (hl : l.length ≤ 1000000000) :
    Calls Tryd.prog 41 #[.pointer (some ⟨b, 0, none⟩)] w fun e w' =>
      e = .panicked [{ v := .iface 50 (.agg #[.int .i64 (wrongJ l n).1, .int .i64 (wrongJ l n).2]), recovered := false }] ∧ Psr w' b l n d ∧ Upd b w w' := by
  have c0 := hC.c0
  have c1 := hC.c1
  by_cases hlt : n < l.length
  · have hw : wrongJ l n = (n, 7) := by unfold wrongJ; rw [if_neg (by omega)]
    rw [hw]
    have t : ((n : Int) == (l.length : Int)) = false := by rw [beq_eq_false_iff_ne]; omega
    have HC := Lib.hid hC
    clear hC hw
    go_enter Tryd.func41, Tryd.ntmps41
    go_wp2_with fail
    go_quiet (fail)
    have c0' : (w.drewN nq).cell? ⟨b, 0, none⟩ = _ := c0
    have c1' : (w.drewN nq).cell? ⟨b, 1, none⟩ = _ := c1
    go_wp2_with fail
    have HCD : Psr (w.drewN nq) b l n d ∧ Upd b w (w.drewN nq) := ⟨HC.out.drewN nq, updDrewN w nq b⟩
    generalize w.drewN nq = W2 at *
    simp [bodyPost]
    exact HCD
  · obtain rfl : n = l.length := by omega
    have hw : wrongJ l l.length = (l.length, 8) := by unfold wrongJ; rw [if_pos (Nat.le_refl _)]
    rw [hw]
    have HC := Lib.hid hC
    clear hC hw
    go_enter Tryd.func41, Tryd.ntmps41
    go_wp2_with fail
    go_quiet (fail)
    have c0' : (w.drewN nq).cell? ⟨b, 0, none⟩ = _ := c0
    have c1' : (w.drewN nq).cell? ⟨b, 1, none⟩ = _ := c1
    go_wp2_with fail
    have HCD : Psr (w.drewN nq) b l l.length d ∧ Upd b w (w.drewN nq) := ⟨HC.out.drewN nq, updDrewN w nq b⟩
    generalize w.drewN nq = W2 at *
    simp [bodyPost]
    exact HCD
end Go.Proofs.YthlppbpccldikaaDoor
set_option linter.unusedVariables false
namespace Go.Proofs.YthlppbpccldikaaDoor
open Go.RowKit

/-- A panic that carries a place and an error. -/
abbrev panJ (q : Nat × Nat) : Ending := .panicked [{ v := .iface 50 (.agg #[.int .i64 q.1, .int .i64 q.2]), recovered := false }]
/-- What str does. -/
def StrR (w' : World) (b : Nat) (l : Bytes) (d : Int) (r : Except (Nat × Nat) (Bytes × Nat)) (e : Ending) : Prop :=
  match r with
  | .error q => e = panJ q
  | .ok (s, n) => e = .returned (.string (S s)) ∧ Psr w' b l n d
set_option maxHeartbeats 2000000 in
theorem psrStr_any (b : Nat) (l : Bytes) (n : Nat) (d : Int) (w : World) (hC : Psr w b l n d) (hT : Tabs w) (hn : n ≤ l.length) (hl : l.length ≤ 1000000000) :
    Calls Tryd.prog 35 #[.pointer (some ⟨b, 0, none⟩)] w fun e w' => StrR w' b l d (jstrAt l n) e ∧ Upd b w w' := by
  have hj := fun W (hW : Tabs W) => jparse10_any l n W hW (by omega) (by omega)
  have hT2 : ∀ k, Tabs (w.drewN k) := fun k => hT.next ⟨rfl, rfl, rfl, Nat.le_refl _, fun _ _ => rfl⟩
  cases hjs : jstrAt l n with
  | error q =>
    rw [hjs] at hj
    have hq := (jstrAt_err hn hjs).2
    have t0 : ((q.2 : Int) != 0) = true := by rw [bne_iff_ne]; omega
    have c0 := hC.c0
    have c1 := hC.c1
    have HJ := Lib.hid hj
    have HT2 := Lib.hid hT2
    have HC := Lib.hid hC
    clear hj hjs hq hC hT hT2
    go_enter Tryd.func35, Tryd.ntmps35
    go_wp2_with fail
    go_region_with (go_at_call 47; refine (HJ.out _ (by first | exact HT2.out 0 | exact HT2.out 1)).mono ?_; rintro e w2 ⟨rfl, hb2⟩; simp only [strT])
    all_goals
      have HU : Hid (Upd b w w2) := ⟨hb2.os, hb2.tape, hb2.output, hb2.size, fun k hk _ => hb2.block k hk⟩
      clear hb2
      go_wp2_with fail
      simp [bodyPost, StrR]
      exact HU.out
  | ok p =>
    obtain ⟨s, e0⟩ := p
    rw [hjs] at hj
    have c0 := hC.c0
    have c1 := hC.c1
    have HJ := Lib.hid hj
    have HT2 := Lib.hid hT2
    have HC := Lib.hid hC
    clear hj hjs hC hT hT2
    go_enter Tryd.func35, Tryd.ntmps35
    go_wp2_with fail
    go_region_with (go_at_call 47; refine (HJ.out _ (by first | exact HT2.out 0 | exact HT2.out 1)).mono ?_; rintro e w2 ⟨rfl, hb2⟩; simp only [strT])
    all_goals
      have hp2 : Psr w2 b l n d := (hb2.block b HC.out.lt).trans HC.out
      have HU : Hid (Upd b w w2) := ⟨hb2.os, hb2.tape, hb2.output, hb2.size, fun k hk _ => hb2.block k hk⟩
      have d1 := hp2.c1
      have f1 := hp2.free 1
      have HP := Lib.hid hp2
      clear hb2 hp2 c0 c1
      go_wp2_with fail
      go_ret
      exact ⟨⟨rfl, HP.out.move e0⟩, HU.out.trans (Upd.set_ b 1 w2 (.int .i64 e0))⟩
end Go.Proofs.YthlppbpccldikaaDoor
