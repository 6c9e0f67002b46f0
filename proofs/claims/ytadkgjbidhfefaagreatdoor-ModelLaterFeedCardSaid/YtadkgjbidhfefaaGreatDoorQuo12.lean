/-
  Walk of chapter 10: the program's Quote.
-/
import Derived.Test.YtadkgjbidhfefaaGreatDoorEsc12
import Derived.Lib.ValidU
set_option linter.unusedVariables false
namespace Go.Proofs.YtadkgjbidhfefaaGreatDoor
open Go.RowKit

theorem run_catJ {P : Program} (x y z : Bytes) (hz : z = x ++ y) (h : x.length + y.length ≤ 4611686018427387904) : ∀ W : World, (Op.stringOp .add (S x) (S y)).run P W = .ok (.string (S z)) W := fun W => by
  rw [run_string_add_sum W (S x) (S y) (by simp only [S, ByteArray.size, List.size_toArray]; omega), hz, S_append]
theorem ret_SJ {a b : Bytes} (h : a = b) : Ending.returned (.string (S a)) = .returned (.string (S b)) := by rw [h]
theorem qb_take {l : Bytes} {i : Nat} (h : i < l.length) : (l.take (i + 1)).flatMap escJ = (l.take i).flatMap escJ ++ escJ l[i] := by
  rw [List.take_succ_eq_append_getElem h, List.flatMap_append]; simp
theorem qb_len (l : Bytes) : (l.flatMap escJ).length ≤ 6 * l.length := by
  induction l with
  | nil => simp
  | cons c s ih => rw [List.flatMap_cons, List.length_append, List.length_cons]; have := (esc_len c).2; omega
theorem escP_nil {c : UInt8} (h : escP c = []) : escJ c = [c] := by
  unfold escP at h
  split at h
  · have := (esc_len c).1; rw [h] at this; simp at this
  · rename_i hn
    have h1 : c ≠ 34 := fun e => hn (.inl e)
    have h2 : c ≠ 92 := fun e => hn (.inr (.inl e))
    have h3 : ¬ c < 32 := fun e => hn (.inr (.inr e))
    unfold escJ
    rw [if_neg h1, if_neg h2, if_neg (fun e => h3 (by rw [e]; decide)), if_neg (fun e => h3 (by rw [e]; decide)), if_neg (fun e => h3 (by rw [e]; decide)), if_neg (fun e => h3 (by rw [e]; decide)), if_neg (fun e => h3 (by rw [e]; decide)), if_neg h3]
theorem escP_some {c : UInt8} (h : escP c ≠ []) : escP c = escJ c := by
  unfold escP at h ⊢
  split at h
  · rw [if_pos (by assumption)]
  · exact absurd rfl h
/-- What Quote returns. -/
def quoteB (l : Bytes) : Bytes := if utf8J l then jq l else []
def quoteE (l : Bytes) : Int := if utf8J l then 0 else 5

set_option maxHeartbeats 2000000 in
set_option maxRecDepth 100000 in
theorem quote_any (l : Bytes) (w : World) (hT : TabJ w) (hl : l.length ≤ 1099511627776) :
    Calls Tryz.prog 83 #[.string (S l)] w fun e w' => e = .returned (.tuple #[.string (S (quoteB l)), .int .i64 (quoteE l)]) ∧ Below w.heap.size w w' := by
  have hv := fun W (hW : Below w.heap.size w W) => Tryz.utf8_ValidString (S l) W (by simp [S, ByteArray.size]; omega) (hT.next hW).utf
  rw [S_data] at hv
  unfold quoteB quoteE utf8J
  have HT := Lib.hid hT
  cases hvd : Lib.validD l with
  | false =>
    rw [hvd] at hv
    have HV := Lib.hid hv
    clear hv hvd hT
    go_enter Tryz.func83, Tryz.ntmps83
    go_wp2_with (go_at_call 79; refine (HV.out _ (Below.refl _ _)).mono ?_; rintro e w1 ⟨rfl, hb1⟩)
    go_ret2
    exact ⟨rfl, hb1⟩
  | true =>
    rw [hvd] at hv
    have HV := Lib.hid hv
    clear hv hvd hT
    simp only [if_true]
    go_enter Tryz.func83, Tryz.ntmps83
    go_wp2_with (go_at_call 79; refine (HV.out _ (Below.refl _ _)).mono ?_; rintro e w1 ⟨rfl, hb1⟩)
    have HB1 := Lib.hid hb1
    have HN := Lib.hid (Bld.new w1)
    have hz1 := hb1.size
    clear hb1
    refine (writeByte_any w1.heap.size w1.heap.size [] 34 _ HN.out (by omega) (by simp) (by simp)).mono ?_
    rintro e w2 ⟨rfl, hb2, hbel2, _⟩
    have H2 := Lib.hid (show Bld w1.heap.size w1.heap.size [34] w2 from hb2)
    have HB2 := Lib.hid (show Below w1.heap.size w1 w2 from ((Below.refl _ w1).alloc (Nat.le_refl _) _).trans hbel2)
    clear hb2 hbel2 HN
    go_wp2_with fail
    go_loopw [5, 14] (fun f5 i14 wr => ∃ f i : Nat, f ≤ i ∧ i ≤ l.length ∧ f5 = .int .i64 f ∧ i14 = .int .i64 i ∧ Bld w1.heap.size w1.heap.size (34 :: (l.take f).flatMap escJ) wr ∧ (l.take i).flatMap escJ = (l.take f).flatMap escJ ++ (l.drop f).take (i - f) ∧ Below w1.heap.size w1 wr) (fun _ i14 _ => l.length - (intOf i14).toNat)
    case atStart => exact ⟨0, 0, Nat.le_refl _, Nat.zero_le _, rfl, rfl, by simpa using H2.out, by simp, HB2.out⟩
    case round =>
      obtain ⟨f, i, hfi, hil, rfl, rfl, hbl, hes, hb⟩ := hrel
      have HBL := Lib.hid hbl
      have HES := Lib.hid hes
      have HB := Lib.hid hb
      have hsz := hb.size
      clear hbl hes hb H2 HB2
      have hqf := qb_len (l.take f)
      by_cases hlt : i < l.length
      · have hc := escape12_any l[i] wr (HT.out.next (HB1.out.trans (HB.out.mono hz1)))
        have HC := Lib.hid hc
        clear hc
        have hil' : (i : Int) ≤ l.length := by omega
        have hil2 : (i : Int) < l.length := by omega
        have hfi' : (f : Int) ≤ i := by omega
        cases hr : escP l[i] with
        | nil =>
          have hfin : (l.take (i + 1)).flatMap escJ = (l.take f).flatMap escJ ++ (l.drop f).take (i + 1 - f) := by
            rw [qb_take hlt, HES.out, escP_nil hr, List.append_assoc]
            congr 1
            rw [show i + 1 - f = (i - f) + 1 by omega, List.take_succ_eq_append_getElem (by simp; omega), List.getElem_drop]
            congr 2
            simp only [show f + (i - f) = i by omega]
          have HF := Lib.hid hfin
          rw [hr] at HC
          clear hfin hr
          go_wp2_with (go_at_call 95; refine HC.out.mono ?_; rintro e w' ⟨rfl, hbe⟩)
          go_roundw
          case rel => exact ⟨f, i + 1, by omega, by omega, rfl, by go_num, HBL.out.below hbe, HF.out, HB.out.trans (hbe.mono hsz)⟩
          case measure => simp [intOf]; omega
        | cons x xs =>
          have hx : (x :: xs).length ≤ 6 := by rw [← hr, escP_some (by rw [hr]; simp)]; exact (esc_len _).2
          have hfin : (34 :: (l.take (i + 1)).flatMap escJ) = (34 :: (l.take f).flatMap escJ) ++ ((l.drop f).take (i - f) ++ (x :: xs)) := by
            rw [qb_take hlt, HES.out, ← escP_some (by rw [hr]; simp), hr, List.append_assoc]; rfl
          have hg : ∀ W : World, (Op.stringOp .add (S ((l.drop f).take (i - f))) (S (x :: xs))).run Tryz.prog W = .ok (.string (S ((l.drop f).take (i - f) ++ (x :: xs)))) W := run_catJ _ _ _ rfl (by simp only [List.length_take, List.length_drop] at hx ⊢; omega)
          have hl1 : (34 :: (l.take f).flatMap escJ).length + ((l.drop f).take (i - f) ++ (x :: xs)).length ≤ 140737488355328 := by
            simp only [List.length_cons, List.length_append, List.length_take, List.length_drop] at hx hqf ⊢; omega
          have HF := Lib.hid hfin
          rw [hr] at HC
          clear hfin hr
          generalize hL : (l.drop f).take (i - f) ++ (x :: xs) = L at *
          generalize (34 :: (l.take f).flatMap escJ) = A at *
          go_wp2_with (go_at_call 95; refine HC.out.mono ?_; rintro e w' ⟨rfl, hbe⟩)
          refine (writeString_any w1.heap.size w1.heap.size A L _ (HBL.out.below hbe) hl1 (by have := hbe.size; omega)).mono ?_
          rintro e w4 ⟨rfl, hb4, hbel4, _⟩
          go_wp2_with fail
          go_roundw
          case rel => exact ⟨i + 1, i + 1, by omega, by omega, by go_num, by go_num, by rw [HF.out]; exact hb4, by simp, HB.out.trans ((hbe.mono hsz).trans hbel4)⟩
          case measure => simp [intOf]; omega
      · obtain rfl : i = l.length := by omega
        have hfl : (f : Int) ≤ l.length := by omega
        have hfin : jq l = (34 :: (l.take f).flatMap escJ) ++ (l.drop f ++ [34]) := by
          have := HES.out
          rw [List.take_length] at this
          rw [List.take_of_length_le (l := l.drop f) (by rw [List.length_drop]; omega)] at this
          unfold jq
          rw [this]; simp
        have hg : ∀ W : World, (Op.stringOp .add (S (l.drop f)) ⟨#[34]⟩).run Tryz.prog W = .ok (.string (S (l.drop f ++ [34]))) W := run_catJ _ [34] _ rfl (by simp only [List.length_drop, List.length_cons, List.length_nil]; omega)
        have hl1 : (34 :: (l.take f).flatMap escJ).length + (l.drop f ++ [34]).length ≤ 140737488355328 := by
          simp only [List.length_cons, List.length_append, List.length_take, List.length_drop, List.length_nil] at hqf ⊢; omega
        have HF := Lib.hid hfin
        clear hfin
        generalize hL : l.drop f ++ [34] = L at *
        generalize (34 :: (l.take f).flatMap escJ) = A at *
        go_wp2_with fail
        refine (writeString_any w1.heap.size w1.heap.size A L _ HBL.out hl1 hsz).mono ?_
        rintro e w4 ⟨rfl, hb4, hbel4, _⟩
        have hz4 := hbel4.size
        go_wp2_with fail
        refine (builderString_any w1.heap.size w1.heap.size _ _ hb4 (by omega)).mono ?_
        rintro e w5 ⟨rfl, hb5, hbel5, _⟩
        go_wp2_with fail
        go_ret2
        exact ⟨by rw [HF.out]; rfl, HB1.out.trans ((HB.out.trans (hbel4.trans hbel5)).mono hz1)⟩
end Go.Proofs.YtadkgjbidhfefaaGreatDoor
