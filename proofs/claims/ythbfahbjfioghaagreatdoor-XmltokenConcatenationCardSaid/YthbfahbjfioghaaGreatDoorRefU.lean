/-
  Walks of chapter 5: references (the reference).
-/
import Derived.Test.YthbfahbjfioghaaGreatDoorRef05
import Derived.Test.YthbfahbjfioghaaGreatDoorText1
import Derived.Test.YthbfahbjfioghaaGreatDoorText3
import Derived.Test.YthbfahbjfioghaaGreatDoorMem
import Derived.OwnWalk
set_option linter.unusedVariables false
namespace Go.Proofs.YthbfahbjfioghaaGreatDoor
open Go.RowKit

theorem S_beq' (a b : Bytes) : (S a == S b) = (a == b) := by
  have h : (S a == S b) = (a.toArray == b.toArray) := rfl
  rw [h, List.beq_toArray]

/-- What the reference's number returns. -/
def numN (base : Nat) (l : Bytes) : Int := if l = [] then -1 else match valS base 0 l with | none => -1 | some v => (min v 2000000 : Nat)
theorem isChar_neg : isChar (-1) = false := by decide
theorem numN_char (base : Nat) (l : Bytes) : (if isChar (numN base l) = true then some (numN base l).toNat else none) = numRef base l := by
  unfold numN numRef
  by_cases h : l = []
  · rw [if_pos h, if_pos h, if_neg (by rw [isChar_neg]; decide)]
  · rw [if_neg h, if_neg h]
    cases hv : valS base 0 l with
    | none => simp only [isChar_neg, Option.bind_none]; rfl
    | some v =>
      simp only [Option.bind_some, isChar_cap2]
      split
      · rename_i hc
        rw [isChar_iff] at hc
        rw [Nat.min_eq_left (by omega)]
        rfl
      · rfl
theorem valS_step {base : Nat} {l : Bytes} {i v : Nat} (h : i < l.length) (hv : valS base 0 (l.take i) = some v) (hd : hexd l[i] < base) : valS base 0 (l.take (i + 1)) = some (v * base + hexd l[i]) := by
  rw [List.take_succ_eq_append_getElem h, valS_append, hv, Option.bind_some, valS, if_pos hd]
  rfl
theorem valS_bad {base : Nat} {l : Bytes} {i v : Nat} (h : i < l.length) (hv : valS base 0 (l.take i) = some v) (hd : ¬ hexd l[i] < base) : valS base 0 l = none := by
  have e : l = l.take i ++ l[i] :: l.drop (i + 1) := by rw [← List.drop_eq_getElem_cons h, List.take_append_drop]
  rw [e, valS_append, hv, Option.bind_some, valS, if_neg hd]
theorem numN_bad {base : Nat} {l : Bytes} (h : l ≠ []) (hv : valS base 0 l = none) : numN base l = -1 := by
  unfold numN; rw [if_neg h, hv]
theorem numN_ok {base v : Nat} {l : Bytes} (h : l ≠ []) (hv : valS base 0 l = some v) : numN base l = (min v 2000000 : Nat) := by
  unfold numN; rw [if_neg h, hv]

set_option maxHeartbeats 1000000 in
theorem refDigit_any (c : UInt8) (w : World) :
    Calls Tryz.prog 139 #[.int .u8 c.toNat] w fun e w' => e = .returned (.int .i64 (hexd c)) ∧ w = w' := by
  have hc := u8_lt c
  go_enter Tryz.func139, Tryz.ntmps139
  go_wp2
  all_goals go_ret
  all_goals exact ⟨ret_int (by unfold hexd; (repeat' split) <;> omega), rfl⟩

set_option maxHeartbeats 2000000 in
theorem refNumber_any (base : Nat) (hbase : base = 10 ∨ base = 16) (l : Bytes) (w : World) (hl : l.length ≤ 4611686018427387904) :
    Calls Tryz.prog 129 #[.string (S l), .int .i64 base] w fun e w' => e = .returned (.int .i64 (numN base l)) ∧ w = w' := by
  by_cases h0 : l = []
  · subst h0
    go_enter Tryz.func129, Tryz.ntmps129
    go_wp2
    all_goals first | go_ret | skip
    all_goals exact ⟨rfl, rfl⟩
  · have t0 : l.isEmpty = false := by simpa using h0
    have H0 := Lib.hid h0
    clear h0
    obtain ⟨b, hbb⟩ : ∃ b : Int, (base : Int) = b := ⟨_, rfl⟩
    rw [hbb]
    have hb2 : b = 10 ∨ b = 16 := by omega
    have HBB := Lib.hid hbb
    clear hbb hbase
    rcases hb2 with rfl | rfl
    all_goals
      go_enter Tryz.func129, Tryz.ntmps129
      go_wp2_with fail
      go_loopw [5, 6] (fun n5 i6 wr => ∃ i v : Nat, i ≤ l.length ∧ i6 = .int .i64 i ∧ n5 = .int .i64 (min v 2000000 : Nat) ∧ valS base 0 (l.take i) = some v ∧ w = wr) (fun _ i6 _ => l.length - (intOf i6).toNat)
      case atStart => exact ⟨0, 0, Nat.zero_le _, rfl, rfl, rfl, rfl⟩
      case round =>
        obtain ⟨i, v, hil, rfl, rfl, hv, rfl⟩ := hrel
        have HV := Lib.hid hv
        clear hv
        by_cases hlt : i < l.length
        · have hd := hexd_le l[i]
          obtain ⟨m, hm⟩ : ∃ m, min v 2000000 = m := ⟨_, rfl⟩
          have hm2 : m ≤ 2000000 := by omega
          have HM := Lib.hid hm
          rw [hm]
          clear hm
          go_wp2_with (go_at_call 139; refine (refDigit_any l[i] _).mono ?_; rintro e w' ⟨rfl, rfl⟩)
          · go_ret
            exact ⟨ret_int (numN_bad H0.out (valS_bad hlt HV.out (by have := HBB.out; omega))).symm, rfl⟩
          all_goals
            go_roundw
            case rel =>
              refine ⟨i + 1, v * base + hexd l[i], by omega, by go_num, val_int ?_, valS_step hlt HV.out (by have := HBB.out; omega), trivial⟩
              have hs := cap_step 2000000 base (hexd l[i]) v (by have := HBB.out; omega)
              rw [HM.out] at hs
              rw [← hs]
              have hb := HBB.out
              have hbn : base = 10 ∨ base = 16 := by omega
              clear hs
              rcases hbn with e | e
              all_goals
                rw [e] at hb ⊢
                omega
            case measure => simp [intOf]; omega
        · obtain rfl : i = l.length := by omega
          have hfin := HV.out
          rw [List.take_length] at hfin
          have HF := Lib.hid (numN_ok H0.out hfin)
          clear hfin
          go_wp2
          go_ret
          exact ⟨ret_int HF.out.symm, rfl⟩

/-- What the reference's named returns. -/
def namedN (x : Bytes) : Int :=
  if (x == [108, 116]) = true then 60 else if (x == [103, 116]) = true then 62 else if (x == [97, 109, 112]) = true then 38
  else if (x == [97, 112, 111, 115]) = true then 39 else if (x == [113, 117, 111, 116]) = true then 34 else -1

set_option maxHeartbeats 1000000 in
theorem refNamed_any (x : Bytes) (w : World) :
    Calls Tryz.prog 128 #[.string (S x)] w fun e w' => e = .returned (.int .i64 (namedN x)) ∧ w = w' := by
  go_enter Tryz.func128, Tryz.ntmps128
  go_wp2
  all_goals go_ret
  all_goals exact ⟨ret_int (by unfold namedN; simp only [*]; rfl), rfl⟩

/-- What the reference takes for the number behind an '&'. -/
def rN (x : Bytes) : Int := if 1 < x.length ∧ x.getD 0 0 = 35 then (if x.getD 1 0 = 120 then numN 16 (x.drop 2) else numN 10 (x.drop 1)) else namedN x
theorem nameRef_hash (y : Bytes) : nameRef (35 :: y) = match y with | 120 :: h => numRef 16 h | d => numRef 10 d := by
  unfold nameRef
  rw [if_neg (by simp [bLt]), if_neg (by simp [bGt]), if_neg (by simp [bAmp]), if_neg (by simp [bApos]), if_neg (by simp [bQuot])]
  split
  · rename_i h; cases h; rfl
  · rename_i h h'
    cases h'
    split
    · exact absurd rfl (h _)
    · rfl
  · rename_i h; exact absurd rfl (h _)
theorem nameRef_named {x : Bytes} (h : ∀ y, x ≠ 35 :: y) : nameRef x = if isChar (namedN x) = true then some (namedN x).toNat else none := by
  by_cases h1 : x = bLt
  · subst h1; decide
  by_cases h2 : x = bGt
  · subst h2; decide
  by_cases h3 : x = bAmp
  · subst h3; decide
  by_cases h4 : x = bApos
  · subst h4; decide
  by_cases h5 : x = bQuot
  · subst h5; decide
  have hN : namedN x = -1 := by
    unfold namedN
    simp only [beq_iff_eq]
    exact (if_neg h1).trans ((if_neg h2).trans ((if_neg h3).trans ((if_neg h4).trans (if_neg h5))))
  rw [hN, isChar_neg]
  unfold nameRef
  rw [if_neg h1, if_neg h2, if_neg h3, if_neg h4, if_neg h5]
  split
  · exact absurd rfl (h _)
  · exact absurd rfl (h _)
  · rfl
theorem nameRef_ref (x : Bytes) : (if isChar (rN x) = true then some (rN x).toNat else none) = nameRef x := by
  match x with
  | [] => decide
  | [c] =>
    have h1 : rN [c] = namedN [c] := by unfold rN; rw [if_neg (by simp)]
    by_cases hc : c = 35
    · subst hc; decide
    · rw [h1, nameRef_named (fun y h => hc (by cases h; rfl))]
  | c :: d :: y =>
    by_cases hc : c = 35
    · subst hc
      rw [nameRef_hash]
      by_cases hd : d = 120
      · subst hd
        have h1 : rN (35 :: 120 :: y) = numN 16 y := by unfold rN; simp
        rw [h1, numN_char]; rfl
      · have h1 : rN (35 :: d :: y) = numN 10 (d :: y) := by unfold rN; simp [hd]
        rw [h1, numN_char]
        split
        · rename_i h; cases h; exact absurd rfl hd
        · rfl
    · have h1 : rN (c :: d :: y) = namedN (c :: d :: y) := by unfold rN; simp [hc]
      rw [h1, nameRef_named (fun y h => hc (by cases h; rfl))]
theorem of_not_true {b : Bool} (h : (!b) = true) : ¬ b = true := by cases b <;> simp_all
theorem of_not_false {b : Bool} (h : (!b) = false) : b = true := by cases b <;> simp_all
theorem rN_short {x : Bytes} (h : (x.length : Int) ≤ 1) : rN x = namedN x := by
  unfold rN; rw [if_neg (by omega)]
theorem rN_no {x : Bytes} (h1 : 1 < (x.length : Int)) {h2 : 0 < x.length} (h3 : ((x[0].toNat : Int) == 35) = false) : rN x = namedN x := by
  unfold rN
  rw [if_neg]
  rintro ⟨_, h⟩
  rw [List.getD_eq_getElem?_getD, List.getElem?_eq_getElem h2, Option.getD_some] at h
  rw [h] at h3
  exact absurd h3 (by decide)
theorem rN_yes {x : Bytes} (h1 : 1 < (x.length : Int)) {h2 : 0 < x.length} (h3 : ((x[0].toNat : Int) == 35) = true) : rN x = if x.getD 1 0 = 120 then numN 16 (x.drop 2) else numN 10 (x.drop 1) := by
  unfold rN
  rw [if_pos]
  refine ⟨by omega, ?_⟩
  rw [List.getD_eq_getElem?_getD, List.getElem?_eq_getElem h2, Option.getD_some]
  have := eq_of_beq h3
  exact UInt8.toNat_inj.1 (by simpa using Int.ofNat_inj.1 this)
theorem rN_16 {x : Bytes} (h1 : 1 < (x.length : Int)) {h2 : 0 < x.length} (h3 : ((x[0].toNat : Int) == 35) = true) {h5 : 1 < x.length} (h4 : ((x[1].toNat : Int) == 120) = true) : rN x = numN 16 (x.drop 2) := by
  rw [rN_yes h1 h3, if_pos]
  rw [List.getD_eq_getElem?_getD, List.getElem?_eq_getElem h5, Option.getD_some]
  have := eq_of_beq h4
  exact UInt8.toNat_inj.1 (by simpa using Int.ofNat_inj.1 this)
theorem rN_10 {x : Bytes} (h1 : 1 < (x.length : Int)) {h2 : 0 < x.length} (h3 : ((x[0].toNat : Int) == 35) = true) {h5 : 1 < x.length} (h4 : ((x[1].toNat : Int) == 120) = false) : rN x = numN 10 x.tail := by
  rw [rN_yes h1 h3, if_neg, List.drop_one]
  rw [List.getD_eq_getElem?_getD, List.getElem?_eq_getElem h5, Option.getD_some]
  intro h
  rw [h] at h4
  exact absurd h4 (by decide)
theorem refAt_some {l x : Bytes} {n : Nat} (h : n < l.length) (hc : l[n] = 38) (hu : upto 59 (l.drop (n + 1)) = some x) :
    refAt l n = if isChar (rN x) = true then (rN x, (n : Int) + x.length + 2, 0) else (0, 0, 12) := by
  rw [refAt_in h hc]
  unfold tailRef
  rw [hu, Option.bind_some, ← nameRef_ref]
  split
  · rename_i hr
    split at hr
    · rename_i hch
      rw [if_pos hch]
      simp only [Option.map_some, Option.some.injEq, Prod.mk.injEq] at hr
      rw [← hr.1, ← hr.2]
      rw [isChar_iff] at hch
      rw [Int.toNat_of_nonneg (by omega)]
    · cases hr
  · rename_i hr
    split at hr
    · cases hr
    · rename_i hch; rw [if_neg hch]
theorem refAt_none {l : Bytes} {n : Nat} (h : n < l.length) (hc : l[n] = 38) (hu : upto 59 (l.drop (n + 1)) = none) : refAt l n = (0, 0, 12) := by
  rw [refAt_in h hc]
  unfold tailRef
  rw [hu]; rfl
theorem refAt_out {l : Bytes} {k : Int} (h : ¬ (0 ≤ k ∧ k < l.length)) : refAt l k = (0, 0, 12) := by
  unfold refAt
  rw [if_neg (fun h' => h ⟨h'.1, h'.2.1⟩)]
theorem refAt_byte {l : Bytes} {n : Nat} (h : n < l.length) (hc : l[n] ≠ 38) : refAt l n = (0, 0, 12) := by
  unfold refAt
  rw [if_neg (fun h' => hc (by have := h'.2.2; simpa [h] using this))]
theorem upto_at {l : Bytes} {n e : Nat} (he : e < l.length) (hn : n ≤ e) (hc : l[e] = 59) (hj : ∀ j, n ≤ j → j < e → ∀ h : j < l.length, l[j] ≠ 59) :
    upto 59 (l.drop n) = some ((l.drop n).take (e - n)) := by
  have e1 : l.drop n = (l.drop n).take (e - n) ++ 59 :: l.drop (e + 1) := by
    have e2 : (l.drop n).drop (e - n) = 59 :: l.drop (e + 1) := by
      rw [List.drop_drop, show n + (e - n) = e by omega, List.drop_eq_getElem_cons he, hc]
    rw [← e2, List.take_append_drop]
  conv => lhs; rw [e1]
  refine upto_of fun b hb => ?_
  obtain ⟨i, hi, rfl⟩ := List.getElem_of_mem hb
  simp only [List.length_take, List.length_drop] at hi
  rw [List.getElem_take, List.getElem_drop]
  exact hj (n + i) (by omega) (by omega) (by omega)
theorem upto_past {l : Bytes} {n : Nat} (hj : ∀ j, n ≤ j → ∀ h : j < l.length, l[j] ≠ 59) : upto 59 (l.drop n) = none := by
  refine upto_none fun b hb => ?_
  obtain ⟨i, hi, rfl⟩ := List.getElem_of_mem hb
  simp only [List.length_drop] at hi
  rw [List.getElem_drop]
  exact hj (n + i) (by omega) (by omega)

theorem ret_ref {k1 k2 k3 : IntKind} {a b c : Int} {r : Int × Int × Int} (h : r = (a, b, c)) : Ending.returned (.tuple #[.int k1 a, .int k2 b, .int k3 c]) = .returned (.tuple #[.int k1 r.1, .int k2 r.2.1, .int k3 r.2.2]) := by rw [h]
theorem refNumber10 (l : Bytes) (w : World) (hl : l.length ≤ 4611686018427387904) :
    Calls Tryz.prog 129 #[.string (S l), .int .i64 10] w fun e w' => e = .returned (.int .i64 (numN 10 l)) ∧ w = w' := refNumber_any 10 (.inl rfl) l w hl
theorem refNumber16 (l : Bytes) (w : World) (hl : l.length ≤ 4611686018427387904) :
    Calls Tryz.prog 129 #[.string (S l), .int .i64 16] w fun e w' => e = .returned (.int .i64 (numN 16 l)) ∧ w = w' := refNumber_any 16 (.inr rfl) l w hl

set_option maxHeartbeats 1000000 in
theorem refReference_out (l : Bytes) (k : Int) (w : World) (hl : l.length ≤ 4611686018427387904) (h : k < 0 ∨ (l.length : Int) ≤ k) :
    Calls Tryz.prog 112 #[.string (S l), .int .i64 k] w fun e w' => e = .returned (.tuple #[.int .i64 (refAt l k).1, .int .i64 (refAt l k).2.1, .int .i64 (refAt l k).2.2]) ∧ w = w' := by
  rw [refAt_out (by omega)]
  rcases h with h | h
  · go_enter Tryz.func112, Tryz.ntmps112
    go_wp2
    go_ret3
    exact ⟨rfl, rfl⟩
  · have h0 : 0 ≤ k := by omega
    go_enter Tryz.func112, Tryz.ntmps112
    go_wp2
    go_ret3
    exact ⟨rfl, rfl⟩
set_option maxHeartbeats 1000000 in
theorem refReference_byte (l : Bytes) (n : Nat) (w : World) (hl : l.length ≤ 4611686018427387904) (h : n < l.length) (hc : l[n] ≠ 38) :
    Calls Tryz.prog 112 #[.string (S l), .int .i64 n] w fun e w' => e = .returned (.tuple #[.int .i64 (refAt l n).1, .int .i64 (refAt l n).2.1, .int .i64 (refAt l n).2.2]) ∧ w = w' := by
  rw [refAt_byte h hc]
  have t1 : (((l[n]).toNat : Int) == 38) = false := by
    rw [beq_eq_false_iff_ne]; exact fun e => hc (UInt8.toNat_inj.1 (by simpa using Int.ofNat_inj.1 e))
  have t1' : (((l[n]).toNat : Int) != 38) = true := by rw [bne, t1]; rfl
  have T := Lib.hid hc
  clear hc
  go_enter Tryz.func112, Tryz.ntmps112
  go_wp2
  go_ret3
  exact ⟨rfl, rfl⟩
set_option maxHeartbeats 1000000 in
theorem refReference_amp (l : Bytes) (n : Nat) (w : World) (hl : l.length ≤ 4611686018427387904) (h : n < l.length) (hc : l[n] = 38) :
    Calls Tryz.prog 112 #[.string (S l), .int .i64 n] w fun e w' => e = .returned (.tuple #[.int .i64 (refAt l n).1, .int .i64 (refAt l n).2.1, .int .i64 (refAt l n).2.2]) ∧ w = w' := by
  have t1 : (((l[n]).toNat : Int) == 38) = true := by rw [hc]; rfl
  have t1' : (((l[n]).toNat : Int) != 38) = false := by rw [bne, t1]; rfl
  have T := Lib.hid hc
  clear hc
  obtain ⟨r, hr⟩ : ∃ r, refAt l n = r := ⟨_, rfl⟩
  rw [hr]
  have HR := Lib.hid hr
  clear hr
  go_enter Tryz.func112, Tryz.ntmps112
  go_wp2_with fail
  go_loopw [7] (fun e7 wr => ∃ e : Nat, n ≤ e ∧ e ≤ l.length ∧ e7 = .int .i64 e ∧ (∀ j, n ≤ j → j < e → ∀ h : j < l.length, l[j] ≠ 59) ∧ w = wr) (fun e7 _ => l.length - (intOf e7).toNat)
  case atStart => exact ⟨n, Nat.le_refl _, by omega, rfl, fun j h1 h2 => by omega, rfl⟩
  case round =>
    obtain ⟨e, hne, hel, rfl, hj, rfl⟩ := hrel
    have HJ := Lib.hid hj
    clear hj
    by_cases hlt : e < l.length
    · have hli : (e : Int) < l.length := by omega
      by_cases hs : l[e] = 59
      · have t2 : (((l[e]).toNat : Int) == 59) = true := by rw [hs]; rfl
        have t2' : (((l[e]).toNat : Int) != 59) = false := by rw [bne, t2]; rfl
        have hen : e ≠ n := by rintro rfl; rw [T.out] at hs; exact absurd hs (by decide)
        have hu : upto 59 (l.drop (n + 1)) = some ((l.drop (n + 1)).take (e - (n + 1))) := upto_at hlt (by omega) hs (fun j h1 h2 h3 => HJ.out j (by omega) h2 h3)
        obtain ⟨x, hx⟩ : ∃ x, (l.drop (n + 1)).take (e - (n + 1)) = x := ⟨_, rfl⟩
        have hxl : x.length = e - (n + 1) := by rw [← hx]; simp only [List.length_take, List.length_drop]; omega
        rw [hx] at hu
        have HU := Lib.hid hu
        have HXL := Lib.hid hxl
        have HS := Lib.hid hs
        have hra := (refAt_some h T.out HU.out).symm.trans HR.out
        have HRA := Lib.hid hra
        clear hu hxl hs hra
        have e1 : (n : Int) + 1 ≤ e := by omega
        have hxt : x.length ≤ 4611686018427387904 := by have := HXL.out; omega
        have hx1 : x.tail.length ≤ 4611686018427387904 := by rw [List.length_tail]; omega
        have hx2 : (x.drop 2).length ≤ 4611686018427387904 := by rw [List.length_drop]; omega
        go_wp2_with (first
          | ((go_at_call 128; with_reducible refine (refNamed_any _ _).mono ?_; rintro e w' ⟨rfl, rfl⟩))
          | ((go_at_call 129; with_reducible refine (refNumber10 _ _ hx1).mono ?_; rintro e w' ⟨rfl, rfl⟩))
          | ((go_at_call 129; with_reducible refine (refNumber16 _ _ hx2).mono ?_; rintro e w' ⟨rfl, rfl⟩))
          | ((go_at_call 49; with_reducible refine (refIsChar_any _ _).mono ?_; rintro e w' ⟨rfl, rfl⟩)))
        all_goals
          go_ret3
          refine ⟨ret_ref (HRA.out.symm.trans ?_), rfl⟩
          have hen2 : (n : Int) + x.length + 2 = e + 1 := by have := HXL.out; omega
          first
            | rw [rN_16 (by assumption) (by assumption) (by assumption), if_neg (of_not_true (by assumption))]
            | rw [rN_16 (by assumption) (by assumption) (by assumption), if_pos (of_not_false (by assumption)), hen2]
            | rw [rN_10 (by assumption) (by assumption) (by assumption), if_neg (of_not_true (by assumption))]
            | rw [rN_10 (by assumption) (by assumption) (by assumption), if_pos (of_not_false (by assumption)), hen2]
            | rw [rN_no (by assumption) (by assumption), if_neg (of_not_true (by assumption))]
            | rw [rN_no (by assumption) (by assumption), if_pos (of_not_false (by assumption)), hen2]
            | rw [rN_short (by assumption), if_neg (of_not_true (by assumption))]
            | rw [rN_short (by assumption), if_pos (of_not_false (by assumption)), hen2]
      · have t2 : (((l[e]).toNat : Int) == 59) = false := by
          rw [beq_eq_false_iff_ne]; exact fun e => hs (UInt8.toNat_inj.1 (by simpa using Int.ofNat_inj.1 e))
        have t2' : (((l[e]).toNat : Int) != 59) = true := by rw [bne, t2]; rfl
        have HS := Lib.hid hs
        clear hs
        go_wp2_with fail
        go_roundw
        case rel =>
          refine ⟨e + 1, by omega, by omega, by go_num, fun j h1 h2 h3 => ?_, by first | rfl | trivial⟩
          by_cases hje : j = e
          · subst hje; exact HS.out
          · exact HJ.out j h1 (by omega) h3
        case measure => simp [intOf]; omega
    · obtain rfl : e = l.length := by omega
      have hra := (refAt_none h T.out (upto_past (fun j h1 h3 => HJ.out j (by omega) h3 h3))).symm.trans HR.out
      have HRA := Lib.hid hra
      clear hra
      go_wp2
      go_ret3
      exact ⟨ret_ref HRA.out.symm, rfl⟩
theorem refReference_any (l : Bytes) (k : Int) (w : World) (hl : l.length ≤ 4611686018427387904) :
    Calls Tryz.prog 112 #[.string (S l), .int .i64 k] w fun e w' => e = .returned (.tuple #[.int .i64 (refAt l k).1, .int .i64 (refAt l k).2.1, .int .i64 (refAt l k).2.2]) ∧ w = w' := by
  by_cases h : k < 0 ∨ (l.length : Int) ≤ k
  · exact refReference_out l k w hl h
  · obtain ⟨n, rfl⟩ : ∃ n : Nat, k = n := ⟨k.toNat, by omega⟩
    by_cases hc : l[n]'(by omega) = 38
    · exact refReference_amp l n w hl (by omega) hc
    · exact refReference_byte l n w hl (by omega) hc
end Go.Proofs.YthbfahbjfioghaaGreatDoor
