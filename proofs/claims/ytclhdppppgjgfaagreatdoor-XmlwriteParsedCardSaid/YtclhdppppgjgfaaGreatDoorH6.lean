/-
  Several texts in one file, in build order:
  - Walks of chapter 5: references (the reference).
  - Walks of chapter 6: the reference's Lines and content.
  - Walks of the library's strings.Replacer: replacing bytes by the table.
  - Walks of the library's strings.Replacer: sync.Once at its first call, buildOnce, Replace.
-/
import Derived.Test.YtclhdppppgjgfaaGreatDoorH3
import Derived.Test.YtclhdppppgjgfaaGreatDoorH1
import Derived.Test.YtclhdppppgjgfaaGreatDoorH2
import Derived.OwnWalk
import Derived.Test.YtclhdppppgjgfaaGreatDoorH5
import Derived.Lib.SliceRun
import Derived.Tactics
import Derived.Tactics2
import Derived.Defers
import Derived.Laws.Pointers
import Derived.Laws.LoneSync
import Derived.RegionTactic
import Derived.RegionCalls
import Derived.ChangeAlike
import Derived.Laws.EntriesVeiled
set_option linter.unusedVariables false
namespace Go.Proofs.YtclhdppppgjgfaaGreatDoor
open Go.RowKit

theorem S_beq' (a b : Bytes) : (S a == S b) = (a == b) := by
  have h : (S a == S b) = (a.toArray == b.toArray) := rfl
  rw [h, List.beq_toArray]

/-- What the reference's number returns. -/
def numN (base : Nat) (l : Bytes) : Int := if l = [] then -1 else match valS base 0 l with | none => -1 | some v => (min v 2000000 : Nat)
theorem isChar_neg : isChar (-1) = false := by decide
theorem numN_char (base : Nat) (l : Bytes) : (if isChar (numN base l) = true then some (numN base l).toNat else none) = numRef base l := by
  unfold numN numRef
  by_cases h : l = []
  · rw [if_pos h, if_pos h, if_neg (by rw [isChar_neg]; decide)]
  · rw [if_neg h, if_neg h]
    cases hv : valS base 0 l with
    | none => simp only [isChar_neg, Option.bind_none]; rfl
    | some v =>
      simp only [Option.bind_some, isChar_cap2]
      split
      · rename_i hc
        rw [isChar_iff] at hc
        rw [Nat.min_eq_left (by omega)]
        rfl
      · rfl
theorem valS_step {base : Nat} {l : Bytes} {i v : Nat} (h : i < l.length) (hv : valS base 0 (l.take i) = some v) (hd : hexd l[i] < base) : valS base 0 (l.take (i + 1)) = some (v * base + hexd l[i]) := by
  rw [List.take_succ_eq_append_getElem h, valS_append, hv, Option.bind_some, valS, if_pos hd]
  rfl
theorem valS_bad {base : Nat} {l : Bytes} {i v : Nat} (h : i < l.length) (hv : valS base 0 (l.take i) = some v) (hd : ¬ hexd l[i] < base) : valS base 0 l = none := by
  have e : l = l.take i ++ l[i] :: l.drop (i + 1) := by rw [← List.drop_eq_getElem_cons h, List.take_append_drop]
  rw [e, valS_append, hv, Option.bind_some, valS, if_neg hd]
theorem numN_bad {base : Nat} {l : Bytes} (h : l ≠ []) (hv : valS base 0 l = none) : numN base l = -1 := by
  unfold numN; rw [if_neg h, hv]
theorem numN_ok {base v : Nat} {l : Bytes} (h : l ≠ []) (hv : valS base 0 l = some v) : numN base l = (min v 2000000 : Nat) := by
  unfold numN; rw [if_neg h, hv]

set_option maxHeartbeats 1000000 in
theorem refDigit_any (c : UInt8) (w : World) :
    Calls Tryz.prog 144 #[.int .u8 c.toNat] w fun e w' => e = .returned (.int .i64 (hexd c)) ∧ w = w' := by
  have hc := u8_lt c
  go_enter Tryz.func144, Tryz.ntmps144
  go_wp2
  all_goals go_ret
  all_goals exact ⟨ret_int (by unfold hexd; (repeat' split) <;> omega), rfl⟩

set_option maxHeartbeats 2000000 in
theorem refNumber_any (base : Nat) (hbase : base = 10 ∨ base = 16) (l : Bytes) (w : World) (hl : l.length ≤ 4611686018427387904) :
    Calls Tryz.prog 135 #[.string (S l), .int .i64 base] w fun e w' => e = .returned (.int .i64 (numN base l)) ∧ w = w' := by
  by_cases h0 : l = []
  · subst h0
    go_enter Tryz.func135, Tryz.ntmps135
    go_wp2
    all_goals first | go_ret | skip
    all_goals exact ⟨rfl, rfl⟩
  · have t0 : l.isEmpty = false := by simpa using h0
    have H0 := Lib.hid h0
    clear h0
    obtain ⟨b, hbb⟩ : ∃ b : Int, (base : Int) = b := ⟨_, rfl⟩
    rw [hbb]
    have hb2 : b = 10 ∨ b = 16 := by omega
    have HBB := Lib.hid hbb
    clear hbb hbase
    rcases hb2 with rfl | rfl
    all_goals
      go_enter Tryz.func135, Tryz.ntmps135
      go_wp2_with fail
      go_loopw [5, 6] (fun n5 i6 wr => ∃ i v : Nat, i ≤ l.length ∧ i6 = .int .i64 i ∧ n5 = .int .i64 (min v 2000000 : Nat) ∧ valS base 0 (l.take i) = some v ∧ w = wr) (fun _ i6 _ => l.length - (intOf i6).toNat)
      case atStart => exact ⟨0, 0, Nat.zero_le _, rfl, rfl, rfl, rfl⟩
      case round =>
        obtain ⟨i, v, hil, rfl, rfl, hv, rfl⟩ := hrel
        have HV := Lib.hid hv
        clear hv
        by_cases hlt : i < l.length
        · have hd := hexd_le l[i]
          obtain ⟨m, hm⟩ : ∃ m, min v 2000000 = m := ⟨_, rfl⟩
          have hm2 : m ≤ 2000000 := by omega
          have HM := Lib.hid hm
          rw [hm]
          clear hm
          go_wp2_with (go_at_call 144; refine (refDigit_any l[i] _).mono ?_; rintro e w' ⟨rfl, rfl⟩)
          · go_ret
            exact ⟨ret_int (numN_bad H0.out (valS_bad hlt HV.out (by have := HBB.out; omega))).symm, rfl⟩
          all_goals
            go_roundw
            case rel =>
              refine ⟨i + 1, v * base + hexd l[i], by omega, by go_num, val_int ?_, valS_step hlt HV.out (by have := HBB.out; omega), trivial⟩
              have hs := cap_step 2000000 base (hexd l[i]) v (by have := HBB.out; omega)
              rw [HM.out] at hs
              rw [← hs]
              have hb := HBB.out
              have hbn : base = 10 ∨ base = 16 := by omega
              clear hs
              rcases hbn with e | e
              all_goals
                rw [e] at hb ⊢
                omega
            case measure => simp [intOf]; omega
        · obtain rfl : i = l.length := by omega
          have hfin := HV.out
          rw [List.take_length] at hfin
          have HF := Lib.hid (numN_ok H0.out hfin)
          clear hfin
          go_wp2
          go_ret
          exact ⟨ret_int HF.out.symm, rfl⟩

/-- What the reference's named returns. -/
def namedN (x : Bytes) : Int :=
  if (x == [108, 116]) = true then 60 else if (x == [103, 116]) = true then 62 else if (x == [97, 109, 112]) = true then 38
  else if (x == [97, 112, 111, 115]) = true then 39 else if (x == [113, 117, 111, 116]) = true then 34 else -1

set_option maxHeartbeats 1000000 in
theorem refNamed_any (x : Bytes) (w : World) :
    Calls Tryz.prog 134 #[.string (S x)] w fun e w' => e = .returned (.int .i64 (namedN x)) ∧ w = w' := by
  go_enter Tryz.func134, Tryz.ntmps134
  go_wp2
  all_goals go_ret
  all_goals exact ⟨ret_int (by unfold namedN; simp only [*]; rfl), rfl⟩

/-- What the reference takes for the number behind an '&'. -/
def rN (x : Bytes) : Int := if 1 < x.length ∧ x.getD 0 0 = 35 then (if x.getD 1 0 = 120 then numN 16 (x.drop 2) else numN 10 (x.drop 1)) else namedN x
theorem nameRef_hash (y : Bytes) : nameRef (35 :: y) = match y with | 120 :: h => numRef 16 h | d => numRef 10 d := by
  unfold nameRef
  rw [if_neg (by simp [bLt]), if_neg (by simp [bGt]), if_neg (by simp [bAmp]), if_neg (by simp [bApos]), if_neg (by simp [bQuot])]
  split
  · rename_i h; cases h; rfl
  · rename_i h h'
    cases h'
    split
    · exact absurd rfl (h _)
    · rfl
  · rename_i h; exact absurd rfl (h _)
theorem nameRef_named {x : Bytes} (h : ∀ y, x ≠ 35 :: y) : nameRef x = if isChar (namedN x) = true then some (namedN x).toNat else none := by
  by_cases h1 : x = bLt
  · subst h1; decide
  by_cases h2 : x = bGt
  · subst h2; decide
  by_cases h3 : x = bAmp
  · subst h3; decide
  by_cases h4 : x = bApos
  · subst h4; decide
  by_cases h5 : x = bQuot
  · subst h5; decide
  have hN : namedN x = -1 := by
    unfold namedN
    simp only [beq_iff_eq]
    exact (if_neg h1).trans ((if_neg h2).trans ((if_neg h3).trans ((if_neg h4).trans (if_neg h5))))
  rw [hN, isChar_neg]
  unfold nameRef
  rw [if_neg h1, if_neg h2, if_neg h3, if_neg h4, if_neg h5]
  split
  · exact absurd rfl (h _)
  · exact absurd rfl (h _)
  · rfl
theorem nameRef_ref (x : Bytes) : (if isChar (rN x) = true then some (rN x).toNat else none) = nameRef x := by
  match x with
  | [] => decide
  | [c] =>
    have h1 : rN [c] = namedN [c] := by unfold rN; rw [if_neg (by simp)]
    by_cases hc : c = 35
    · subst hc; decide
    · rw [h1, nameRef_named (fun y h => hc (by cases h; rfl))]
  | c :: d :: y =>
    by_cases hc : c = 35
    · subst hc
      rw [nameRef_hash]
      by_cases hd : d = 120
      · subst hd
        have h1 : rN (35 :: 120 :: y) = numN 16 y := by unfold rN; simp
        rw [h1, numN_char]; rfl
      · have h1 : rN (35 :: d :: y) = numN 10 (d :: y) := by unfold rN; simp [hd]
        rw [h1, numN_char]
        split
        · rename_i h; cases h; exact absurd rfl hd
        · rfl
    · have h1 : rN (c :: d :: y) = namedN (c :: d :: y) := by unfold rN; simp [hc]
      rw [h1, nameRef_named (fun y h => hc (by cases h; rfl))]
theorem of_not_true {b : Bool} (h : (!b) = true) : ¬ b = true := by cases b <;> simp_all
theorem of_not_false {b : Bool} (h : (!b) = false) : b = true := by cases b <;> simp_all
theorem rN_short {x : Bytes} (h : (x.length : Int) ≤ 1) : rN x = namedN x := by
  unfold rN; rw [if_neg (by omega)]
theorem rN_no {x : Bytes} (h1 : 1 < (x.length : Int)) {h2 : 0 < x.length} (h3 : ((x[0].toNat : Int) == 35) = false) : rN x = namedN x := by
  unfold rN
  rw [if_neg]
  rintro ⟨_, h⟩
  rw [List.getD_eq_getElem?_getD, List.getElem?_eq_getElem h2, Option.getD_some] at h
  rw [h] at h3
  exact absurd h3 (by decide)
theorem rN_yes {x : Bytes} (h1 : 1 < (x.length : Int)) {h2 : 0 < x.length} (h3 : ((x[0].toNat : Int) == 35) = true) : rN x = if x.getD 1 0 = 120 then numN 16 (x.drop 2) else numN 10 (x.drop 1) := by
  unfold rN
  rw [if_pos]
  refine ⟨by omega, ?_⟩
  rw [List.getD_eq_getElem?_getD, List.getElem?_eq_getElem h2, Option.getD_some]
  have := eq_of_beq h3
  exact UInt8.toNat_inj.1 (by simpa using Int.ofNat_inj.1 this)
theorem rN_16 {x : Bytes} (h1 : 1 < (x.length : Int)) {h2 : 0 < x.length} (h3 : ((x[0].toNat : Int) == 35) = true) {h5 : 1 < x.length} (h4 : ((x[1].toNat : Int) == 120) = true) : rN x = numN 16 (x.drop 2) := by
  rw [rN_yes h1 h3, if_pos]
  rw [List.getD_eq_getElem?_getD, List.getElem?_eq_getElem h5, Option.getD_some]
  have := eq_of_beq h4
  exact UInt8.toNat_inj.1 (by simpa using Int.ofNat_inj.1 this)
theorem rN_10 {x : Bytes} (h1 : 1 < (x.length : Int)) {h2 : 0 < x.length} (h3 : ((x[0].toNat : Int) == 35) = true) {h5 : 1 < x.length} (h4 : ((x[1].toNat : Int) == 120) = false) : rN x = numN 10 x.tail := by
  rw [rN_yes h1 h3, if_neg, List.drop_one]
  rw [List.getD_eq_getElem?_getD, List.getElem?_eq_getElem h5, Option.getD_some]
  intro h
  rw [h] at h4
  exact absurd h4 (by decide)
theorem refAt_some {l x : Bytes} {n : Nat} (h : n < l.length) (hc : l[n] = 38) (hu : upto 59 (l.drop (n + 1)) = some x) :
    refAt l n = if isChar (rN x) = true then (rN x, (n : Int) + x.length + 2, 0) else (0, 0, 12) := by
  rw [refAt_in h hc]
  unfold tailRef
  rw [hu, Option.bind_some, ← nameRef_ref]
  split
  · rename_i hr
    split at hr
    · rename_i hch
      rw [if_pos hch]
      simp only [Option.map_some, Option.some.injEq, Prod.mk.injEq] at hr
      rw [← hr.1, ← hr.2]
      rw [isChar_iff] at hch
      rw [Int.toNat_of_nonneg (by omega)]
    · cases hr
  · rename_i hr
    split at hr
    · cases hr
    · rename_i hch; rw [if_neg hch]
theorem refAt_none {l : Bytes} {n : Nat} (h : n < l.length) (hc : l[n] = 38) (hu : upto 59 (l.drop (n + 1)) = none) : refAt l n = (0, 0, 12) := by
  rw [refAt_in h hc]
  unfold tailRef
  rw [hu]; rfl
theorem refAt_out {l : Bytes} {k : Int} (h : ¬ (0 ≤ k ∧ k < l.length)) : refAt l k = (0, 0, 12) := by
  unfold refAt
  rw [if_neg (fun h' => h ⟨h'.1, h'.2.1⟩)]
theorem refAt_byte {l : Bytes} {n : Nat} (h : n < l.length) (hc : l[n] ≠ 38) : refAt l n = (0, 0, 12) := by
  unfold refAt
  rw [if_neg (fun h' => hc (by have := h'.2.2; simpa [h] using this))]
theorem upto_at {l : Bytes} {n e : Nat} (he : e < l.length) (hn : n ≤ e) (hc : l[e] = 59) (hj : ∀ j, n ≤ j → j < e → ∀ h : j < l.length, l[j] ≠ 59) :
    upto 59 (l.drop n) = some ((l.drop n).take (e - n)) := by
  have e1 : l.drop n = (l.drop n).take (e - n) ++ 59 :: l.drop (e + 1) := by
    have e2 : (l.drop n).drop (e - n) = 59 :: l.drop (e + 1) := by
      rw [List.drop_drop, show n + (e - n) = e by omega, List.drop_eq_getElem_cons he, hc]
    rw [← e2, List.take_append_drop]
  conv => lhs; rw [e1]
  refine upto_of fun b hb => ?_
  obtain ⟨i, hi, rfl⟩ := List.getElem_of_mem hb
  simp only [List.length_take, List.length_drop] at hi
  rw [List.getElem_take, List.getElem_drop]
  exact hj (n + i) (by omega) (by omega) (by omega)
theorem upto_past {l : Bytes} {n : Nat} (hj : ∀ j, n ≤ j → ∀ h : j < l.length, l[j] ≠ 59) : upto 59 (l.drop n) = none := by
  refine upto_none fun b hb => ?_
  obtain ⟨i, hi, rfl⟩ := List.getElem_of_mem hb
  simp only [List.length_drop] at hi
  rw [List.getElem_drop]
  exact hj (n + i) (by omega) (by omega)

theorem ret_ref {k1 k2 k3 : IntKind} {a b c : Int} {r : Int × Int × Int} (h : r = (a, b, c)) : Ending.returned (.tuple #[.int k1 a, .int k2 b, .int k3 c]) = .returned (.tuple #[.int k1 r.1, .int k2 r.2.1, .int k3 r.2.2]) := by rw [h]
theorem refNumber10 (l : Bytes) (w : World) (hl : l.length ≤ 4611686018427387904) :
    Calls Tryz.prog 135 #[.string (S l), .int .i64 10] w fun e w' => e = .returned (.int .i64 (numN 10 l)) ∧ w = w' := refNumber_any 10 (.inl rfl) l w hl
theorem refNumber16 (l : Bytes) (w : World) (hl : l.length ≤ 4611686018427387904) :
    Calls Tryz.prog 135 #[.string (S l), .int .i64 16] w fun e w' => e = .returned (.int .i64 (numN 16 l)) ∧ w = w' := refNumber_any 16 (.inr rfl) l w hl

set_option maxHeartbeats 1000000 in
theorem refReference_out (l : Bytes) (k : Int) (w : World) (hl : l.length ≤ 4611686018427387904) (h : k < 0 ∨ (l.length : Int) ≤ k) :
    Calls Tryz.prog 122 #[.string (S l), .int .i64 k] w fun e w' => e = .returned (.tuple #[.int .i64 (refAt l k).1, .int .i64 (refAt l k).2.1, .int .i64 (refAt l k).2.2]) ∧ w = w' := by
  rw [refAt_out (by omega)]
  rcases h with h | h
  · go_enter Tryz.func122, Tryz.ntmps122
    go_wp2
    go_ret3
    exact ⟨rfl, rfl⟩
  · have h0 : 0 ≤ k := by omega
    go_enter Tryz.func122, Tryz.ntmps122
    go_wp2
    go_ret3
    exact ⟨rfl, rfl⟩
set_option maxHeartbeats 1000000 in
theorem refReference_byte (l : Bytes) (n : Nat) (w : World) (hl : l.length ≤ 4611686018427387904) (h : n < l.length) (hc : l[n] ≠ 38) :
    Calls Tryz.prog 122 #[.string (S l), .int .i64 n] w fun e w' => e = .returned (.tuple #[.int .i64 (refAt l n).1, .int .i64 (refAt l n).2.1, .int .i64 (refAt l n).2.2]) ∧ w = w' := by
  rw [refAt_byte h hc]
  have t1 : (((l[n]).toNat : Int) == 38) = false := by
    rw [beq_eq_false_iff_ne]; exact fun e => hc (UInt8.toNat_inj.1 (by simpa using Int.ofNat_inj.1 e))
  have t1' : (((l[n]).toNat : Int) != 38) = true := by rw [bne, t1]; rfl
  have T := Lib.hid hc
  clear hc
  go_enter Tryz.func122, Tryz.ntmps122
  go_wp2
  go_ret3
  exact ⟨rfl, rfl⟩
set_option maxHeartbeats 1000000 in
theorem refReference_amp (l : Bytes) (n : Nat) (w : World) (hl : l.length ≤ 4611686018427387904) (h : n < l.length) (hc : l[n] = 38) :
    Calls Tryz.prog 122 #[.string (S l), .int .i64 n] w fun e w' => e = .returned (.tuple #[.int .i64 (refAt l n).1, .int .i64 (refAt l n).2.1, .int .i64 (refAt l n).2.2]) ∧ w = w' := by
  have t1 : (((l[n]).toNat : Int) == 38) = true := by rw [hc]; rfl
  have t1' : (((l[n]).toNat : Int) != 38) = false := by rw [bne, t1]; rfl
  have T := Lib.hid hc
  clear hc
  obtain ⟨r, hr⟩ : ∃ r, refAt l n = r := ⟨_, rfl⟩
  rw [hr]
  have HR := Lib.hid hr
  clear hr
  go_enter Tryz.func122, Tryz.ntmps122
  go_wp2_with fail
  go_loopw [7] (fun e7 wr => ∃ e : Nat, n ≤ e ∧ e ≤ l.length ∧ e7 = .int .i64 e ∧ (∀ j, n ≤ j → j < e → ∀ h : j < l.length, l[j] ≠ 59) ∧ w = wr) (fun e7 _ => l.length - (intOf e7).toNat)
  case atStart => exact ⟨n, Nat.le_refl _, by omega, rfl, fun j h1 h2 => by omega, rfl⟩
  case round =>
    obtain ⟨e, hne, hel, rfl, hj, rfl⟩ := hrel
    have HJ := Lib.hid hj
    clear hj
    by_cases hlt : e < l.length
    · have hli : (e : Int) < l.length := by omega
      by_cases hs : l[e] = 59
      · have t2 : (((l[e]).toNat : Int) == 59) = true := by rw [hs]; rfl
        have t2' : (((l[e]).toNat : Int) != 59) = false := by rw [bne, t2]; rfl
        have hen : e ≠ n := by rintro rfl; rw [T.out] at hs; exact absurd hs (by decide)
        have hu : upto 59 (l.drop (n + 1)) = some ((l.drop (n + 1)).take (e - (n + 1))) := upto_at hlt (by omega) hs (fun j h1 h2 h3 => HJ.out j (by omega) h2 h3)
        obtain ⟨x, hx⟩ : ∃ x, (l.drop (n + 1)).take (e - (n + 1)) = x := ⟨_, rfl⟩
        have hxl : x.length = e - (n + 1) := by rw [← hx]; simp only [List.length_take, List.length_drop]; omega
        rw [hx] at hu
        have HU := Lib.hid hu
        have HXL := Lib.hid hxl
        have HS := Lib.hid hs
        have hra := (refAt_some h T.out HU.out).symm.trans HR.out
        have HRA := Lib.hid hra
        clear hu hxl hs hra
        have e1 : (n : Int) + 1 ≤ e := by omega
        have hxt : x.length ≤ 4611686018427387904 := by have := HXL.out; omega
        have hx1 : x.tail.length ≤ 4611686018427387904 := by rw [List.length_tail]; omega
        have hx2 : (x.drop 2).length ≤ 4611686018427387904 := by rw [List.length_drop]; omega
        go_wp2_with (first
          | ((go_at_call 134; with_reducible refine (refNamed_any _ _).mono ?_; rintro e w' ⟨rfl, rfl⟩))
          | ((go_at_call 135; with_reducible refine (refNumber10 _ _ hx1).mono ?_; rintro e w' ⟨rfl, rfl⟩))
          | ((go_at_call 135; with_reducible refine (refNumber16 _ _ hx2).mono ?_; rintro e w' ⟨rfl, rfl⟩))
          | ((go_at_call 92; with_reducible refine (refIsChar_any _ _).mono ?_; rintro e w' ⟨rfl, rfl⟩)))
        all_goals
          go_ret3
          refine ⟨ret_ref (HRA.out.symm.trans ?_), rfl⟩
          have hen2 : (n : Int) + x.length + 2 = e + 1 := by have := HXL.out; omega
          first
            | rw [rN_16 (by assumption) (by assumption) (by assumption), if_neg (of_not_true (by assumption))]
            | rw [rN_16 (by assumption) (by assumption) (by assumption), if_pos (of_not_false (by assumption)), hen2]
            | rw [rN_10 (by assumption) (by assumption) (by assumption), if_neg (of_not_true (by assumption))]
            | rw [rN_10 (by assumption) (by assumption) (by assumption), if_pos (of_not_false (by assumption)), hen2]
            | rw [rN_no (by assumption) (by assumption), if_neg (of_not_true (by assumption))]
            | rw [rN_no (by assumption) (by assumption), if_pos (of_not_false (by assumption)), hen2]
            | rw [rN_short (by assumption), if_neg (of_not_true (by assumption))]
            | rw [rN_short (by assumption), if_pos (of_not_false (by assumption)), hen2]
      · have t2 : (((l[e]).toNat : Int) == 59) = false := by
          rw [beq_eq_false_iff_ne]; exact fun e => hs (UInt8.toNat_inj.1 (by simpa using Int.ofNat_inj.1 e))
        have t2' : (((l[e]).toNat : Int) != 59) = true := by rw [bne, t2]; rfl
        have HS := Lib.hid hs
        clear hs
        go_wp2_with fail
        go_roundw
        case rel =>
          refine ⟨e + 1, by omega, by omega, by go_num, fun j h1 h2 h3 => ?_, by first | rfl | trivial⟩
          by_cases hje : j = e
          · subst hje; exact HS.out
          · exact HJ.out j h1 (by omega) h3
        case measure => simp [intOf]; omega
    · obtain rfl : e = l.length := by omega
      have hra := (refAt_none h T.out (upto_past (fun j h1 h3 => HJ.out j (by omega) h3 h3))).symm.trans HR.out
      have HRA := Lib.hid hra
      clear hra
      go_wp2
      go_ret3
      exact ⟨ret_ref HRA.out.symm, rfl⟩
theorem refReference_any (l : Bytes) (k : Int) (w : World) (hl : l.length ≤ 4611686018427387904) :
    Calls Tryz.prog 122 #[.string (S l), .int .i64 k] w fun e w' => e = .returned (.tuple #[.int .i64 (refAt l k).1, .int .i64 (refAt l k).2.1, .int .i64 (refAt l k).2.2]) ∧ w = w' := by
  by_cases h : k < 0 ∨ (l.length : Int) ≤ k
  · exact refReference_out l k w hl h
  · obtain ⟨n, rfl⟩ : ∃ n : Nat, k = n := ⟨k.toNat, by omega⟩
    by_cases hc : l[n]'(by omega) = 38
    · exact refReference_amp l n w hl (by omega) hc
    · exact refReference_byte l n w hl (by omega) hc
end Go.Proofs.YtclhdppppgjgfaaGreatDoor
set_option linter.unusedVariables false
namespace Go.Proofs.YtclhdppppgjgfaaGreatDoor
open Go.RowKit

theorem byte_eq {c : UInt8} {k : Nat} (h : c.toNat = k) : ((c.toNat : Int) == (k : Int)) = true := by rw [h]; simp
theorem byte_ne {c : UInt8} {k : Nat} (h : c.toNat ≠ k) : ((c.toNat : Int) == (k : Int)) = false := by rw [beq_eq_false_iff_ne]; omega

set_option maxHeartbeats 2000000 in
theorem refLines_any (l : Bytes) (w : World) (hl : l.length ≤ 1099511627776) :
    Calls Tryz.prog 94 #[.string (S l)] w fun e w' => e = .returned (.string (S (linesB l))) ∧ Below w.heap.size w w' := by
  obtain ⟨R, hR⟩ : ∃ R, linesB l = R := ⟨_, rfl⟩
  rw [hR]
  have HR := Lib.hid hR
  clear hR
  go_enter Tryz.func94, Tryz.ntmps94
  go_wp2_with fail
  go_loopw [3, 4] (fun v3 i4 wr => ∃ (i : Nat) (o : Bytes), i ≤ l.length ∧ i4 = .int .i64 i ∧ o.length ≤ i ∧ o ++ linesB (l.drop i) = R ∧ Own w.heap.size v3 o wr ∧ Below w.heap.size w wr) (fun _ i4 _ => l.length - (intOf i4).toNat)
  case atStart => exact ⟨0, [], Nat.zero_le _, rfl, by simp, HR.out, Own.nil _ _, Below.refl _ _⟩
  case round =>
    obtain ⟨i, o, hil, rfl, hoi, ho, hown, hb⟩ := hrel
    have HO := Lib.hid hown
    have HB := Lib.hid hb
    have hsz := hb.size
    clear hown hb
    by_cases hlt : i < l.length
    · have hil' : (i : Int) < l.length := by omega
      by_cases hc : l[i].toNat = 13
      · have t1 : ((l[i].toNat : Int) == 13) = true := byte_eq hc
        by_cases hx : ∃ h : i + 1 < l.length, l[i + 1].toNat = 10
        · obtain ⟨hx1, hx2⟩ := hx
          have hx1' : (i : Int) + 1 < l.length := by omega
          have t2 : ((l[i + 1].toNat : Int) == 10) = true := byte_eq hx2
          rw [lines_skip hx1 hc hx2] at ho
          have HOO := Lib.hid ho
          clear ho hc hx2
          go_wp2_with fail
          go_roundw
          case rel => exact ⟨i + 1, o, by omega, by go_num, by omega, HOO.out, HO.out, HB.out⟩
          case measure => simp [intOf]; omega
        · rw [lines_cr hlt hc (fun h h2 => hx ⟨h, h2⟩)] at ho
          have HOO := Lib.hid ho
          have hx' : (¬ (i : Int) + 1 < l.length) ∨ ((i : Int) + 1 < l.length ∧ ∃ h : i + 1 < l.length, ((l[i + 1].toNat : Int) == 10) = false) := by
            by_cases h : i + 1 < l.length
            · exact .inr ⟨by omega, h, byte_ne (fun h2 => hx ⟨h, h2⟩)⟩
            · exact .inl (by omega)
          clear ho hc hx
          rcases hx' with hx' | ⟨hx1, hx2, hx3⟩
          all_goals
            go_wp2_with (at_builtin; refine own_append_byte (c := 10) rfl _ _ rfl w.heap.size _ o rfl HO.out rfl (by omega) hsz ?_; intro v' w' hown' hb')
            go_roundw
            case rel => exact ⟨i + 1, o ++ [10], by omega, by go_num, by simp; omega, by rw [List.append_assoc]; exact HOO.out, hown', HB.out.trans (hb'.mono (Nat.le_refl _))⟩
            case measure => simp [intOf]; omega
      · have t1 : ((l[i].toNat : Int) == 13) = false := byte_ne hc
        rw [lines_byte hlt hc] at ho
        have HOO := Lib.hid ho
        clear ho hc
        go_wp2_with (at_builtin; refine own_append_byte rfl _ _ rfl w.heap.size _ o rfl HO.out rfl (by omega) hsz ?_; intro v' w' hown' hb')
        go_roundw
        case rel => exact ⟨i + 1, o ++ [l[i]], by omega, by go_num, by simp; omega, by rw [List.append_assoc]; exact HOO.out, hown', HB.out.trans (hb'.mono (Nat.le_refl _))⟩
        case measure => simp [intOf]; omega
    · obtain rfl : i = l.length := by omega
      rw [List.drop_length, linesB, List.append_nil] at ho
      subst ho
      have hcv := own_string HO.out
      go_wp2
      go_ret
      exact ⟨rfl, HB.out⟩

/-- A slice of bytes in a block of its own. -/
def BytesAt (w : World) (g : Nat) (P : Bytes) : Prop := ∃ C : Array Value, w.heap[g]? = some (.cells C 5 (C.size, C.size + 1)) ∧ ∀ (j : Nat) c, P[j]? = some c → C[j]? = some (.int .u8 c.toNat)
section
variable {w w' : World} {g : Nat} {P : Bytes}
theorem BytesAt.lt (h : BytesAt w g P) : g < w.heap.size := by obtain ⟨C, h1, _⟩ := h; exact heap_lt h1
theorem BytesAt.size {C : Array Value} (h : ∀ (j : Nat) c, P[j]? = some c → C[j]? = some (.int .u8 c.toNat)) : P.length ≤ C.size := by
  rcases Nat.eq_zero_or_pos P.length with h0 | h0
  · omega
  · have := h (P.length - 1) _ (List.getElem?_eq_getElem (by omega))
    have := (Array.getElem?_eq_some_iff.1 this).1
    omega
theorem BytesAt.cell (h : BytesAt w g P) {j : Nat} (hj : j < P.length) : w.cell? ⟨g, j, none⟩ = some (.int .u8 P[j].toNat) := by
  obtain ⟨C, h1, h2⟩ := h
  rw [Lib.cell_of_heap h1]
  exact h2 j _ (List.getElem?_eq_getElem hj)
theorem BytesAt.free (h : BytesAt w g P) {j : Nat} (hj : j < P.length) : w.frozen? ⟨g, j, none⟩ = false := by
  obtain ⟨C, h1, h2⟩ := h
  have := BytesAt.size h2
  unfold World.frozen?
  simp only [h1]
  simp
  omega
theorem BytesAt.set_ (h : BytesAt w g P) {j : Nat} (hj : j < P.length) (c : UInt8) : BytesAt (w.setCell ⟨g, j, none⟩ (.int .u8 c.toNat)) g (P.set j c) := by
  obtain ⟨C, h1, h2⟩ := h
  have hs := BytesAt.size h2
  refine ⟨C.setIfInBounds j (.int .u8 c.toNat), ?_, ?_⟩
  · simp [World.setCell, Array.getElem?_modify, h1]
  · intro i d hd
    by_cases hij : j = i
    · subst hij
      rw [List.getElem?_set_self hj] at hd
      cases hd
      rw [Array.getElem?_setIfInBounds_self_of_lt (by omega)]
    · rw [List.getElem?_set_ne hij] at hd
      rw [Array.getElem?_setIfInBounds_ne hij]
      exact h2 i d hd
end
theorem bytes_of (w : World) (P : Bytes) : ∃ (c : Nat) (W : World), (convert 9 66 (.string (S P))).run Tryz.prog w = .ok (.slice (some ⟨w.heap.size, 0, none⟩) P.length c) W ∧ BytesAt W w.heap.size P ∧ Below w.heap.size w W := by
  refine ⟨_, _, by have := run_bytes_of_string (P := Tryz.prog) w 9 66 5 (S P) Tryz.underlying9 Tryz.underlying66 Tryz.underlying5; rw [S_size] at this; exact this, ?_, ?_⟩
  · refine ⟨_, heap_alloc_new w.drew _, ?_⟩
    intro j c hc
    have hj := (List.getElem?_eq_some_iff.1 hc).1
    unfold bytesRow
    rw [Array.getElem?_append_left (by simp [S]; exact hj)]
    simp [S, hc]
  · exact below_drew ((Below.refl w.heap.size w.drew).alloc (show w.heap.size ≤ w.drew.heap.size from Nat.le_refl _) _)
theorem bytes_back {w : World} {g : Nat} {P : Bytes} (h : BytesAt w g P) (c : Nat) : (convert 66 9 (.slice (some ⟨g, 0, none⟩) P.length c)).run Tryz.prog w = .ok (.string (S P)) w := by
  refine run_bytes_string w ⟨g, 0, none⟩ P c ?_
  intro j x hj
  have hj' := (List.getElem?_eq_some_iff.1 hj).1
  rw [show (⟨g, 0, none⟩ : Addr).add j = ⟨g, j, none⟩ by unfold Addr.add; split <;> simp_all]
  rw [h.cell hj']
  rw [List.getElem?_eq_getElem hj'] at hj
  cases hj; rfl
theorem ret_con {a : Bytes} {b c : Int} {r : Bytes × Int × Int} (h : r = (a, b, c)) : Ending.returned (.tuple #[.string (S a), .int .i64 b, .int .i64 c]) = .returned (.tuple #[.string (S r.1), .int .i64 r.2.1, .int .i64 r.2.2]) := by rw [h]

set_option maxHeartbeats 4000000 in
set_option maxRecDepth 100000 in
theorem refContent_any (v : Bool) (l : Bytes) (a b : Nat) (w : World) (hab : a ≤ b) (hbl : b ≤ l.length) (hl : l.length ≤ 1099511627776) :
    Calls Tryz.prog 98 #[.string (S l), .int .i64 a, .int .i64 b, .bool v] w fun e w' => e = .returned (.tuple #[.string (S (contR b (cont v l a b)).1), .int .i64 (contR b (cont v l a b)).2.1, .int .i64 (contR b (cont v l a b)).2.2]) ∧ Below w.heap.size w w' := by
  obtain ⟨R, hR⟩ : ∃ R, cont v l a b = R := ⟨_, rfl⟩
  rw [hR]
  unfold cont at hR
  obtain ⟨x, hx⟩ : ∃ x, l.take b = x := ⟨_, rfl⟩
  rw [hx] at hR
  have hxl : x.length = b := by rw [← hx, List.length_take]; omega
  have hxi : ∀ i (h1 : i < x.length) (h2 : i < l.length), x[i] = l[i] := by intro i h1 h2; subst hx; rw [List.getElem_take]
  have hxd : ∀ i k, k ≤ b → (x.drop i).take (k - i) = (l.drop i).take (k - i) := by
    intro i k hk
    subst hx
    rw [List.drop_take, List.take_take, Nat.min_eq_left (by omega)]
  have HX := Lib.hid hx
  have HXL := Lib.hid hxl
  have HXI := Lib.hid hxi
  have HXD := Lib.hid hxd
  have HR := Lib.hid (ConAt.start hR)
  clear hx hxl hxi hxd hR
  go_enter Tryz.func98, Tryz.ntmps98
  go_wp2_with fail
  go_loopw [11, 12] (fun o11 i12 wr => ∃ (o : Bytes) (i : Nat), i ≤ b ∧ i12 = .int .i64 i ∧ o11 = .string (S o) ∧ o.length ≤ 4 * i ∧ ConAt v x o i R ∧ Below w.heap.size w wr) (fun _ i12 _ => b - (intOf i12).toNat)
  case atStart => exact ⟨[], a, hab, rfl, rfl, by simp, HR.out, Below.refl _ _⟩
  case round =>
    obtain ⟨o, i, hib, rfl, rfl, hol, hcon, hb⟩ := hrel
    have HC := Lib.hid hcon
    have HB := Lib.hid hb
    have hsz := hb.size
    clear hcon hb
    by_cases hlt : i < b
    · have hlt' : (i : Int) < b := by omega
      have hil : i < l.length := by omega
      have hix : i < x.length := by rw [HXL.out]; exact hlt
      have hbl' : (b : Int) ≤ l.length := by omega
      by_cases hc : l[i] = 38
      · have hxc : x[i] = 38 := by rw [HXI.out i hix hil]; exact hc
        have t1 : ((l[i].toNat : Int) == 38) = true := by rw [hc]; rfl
        have hra := refAt_in hix hxc
        clear hc
        cases ht : tailRef (x.drop (i + 1)) with
        | none =>
          rw [ht] at hra
          have hend := HC.out.bad hix hxc ht
          have HE := Lib.hid hend
          have hcall : ∀ w, Calls Tryz.prog 122 #[.string (S (l.take b)), .int .i64 i] w fun e w' => e = .returned (.tuple #[.int .i64 0, .int .i64 0, .int .i64 12]) ∧ w = w' := fun w => by
            rw [HX.out]
            have := refReference_any x i w (by rw [HXL.out]; omega)
            rw [hra] at this
            exact this
          have HCL := Lib.hid hcall
          clear hcall hend hra ht hxc hix
          go_wp2_with (go_at_call 122; refine (HCL.out _).mono ?_; rintro e w' ⟨rfl, rfl⟩)
          go_ret3
          exact ⟨ret_con (by rw [HE.out]; rfl), HB.out⟩
        | some p =>
          obtain ⟨q, m⟩ := p
          rw [ht] at hra
          have hm := tailRef_len ht
          have hq := tailRef_char ht
          rw [List.length_drop, HXL.out] at hm
          have hnx := HC.out.ref hix hxc ht
          have HN := Lib.hid hnx
          have hel : (enc q).length ≤ 4 := (enc_len q (isChar_ok hq)).2
          have hcall : ∀ w, Calls Tryz.prog 122 #[.string (S (l.take b)), .int .i64 i] w fun e w' => e = .returned (.tuple #[.int .i64 q, .int .i64 ((i : Int) + m + 2), .int .i64 0]) ∧ w = w' := fun w => by
            rw [HX.out]
            have := refReference_any x i w (by rw [HXL.out]; omega)
            rw [hra] at this
            exact this
          have henc : ∀ w, Calls Tryz.prog 117 #[.int .i64 q] w fun e w' => e = .returned (.string (S (enc q))) ∧ Below w.heap.size w w' := fun w => by
            have := refEncode_any q w
            rw [encI_nat] at this
            exact this
          have HCL := Lib.hid hcall
          have HEN := Lib.hid henc
          clear hcall henc hra ht hxc hix hq hnx
          generalize enc q = E at *
          go_wp2_with (first
            | (go_at_call 122; refine (HCL.out _).mono ?_; rintro e w' ⟨rfl, rfl⟩)
            | (go_at_call 117; refine (HEN.out _).mono ?_; rintro e w' ⟨rfl, hbe⟩))
          go_roundw
          case rel =>
            exact ⟨o ++ E, i + m + 2, by omega, by go_num, rfl, by rw [List.length_append]; omega, HN.out, HB.out.trans (hbe.mono hsz)⟩
          case measure => simp [intOf]; omega
      · have t1 : ((l[i].toNat : Int) == 38) = false := byte_ne (k := 38) (fun e => hc (UInt8.toNat_inj.1 e))
        have hxc : x[i] ≠ 38 := by rw [HXI.out i hix hil]; exact hc
        have hrun := HC.out.run (Nat.le_of_lt hix)
        have hK1 : i < ampEnd x i := by rw [ampEnd_yes hix hxc]; exact ampEnd_ge x (i + 1)
        have hK2 : ampEnd x i ≤ b := by have := ampEnd_le (Nat.le_of_lt hix); rw [HXL.out] at this; exact this
        rw [HXD.out i _ hK2] at hrun
        obtain ⟨K, hK⟩ : ∃ K, ampEnd x i = K := ⟨_, rfl⟩
        rw [hK] at hrun hK1 hK2
        have HK := Lib.hid hK
        have HRUN := Lib.hid hrun
        clear hc hxc hrun hK hix
        go_wp2_with fail
        go_loopw [16] (fun k16 wx => ∃ k : Nat, k ≤ b ∧ i ≤ k ∧ k16 = .int .i64 k ∧ ampEnd x k = K ∧ wr = wx) (fun k16 _ => b - (intOf k16).toNat)
        case atStart => exact ⟨i, by omega, Nat.le_refl _, rfl, HK.out, rfl⟩
        case round =>
          obtain ⟨k, hkb, hik, rfl, hk, rfl⟩ := hrel
          have HKK := Lib.hid hk
          clear hk
          by_cases hgo : k < b ∧ ∃ h : k < l.length, l[k] ≠ 38
          · obtain ⟨hg1, hg2, hg3⟩ := hgo
            have hg1' : (k : Int) < b := by omega
            have t3 : ((l[k].toNat : Int) == 38) = false := byte_ne (k := 38) (fun e => hg3 (UInt8.toNat_inj.1 e))
            have t3' : ((l[k].toNat : Int) != 38) = true := by rw [bne, t3]; rfl
            have hnx := HKK.out
            rw [ampEnd_yes (by rw [HXL.out]; exact hg1) (by rw [HXI.out k (by rw [HXL.out]; exact hg1) hg2]; exact hg3)] at hnx
            have HN := Lib.hid hnx
            clear hnx hg3
            go_wp2_with fail
            go_roundw
            case rel => exact ⟨k + 1, by omega, by omega, by go_num, HN.out, by first | rfl | trivial⟩
            case measure => simp [intOf]; omega
          · have hkK : k = K := by
              by_cases hkb2 : k < b
              · have h3 : l[k]'(by omega) = 38 := by
                  by_cases h4 : l[k]'(by omega) = 38
                  · exact h4
                  · exact absurd ⟨hkb2, by omega, h4⟩ hgo
                rw [← HKK.out, ampEnd_no (by rw [HXL.out]; exact hkb2) (by rw [HXI.out k (by rw [HXL.out]; exact hkb2) (by omega)]; exact h3)]
              · have h5 : k = x.length := by rw [HXL.out]; omega
                have h6 := HKK.out
                rw [h5, ampEnd_end] at h6
                rw [h5, h6]
            have hstop : (¬ (k : Int) < b) ∨ ((k : Int) < b ∧ ∃ h : k < l.length, ((l[k].toNat : Int) == 38) = true ∧ ((l[k].toNat : Int) != 38) = false) := by
              by_cases hkb2 : k < b
              · have h3 : l[k]'(by omega) = 38 := by
                  by_cases h4 : l[k]'(by omega) = 38
                  · exact h4
                  · exact absurd ⟨hkb2, by omega, h4⟩ hgo
                exact .inr ⟨by omega, by omega, by rw [h3]; rfl, by rw [h3]; rfl⟩
              · exact .inl (by omega)
            subst hkK
            have hlen := linesB_len ((l.drop i).take (k - i))
            rw [List.length_take, List.length_drop] at hlen
            have hlen2 : (linesB ((l.drop i).take (k - i))).length ≤ k - i := by omega
            have hcall := fun w => refLines_any ((l.drop i).take (k - i)) w (by rw [List.length_take, List.length_drop]; omega)
            have hk' : (k : Int) ≤ l.length := by omega
            have hik' : (i : Int) ≤ k := by omega
            obtain ⟨P, hP⟩ : ∃ P, linesB ((l.drop i).take (k - i)) = P := ⟨_, rfl⟩
            rw [hP] at hlen2 hcall HRUN
            have HCL := Lib.hid hcall
            clear hlen hcall hP hgo
            rcases hstop with hs1 | ⟨hs1, hs2, hs3, hs4⟩
            all_goals
              go_wp2_with fail
              refine (HCL.out _).mono ?_
              rintro e w1 ⟨rfl, hb1⟩
              have HB1 := Lib.hid (HB.out.trans (hb1.mono hsz))
              clear hb1
              obtain ⟨c, W, hcv, hby, hbW⟩ := bytes_of w1 P
              have HB2 := Lib.hid (HB1.out.trans (hbW.mono HB1.out.size))
              have HG := Lib.hid (HB1.out.size)
              have HBY := Lib.hid hby
              generalize w1.heap.size = g at *
              clear hbW hby
              go_wp2_with fail
              cases v
              · rw [blanks_false] at HRUN
                have hbk := bytes_back HBY.out c
                go_loop [18] (fun j18 => ∃ j : Nat, j ≤ P.length ∧ j18 = .int .i64 j) (fun j18 => P.length - (intOf j18).toNat)
                case atStart => exact ⟨0, Nat.zero_le _, rfl⟩
                case round =>
                  obtain ⟨j, hj, rfl⟩ := hrel
                  by_cases hjl : j < P.length
                  · have hjl' : (j : Int) < P.length := by omega
                    go_wp2_with fail
                    go_round
                    case rel => exact ⟨j + 1, by omega, by go_num⟩
                    case measure => simp [intOf]; omega
                  · have hjl' : ¬ (j : Int) < P.length := by omega
                    go_wp2_with fail
                    go_roundw
                    case rel => exact ⟨o ++ P, k, by omega, rfl, rfl, by rw [List.length_append]; omega, HRUN.out, HB2.out⟩
                    case measure => simp [intOf]; omega
              · go_loopw [18] (fun j18 wx => ∃ j : Nat, j ≤ P.length ∧ j18 = .int .i64 j ∧ BytesAt wx g (blTo P j) ∧ Below w.heap.size w wx) (fun j18 _ => P.length - (intOf j18).toNat)
                case atStart => exact ⟨0, Nat.zero_le _, rfl, by rw [blTo_zero]; exact HBY.out, HB2.out⟩
                case round =>
                  obtain ⟨j, hj, rfl, hby2, hb2⟩ := hrel
                  have HY := Lib.hid hby2
                  have HB3 := Lib.hid hb2
                  clear hb2
                  by_cases hjl : j < P.length
                  · have hjl' : (j : Int) < P.length := by omega
                    have hj2 : j < (blTo P j).length := by rw [blTo_len]; exact hjl
                    have hcell := hby2.cell hj2
                    have hfree := hby2.free hj2
                    rw [blTo_get hjl] at hcell
                    have hcall2 := fun w => refIsSpace_is P[j] w
                    cases hs : isSp P[j]
                    · rw [hs] at hcall2
                      have HC2 := Lib.hid hcall2
                      have HN := Lib.hid (blTo_no hjl hs)
                      clear hcall2 hs hby2
                      go_wp2_with (go_at_call 66; refine (HC2.out _).mono ?_; rintro e w' ⟨rfl, rfl⟩)
                      go_roundw
                      case rel => exact ⟨j + 1, by omega, by go_num, by rw [HN.out]; exact HY.out, HB3.out⟩
                      case measure => simp [intOf]; omega
                    · rw [hs] at hcall2
                      have HC2 := Lib.hid hcall2
                      have HN := Lib.hid (blTo_yes hjl hs)
                      clear hcall2 hs hby2
                      go_wp2_with (go_at_call 66; refine (HC2.out _).mono ?_; rintro e w' ⟨rfl, rfl⟩)
                      go_roundw
                      case rel => exact ⟨j + 1, by omega, by go_num, by rw [HN.out]; exact HY.out.set_ hj2 32, HB3.out.setCell (p := ⟨g, j, none⟩) HG.out _⟩
                      case measure => simp [intOf]; omega
                  · have hjl' : ¬ (j : Int) < P.length := by omega
                    obtain rfl : j = P.length := by omega
                    rw [blTo_all] at hby2
                    have hbl2 := blanks_len true P
                    have hbk := bytes_back hby2 c
                    rw [hbl2] at hbk
                    generalize blanks true P = D at *
                    have hbl3 : D.length ≤ k - i := by omega
                    have HBL := Lib.hid hbl2
                    clear hby2 hbl2
                    go_wp2_with fail
                    go_roundw
                    case rel => exact ⟨o ++ D, k, by omega, rfl, rfl, by rw [List.length_append]; omega, HRUN.out, HB3.out⟩
                    case measure => simp [intOf]; omega
    · obtain rfl : i = b := by omega
      have hlt' : ¬ (i : Int) < i := by omega
      have hcc := HC.out
      rw [← HXL.out] at hcc
      have hend := hcc.end_
      have HE := Lib.hid hend
      clear hcc hend
      go_wp2
      go_ret3
      exact ⟨ret_con (by rw [HE.out]; rfl), HB.out⟩
end Go.Proofs.YtclhdppppgjgfaaGreatDoor
set_option linter.unusedVariables false
namespace Go.Proofs.YtclhdppppgjgfaaGreatDoor
open Go.RowKit

def tabC (c : UInt8) : UInt8 := if c.toNat = 10 ∨ c.toNat = 9 then 32 else c
theorem tabNl_map (x : Bytes) : tabNl x = x.map tabC := rfl
theorem repT_c (c : UInt8) : repT c.toNat = tabC c := by
  unfold repT tabC
  split
  · rfl
  · exact UInt8.ofNat_toNat
/-- The bytes when i of them have been looked at. -/
def nlTo (P : Bytes) (i : Nat) : Bytes := (P.take i).map tabC ++ P.drop i
theorem nlTo_zero (P : Bytes) : nlTo P 0 = P := by simp [nlTo]
theorem nlTo_all (P : Bytes) : nlTo P P.length = tabNl P := by simp [nlTo, tabNl_map]
theorem nlTo_len (P : Bytes) (i : Nat) : (nlTo P i).length = P.length := by
  unfold nlTo
  rw [List.length_append, List.length_map, List.length_take, List.length_drop]; omega
theorem nlTo_form {P : Bytes} {i : Nat} (h : i < P.length) : nlTo P i = (P.take i).map tabC ++ P[i] :: P.drop (i + 1) := by
  unfold nlTo; rw [List.drop_eq_getElem_cons h]
theorem nlTo_next {P : Bytes} {i : Nat} (h : i < P.length) : nlTo P (i + 1) = (P.take i).map tabC ++ tabC P[i] :: P.drop (i + 1) := by
  unfold nlTo
  rw [List.take_succ_eq_append_getElem h, List.map_append, List.append_assoc]
  rfl
theorem nlTo_same {P : Bytes} {i : Nat} (h : i < P.length) (hs : tabC P[i] = P[i]) : nlTo P (i + 1) = nlTo P i := by
  rw [nlTo_next h, nlTo_form h, hs]
theorem nlTo_set {P : Bytes} {i : Nat} (h : i < P.length) : nlTo P (i + 1) = (nlTo P i).set i (tabC P[i]) := by
  have hl : ((P.take i).map tabC).length = i := by rw [List.length_map, List.length_take]; omega
  rw [nlTo_next h, nlTo_form h, List.set_append_right _ _ (by omega), hl, Nat.sub_self, List.set_cons_zero]

/-- How far the replacement has come: nothing to replace yet, or a copy. -/
def RpAt (l : Bytes) (base : Nat) (i : Nat) (v : Value) (w : World) : Prop :=
  (v = .slice none 0 0 ∧ nlTo l i = l) ∨ ∃ g c, v = .slice (some ⟨g, 0, none⟩) l.length c ∧ base ≤ g ∧ BytesAt w g (nlTo l i)

set_option maxHeartbeats 2000000 in
set_option maxRecDepth 100000 in
theorem byteReplace_any (t : Nat) (l : Bytes) (w : World) (hT : Tab8 w t repT) (hl : l.length ≤ 4611686018427387904) :
    Calls Tryz.prog 203 #[.pointer (some ⟨t, 0, none⟩), .string (S l)] w fun e w' => e = .returned (.string (S (tabNl l))) ∧ Below w.heap.size w w' := by
  obtain ⟨D, hD⟩ : ∃ D, tabNl l = D := ⟨_, rfl⟩
  rw [hD]
  have HD := Lib.hid hD
  clear hD
  have HT := Lib.hid hT
  have HL := Lib.hid hT.lt
  have q1 : ∀ (w : World), (binOp .eql 66 (.slice none 0 0) (.slice none 0 0)).run Tryz.prog w = .ok (.bool true) w := fun w => Lib.run_eql_slice_nil w _ _ none 0 0 0 0 Tryz.underlying66
  have q2 : ∀ (w : World) (a : Addr) (n c : Nat), (binOp .eql 66 (.slice (some a) n c) (.slice none 0 0)).run Tryz.prog w = .ok (.bool false) w := fun w a n c => Lib.run_eql_slice_nil w _ _ (some a) n c 0 0 Tryz.underlying66
  clear hT
  go_enter Tryz.func203, Tryz.ntmps203
  go_wp2_with fail
  go_loopw [5, 6] (fun v5 i6 wr => ∃ i : Nat, i ≤ l.length ∧ i6 = .int .i64 i ∧ RpAt l w.heap.size i v5 wr ∧ Below w.heap.size w wr) (fun _ i6 _ => l.length - (intOf i6).toNat)
  case atStart => exact ⟨0, Nat.zero_le _, rfl, .inl ⟨rfl, nlTo_zero l⟩, Below.refl _ _⟩
  case round =>
    obtain ⟨i, hi, rfl, hR, hB⟩ := hrel
    have HB := Lib.hid hB
    have hsz := hB.size
    have hT1 : Tab8 wr t repT := (hB.block t HL.out).trans HT.out
    clear hB
    by_cases hlt : i < l.length
    · have hlt' : (i : Int) < l.length := by omega
      have hb8 : (l[i].toNat : Int) < 256 := by have := u8_lt l[i]; omega
      have hc := hT1.cell (u8_lt l[i])
      rw [repT_c] at hc
      by_cases hs : tabC l[i] = l[i]
      · have hn := nlTo_same hlt hs
        have t1 : (((tabC l[i]).toNat : Int) != (l[i].toNat : Int)) = false := by rw [hs]; simp
        have HN := Lib.hid hn
        clear hs hn
        rcases hR with ⟨rfl, h1⟩ | ⟨g, c, rfl, hg, hby⟩
        · have H1 := Lib.hid h1
          clear h1
          go_wp2_with fail
          go_roundw
          case rel => exact ⟨i + 1, by omega, by go_num, .inl ⟨rfl, HN.out.trans H1.out⟩, HB.out⟩
          case measure => simp [intOf]; omega
        · have HY := Lib.hid hby
          clear hby
          go_wp2_with fail
          go_roundw
          case rel => exact ⟨i + 1, by omega, by go_num, .inr ⟨g, c, rfl, hg, by rw [HN.out]; exact HY.out⟩, HB.out⟩
          case measure => simp [intOf]; omega
      · have hn := nlTo_set hlt
        have t1 : (((tabC l[i]).toNat : Int) != (l[i].toNat : Int)) = true := by
          rw [bne_iff_ne]; intro e; exact hs (UInt8.toNat_inj.1 (by omega))
        have HN := Lib.hid hn
        clear hs hn
        rcases hR with ⟨rfl, h1⟩ | ⟨g, c, rfl, hg, hby⟩
        · obtain ⟨c, W, hcv, hby, hbW⟩ := bytes_of wr l
          rw [← h1] at hby
          have hT2 := hT1.below hbW
          have hc2 := hT2.cell (u8_lt l[i])
          rw [repT_c] at hc2
          have hj : i < (nlTo l i).length := by rw [nlTo_len]; exact hlt
          have hcell := hby.cell hj
          have hfree := hby.free hj
          have HY := Lib.hid hby
          have HB2 := Lib.hid (HB.out.trans (hbW.mono hsz))
          clear hby hbW h1 hT2 hT1
          go_wp2_with fail
          go_roundw
          case rel => exact ⟨i + 1, by omega, by go_num, .inr ⟨wr.heap.size, c, rfl, hsz, by rw [HN.out]; exact HY.out.set_ hj _⟩, HB2.out.setCell (p := ⟨wr.heap.size, i, none⟩) hsz _⟩
          case measure => simp [intOf]; omega
        · have hj : i < (nlTo l i).length := by rw [nlTo_len]; exact hlt
          have hcell := hby.cell hj
          have hfree := hby.free hj
          have HY := Lib.hid hby
          clear hby hT1
          go_wp2_with fail
          go_roundw
          case rel => exact ⟨i + 1, by omega, by go_num, .inr ⟨g, c, rfl, hg, by rw [HN.out]; exact HY.out.set_ hj _⟩, HB.out.setCell (p := ⟨g, i, none⟩) hg _⟩
          case measure => simp [intOf]; omega
    · obtain rfl : i = l.length := by omega
      clear hT1
      rcases hR with ⟨rfl, h1⟩ | ⟨g, c, rfl, hg, hby⟩
      · rw [nlTo_all, HD.out] at h1
        have H1 := Lib.hid h1
        clear h1
        go_wp2_with fail
        go_ret
        exact ⟨by rw [H1.out]; go_simp, HB.out⟩
      · rw [nlTo_all, HD.out] at hby
        have hln : D.length = l.length := by rw [← HD.out]; unfold tabNl; simp
        have hbk := bytes_back hby c
        rw [hln] at hbk
        clear hln hby
        go_wp2_with fail
        go_ret
        exact ⟨by go_simp, HB.out⟩
end Go.Proofs.YtclhdppppgjgfaaGreatDoor
set_option linter.unusedVariables false
namespace Go.Proofs.YtclhdppppgjgfaaGreatDoor
open Go.RowKit

theorem race_off (w : World) : (callFunc 163 #[]).run Tryz.prog w = .ok (.value (.tuple #[])) w := run_call_mark0 Tryz.func163 (by kernel_rfl) (by kernel_rfl) (by kernel_rfl) .disable (by kernel_rfl) w
theorem race_on (w : World) : (callFunc 165 #[]).run Tryz.prog w = .ok (.value (.tuple #[])) w := run_call_mark0 Tryz.func165 (by kernel_rfl) (by kernel_rfl) (by kernel_rfl) .enable (by kernel_rfl) w
theorem race_acq (a : Addr) (w : World) : (callFunc 166 #[.pointer (some a)]).run Tryz.prog w = .ok (.value (.tuple #[])) w := run_call_marked Tryz.func166 (by kernel_rfl) (by kernel_rfl) (by kernel_rfl) .acquire (by kernel_rfl) a w
theorem race_rel (a : Addr) (w : World) : (callFunc 168 #[.pointer (some a)]).run Tryz.prog w = .ok (.value (.tuple #[])) w := run_call_marked Tryz.func168 (by kernel_rfl) (by kernel_rfl) (by kernel_rfl) .releaseMerge (by kernel_rfl) a w

/-- Storing true, entered as a deferred call. -/
theorem store_def (a : Addr) (x : Value) (u : FrameMode) (w : World) (hc : w.cell? a = some x) (hz : w.frozen? a = false) :
    CallsD Tryz.prog 153 #[.pointer (some a), .bool true] u w fun e u' w' => u' = u ∧ (e = .returned (.tuple #[]) ∧ w' = w.drew.setCell a (.int .u32 1)) := by
  have hc' : w.drew.cell? a = some x := by go_simp
  have hz' : w.drew.frozen? a = false := by go_simp
  have hst := run_call_store (P := Tryz.prog) Tryz.func159 (by kernel_rfl) (by kernel_rfl) (by kernel_rfl) (by kernel_rfl) (k := .u32) (y := 1) hc' hz'
  go_enter_d Tryz.func153, Tryz.ntmps153
  go_wp2
  go_region_calls
  all_goals (go_end0; exact ⟨rfl, rfl⟩)

set_option maxRecDepth 100000 in
/-- Unlock, entered as a deferred call, the lock held and nobody waiting. -/
theorem unlock_def (a : Addr) (u : FrameMode) (w : World) (hc : w.cell? a = some (.int .i32 1)) (hz : w.frozen? a = false) :
    CallsD Tryz.prog 152 #[.pointer (some a)] u w fun e u' w' => u' = u ∧ (e = .returned (.tuple #[]) ∧ w' = w.setCell a (.int .i32 0)) := by
  have hd := race_off
  have he := race_on
  have hr := race_rel
  have hadd := run_call_add (P := Tryz.prog) Tryz.func169 (by kernel_rfl) (by kernel_rfl) (by kernel_rfl) .i32 (by kernel_rfl) (y := -1) (s := 0) hc hz (by simp [go_sem]; rfl)
  have hcv := run_convert_to_unsafe (P := Tryz.prog) (src := 217) (dst := 133) Tryz.underlying217 Tryz.underlying133 (by kernel_rfl) hc
  go_enter_d Tryz.func152, Tryz.ntmps152
  go_wp2
  go_end0
  go_wp2
  go_end0
  exact ⟨rfl, rfl⟩

set_option maxRecDepth 100000 in
/-- Lock, the lock free. -/
theorem lock_def (a : Addr) (w : World) (hc : w.cell? a = some (.int .i32 0)) (hz : w.frozen? a = false) :
    Calls Tryz.prog 151 #[.pointer (some a)] w fun e w' => e = .returned (.tuple #[]) ∧ w' = w.setCell a (.int .i32 1) := by
  have hd := race_off
  have he := race_on
  have ha := race_acq
  have hcas := run_call_cas_hit (P := Tryz.prog) Tryz.func164 (by kernel_rfl) (by kernel_rfl) (by kernel_rfl) .i32 (by kernel_rfl) (y := 1) hc hz
  have hc' : (w.setCell a (.int .i32 1)).cell? a = some (.int .i32 1) := World.cell?_setCell_same w a _ hc
  have hcv := run_convert_to_unsafe (P := Tryz.prog) (src := 217) (dst := 133) Tryz.underlying217 Tryz.underlying133 (by kernel_rfl) hc'
  go_enter Tryz.func151, Tryz.ntmps151
  go_wp2
  first | go_end0 | (simp only [Exit.inBlock, Exit.then]; refine bodyPost_ret (results_none rfl _ _ _) rfl ?_) | refine bodyPost_ret (results_none rfl _ _ _) rfl ?_
  go_wp2
  go_end0
  exact ⟨rfl, rfl⟩

theorem load_def (a : Addr) (d : Int) (w : World) (hc : w.cell? a = some (.int .u32 d)) :
    Calls Tryz.prog 141 #[.pointer (some a)] w fun e w' => e = .returned (.bool (d != 0)) ∧ w = w' := by
  have hl := run_call_load (P := Tryz.prog) Tryz.func150 (by kernel_rfl) (by kernel_rfl) (by kernel_rfl) .u32 (by kernel_rfl) hc
  go_enter Tryz.func141, Tryz.ntmps141
  go_wp2
  go_ret
  exact ⟨rfl, rfl⟩
section
variable {w w' : World} {h : Nat} {d s : Int} {r v : Value}
theorem Rep.lt (hR : Rep w h d s r v) : h < w.heap.size := heap_lt hR
theorem Rep.c0 (hR : Rep w h d s r v) : w.cell? ⟨h, 0, none⟩ = some (.int .u32 d) := by rw [Lib.cell_of_heap hR]; rfl
theorem Rep.c1 (hR : Rep w h d s r v) : w.cell? ⟨h, 1, none⟩ = some (.int .i32 s) := by rw [Lib.cell_of_heap hR]; rfl
theorem Rep.c3 (hR : Rep w h d s r v) : w.cell? ⟨h, 3, none⟩ = some r := by rw [Lib.cell_of_heap hR]; rfl
theorem Rep.c4 (hR : Rep w h d s r v) : w.cell? ⟨h, 4, none⟩ = some v := by rw [Lib.cell_of_heap hR]; rfl
theorem Rep.free (hR : Rep w h d s r v) (i : Nat) : w.frozen? ⟨h, i, none⟩ = false := Lib.frozen_of_heap hR i
theorem Rep.set0 (hR : Rep w h d s r v) (x : Int) : Rep (w.setCell ⟨h, 0, none⟩ (.int .u32 x)) h x s r v := by
  unfold Rep at hR ⊢
  simp [World.setCell, Array.getElem?_modify, hR]
theorem Rep.set1 (hR : Rep w h d s r v) (x : Int) : Rep (w.setCell ⟨h, 1, none⟩ (.int .i32 x)) h d x r v := by
  unfold Rep at hR ⊢
  simp [World.setCell, Array.getElem?_modify, hR]
theorem Rep.set3 (hR : Rep w h d s r v) (x : Value) : Rep (w.setCell ⟨h, 3, none⟩ x) h d s x v := by
  unfold Rep at hR ⊢
  simp [World.setCell, Array.getElem?_modify, hR]
theorem Rep.set4 (hR : Rep w h d s r v) (x : Value) : Rep (w.setCell ⟨h, 4, none⟩ x) h d s r x := by
  unfold Rep at hR ⊢
  simp [World.setCell, Array.getElem?_modify, hR]
theorem Rep.below (hR : Rep w h d s r v) (hb : Below w.heap.size w w') : Rep w' h d s r v := (hb.block _ hR.lt).trans hR
theorem Rep.drew (hR : Rep w h d s r v) : Rep w.drew h d s r v := hR
end
theorem Tab8.upd {w w' : World} {t h : Nat} {f : Nat → UInt8} (hT : Tab8 w t f) (hu : Upd h w w') (hne : t ≠ h) : Tab8 w' t f := (hu.block _ hT.lt hne).trans hT

set_option maxHeartbeats 1000000 in
theorem buildOnce_any (h k c : Nat) (w : World) (hR : Rep w h 0 1 .nilIface (.slice (some ⟨k, 0, none⟩) 4 c)) (hS : RepS w k) :
    Calls Tryz.prog 133 #[.pointer (some ⟨h, 0, none⟩)] w fun e w' =>
      e = .returned (.tuple #[]) ∧ ∃ t, Rep w' h 0 1 (.iface 197 (.pointer (some ⟨t, 0, none⟩))) (.slice none 0 0) ∧ Tab8 w' t repT ∧ w.heap.size ≤ t ∧ Upd h w w' := by
  have HC := Lib.hid (build_any h k c w hR hS)
  have HR := Lib.hid hR
  have hlt := hR.lt
  clear hR hS
  go_enter Tryz.func133, Tryz.ntmps133
  go_wp2_with fail
  refine HC.out.mono ?_
  rintro e w1 ⟨t, rfl, hT, hge, ht, hb⟩
  have hR1 := HR.out.below hb
  have r3 := hR1.c3
  have r4 := hR1.c4
  have f3 := hR1.free 3
  have f4 := hR1.free 4
  have e4 : (w1.setCell ⟨h, 3, none⟩ (.iface 197 (.pointer (some ⟨t, 0, none⟩)))).frozen? ⟨h, 4, none⟩ = false := (World.frozen?_setCell _ _ _ _).trans f4
  have HR1 := Lib.hid hR1
  have HT := Lib.hid hT
  have HB := Lib.hid hb
  clear hR1 hT hb
  go_wp2_with fail
  go_end0
  refine ⟨rfl, t, (HR1.out.set3 _).set4 _, ?_, hge, ((Upd.of_below HB.out).trans (Upd.set_ _ _ _ _)).trans (Upd.set_ _ _ _ _)⟩
  exact (HT.out.upd (Upd.set_ h 3 _ _) (by omega)).upd (Upd.set_ h 4 _ _) (by omega)

set_option maxRecDepth 100000 in
set_option maxHeartbeats 1600000 in
theorem doSlow_any (h k c : Nat) (w : World) (hR : Rep w h 0 0 .nilIface (.slice (some ⟨k, 0, none⟩) 4 c)) (hS : RepS w k) (hk : k ≠ h) :
    Calls Tryz.prog 142 #[.pointer (some ⟨h, 0, none⟩), .func (.func 133) #[.pointer (some ⟨h, 0, none⟩)] #[]] w fun e w' =>
      e = .returned (.tuple #[]) ∧ ∃ t, Rep w' h 1 0 (.iface 197 (.pointer (some ⟨t, 0, none⟩))) (.slice none 0 0) ∧ Tab8 w' t repT ∧ w.heap.size ≤ t ∧ Upd h w w' := by
  have hR1 := hR.set1 1
  have hS1 : RepS (w.setCell ⟨h, 1, none⟩ (.int .i32 1)) k := by
    have q : ∀ i, (w.setCell ⟨h, 1, none⟩ (.int .i32 1)).cell? ⟨k, i, none⟩ = w.cell? ⟨k, i, none⟩ := fun i => World.cell?_setCell_other _ _ _ _ (by intro e; injection e with e1; exact hk e1.symm)
    unfold RepS at *
    rw [q, q, q, q]; exact hS
  have HC := Lib.hid (buildOnce_any h k c _ hR1 hS1)
  have HR := Lib.hid hR
  have c0 := hR.c0
  have c1 := hR.c1
  have f0 := hR.free 0
  have f1 := hR.free 1
  have c01 := hR1.c0
  have hlt := hR.lt
  have hnot : ∀ (x : Bool) (w : World), (Op.unary .not (.bool x)).run Tryz.prog w = .ok (.bool (!x)) w := fun _ _ => rfl
  clear hR hS hS1 hR1
  go_enter_defers Tryz.func142, Tryz.ntmps142
  go_wp2_with (go_at_call 151; refine (lock_def ⟨h, 1, none⟩ _ (by go_simp) (by go_simp)).mono ?_; rintro e w' ⟨rfl, rfl⟩)
  refine (load_def ⟨h, 0, none⟩ 0 _ c01).mono ?_
  rintro e w' ⟨rfl, rfl⟩
  go_wp2_with fail
  refine HC.out.mono ?_
  rintro e W ⟨rfl, t, hR2, hT, hge, hu⟩
  have r0 := hR2.c0
  have r1 := hR2.c1
  have g0 := hR2.free 0
  have g1 := hR2.free 1
  have hR3 := hR2.drew.set0 1
  have r13 := hR3.c1
  have g13 := hR3.free 1
  have hsz : (w.setCell ⟨h, 1, none⟩ (.int .i32 1)).heap.size = w.heap.size := by simp [World.setCell]
  have hge2 : w.heap.size ≤ t := by omega
  have HR2 := Lib.hid hR2
  have HT := Lib.hid hT
  have HU := Lib.hid hu
  clear hR2 hT hu hge hsz
  go_wp2_with fail
  refine leaves_cons (f := 153) (args := #[.pointer (some ⟨h, 0, none⟩), .bool true]) (by simp) (by simp [go_sem]) ?_
  refine (store_def ⟨h, 0, none⟩ (.int .u32 0) .returning _ r0 g0).mono ?_
  rintro e u' w'' ⟨rfl, rfl, rfl⟩
  refine leaves_cons (f := 152) (args := #[.pointer (some ⟨h, 1, none⟩)]) (by simp [settle]) (by simp [go_sem]) ?_
  refine (unlock_def ⟨h, 1, none⟩ _ _ r13 g13).mono ?_
  rintro e u' w'' ⟨rfl, rfl, rfl⟩
  have hfin : ∃ t, Rep ((W.drew.setCell ⟨h, 0, none⟩ (.int .u32 1)).setCell ⟨h, 1, none⟩ (.int .i32 0)) h 1 0 (.iface 197 (.pointer (some ⟨t, 0, none⟩))) (.slice none 0 0) ∧ Tab8 ((W.drew.setCell ⟨h, 0, none⟩ (.int .u32 1)).setCell ⟨h, 1, none⟩ (.int .i32 0)) t repT ∧ w.heap.size ≤ t ∧ Upd h w ((W.drew.setCell ⟨h, 0, none⟩ (.int .u32 1)).setCell ⟨h, 1, none⟩ (.int .i32 0)) := by
    refine ⟨t, (HR2.out.drew.set0 1).set1 0, ?_, hge2, ?_⟩
    · exact ((show Tab8 W.drew t repT from HT.out).upd (Upd.set_ h 0 _ _) (by omega)).upd (Upd.set_ h 1 _ _) (by omega)
    · exact ((((Upd.set_ h 1 w _).trans HU.out).drew).trans (Upd.set_ h 0 _ _)).trans (Upd.set_ h 1 _ _)
  simpa [Leaves, settle, results, Tryz.results142] using hfin

set_option maxHeartbeats 1000000 in
theorem onceDo_any (h k c : Nat) (w : World) (hR : Rep w h 0 0 .nilIface (.slice (some ⟨k, 0, none⟩) 4 c)) (hS : RepS w k) (hk : k ≠ h) :
    Calls Tryz.prog 132 #[.pointer (some ⟨h, 0, none⟩), .func (.func 133) #[.pointer (some ⟨h, 0, none⟩)] #[]] w fun e w' =>
      e = .returned (.tuple #[]) ∧ ∃ t, Rep w' h 1 0 (.iface 197 (.pointer (some ⟨t, 0, none⟩))) (.slice none 0 0) ∧ Tab8 w' t repT ∧ w.heap.size ≤ t ∧ Upd h w w' := by
  have c0 := hR.c0
  have hnot : ∀ (x : Bool) (w : World), (Op.unary .not (.bool x)).run Tryz.prog w = .ok (.bool (!x)) w := fun _ _ => rfl
  have HC := Lib.hid (doSlow_any h k c w hR hS hk)
  clear hR hS
  go_enter Tryz.func132, Tryz.ntmps132
  go_wp2_with fail
  refine (load_def ⟨h, 0, none⟩ 0 _ c0).mono ?_
  rintro e w' ⟨rfl, rfl⟩
  go_wp2_with fail
  refine HC.out.mono ?_
  rintro e W ⟨rfl, hh⟩
  have HH := Lib.hid hh
  clear hh
  go_wp2_with fail
  go_end0
  exact ⟨rfl, HH.out⟩

set_option maxHeartbeats 1000000 in
set_option maxRecDepth 100000 in
/-- Replace at a Replacer that has just been made. -/
theorem replRep_any (h k c : Nat) (l : Bytes) (w : World) (hR : Rep w h 0 0 .nilIface (.slice (some ⟨k, 0, none⟩) 4 c)) (hS : RepS w k) (hk : k ≠ h) (hl : l.length ≤ 4611686018427387904) :
    Calls Tryz.prog 116 #[.pointer (some ⟨h, 0, none⟩), .string (S l)] w fun e w' => e = .returned (.string (S (tabNl l))) ∧ Upd h w w' := by
  have hmf : ∀ (fn : Fn) (first cap : Array Value) (w : World), (Instr.makeFunc fn first cap).run Tryz.prog w = .ok (.func fn first cap) w := fun _ _ _ _ => rfl
  have hna : ∀ (t : Nat) (w : World), (nilAhead 171 197 (.pointer (some ⟨t, 0, none⟩)) "Replace").run Tryz.prog w = .ok (some false) w := fun _ _ => by kernel_rfl
  have hm : ∀ (t : Nat) (w : World), (method 171 197 (.pointer (some ⟨t, 0, none⟩)) "Replace").run Tryz.prog w = .ok (203, .pointer (some ⟨t, 0, none⟩)) w := fun _ _ => by kernel_rfl
  have HC := Lib.hid (onceDo_any h k c w hR hS hk)
  clear hR hS
  go_enter Tryz.func116, Tryz.ntmps116
  go_wp2_with fail
  refine HC.out.mono ?_
  rintro e W ⟨rfl, t, hR, hT, hge, hu⟩
  have r3 := hR.c3
  have HT := Lib.hid hT
  have HU := Lib.hid hu
  clear hR hT hu
  go_wp2_with fail
  refine (byteReplace_any t l _ HT.out hl).mono ?_
  rintro e W2 ⟨rfl, hb⟩
  have HB := Lib.hid hb
  clear hb
  go_wp2_with fail
  go_ret
  exact ⟨rfl, HU.out.next HB.out⟩
end Go.Proofs.YtclhdppppgjgfaaGreatDoor
