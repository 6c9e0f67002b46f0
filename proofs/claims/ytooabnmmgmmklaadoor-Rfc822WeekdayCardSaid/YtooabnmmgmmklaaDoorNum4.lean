/-
  Walks of chapter 4: numbers and years (program and reference).
-/
import Derived.Test.YtooabnmmgmmklaaDoorWordP4
import Derived.Test.YtooabnmmgmmklaaDoorAto4
import Derived.Lib.SmallJoins
import Derived.Deep.QuietTactic
set_option linter.unusedVariables false
namespace Go.Proofs.YtooabnmmgmmklaaDoor
open Go.RowKit

def numV (o : Option Nat) : Int := match o with | none => 0 | some n => n
theorem dig_iff (c : UInt8) : isDig c = decide ((48 : Int) ≤ (c.toNat : Int) ∧ (c.toNat : Int) ≤ 57) := by
  unfold isDig
  rw [Bool.eq_iff_iff, decide_eq_true_iff, decide_eq_true_iff]; omega
theorem all_take {l : Bytes} {i : Nat} (h : i < l.length) : (l.take (i + 1)).all isDig = ((l.take i).all isDig && isDig l[i]) := by
  rw [List.take_succ_eq_append_getElem h, List.all_append]
  simp
theorem all_not {l : Bytes} {i : Nat} (h : i < l.length) (hd : isDig l[i] = false) : l.all isDig = false := by
  rw [Bool.eq_false_iff]
  intro h2
  rw [List.all_eq_true] at h2
  have := h2 l[i] (List.getElem_mem h)
  rw [hd] at this
  cases this
set_option maxHeartbeats 2000000 in
set_option maxRecDepth 100000 in
theorem number_any (l : Bytes) (lo hi : Nat) (h1 : 1 ≤ lo) (h2 : hi ≤ 18) (w : World) (hl : l.length ≤ 1000000) :
    Calls Tryd.prog 21 #[.string (S l), .int .i64 lo, .int .i64 hi] w fun e w' => e = .returned (.tuple #[.int .i64 (numV (num lo hi l)), .bool (num lo hi l).isSome]) ∧ Below w.heap.size w w' := by
  by_cases hb : lo ≤ l.length ∧ l.length ≤ hi
  case neg =>
    rw [num_none (by omega)]
    have hb' : (l.length : Int) < lo ∨ ((lo : Int) ≤ l.length ∧ (hi : Int) < l.length) := by omega
    clear hb
    rcases hb' with hb' | ⟨hb1, hb2⟩
    all_goals
      go_enter Tryd.func21, Tryd.ntmps21
      go_wp2_with fail
      go_ret2
      exact ⟨rfl, Below.refl _ _⟩
  case pos =>
    obtain ⟨b1, b2⟩ := hb
    have b1' : ¬ (l.length : Int) < lo := by omega
    have b2' : ¬ (hi : Int) < l.length := by omega
    obtain ⟨N, hN⟩ : ∃ N, num lo hi l = N := ⟨_, rfl⟩
    rw [hN]
    have hyes : l.all isDig = true → N = some (valD 0 l) := fun h => by rw [← hN, num_some b1 b2 h]
    have hno : l.all isDig = false → N = none := fun h => by rw [← hN, num_none (.inr (.inr h))]
    have hat : ∀ W, l.all isDig = true → Calls Tryd.prog 50 #[.string (S l)] W fun e w' => e = .returned (.tuple #[.int .i64 (valD 0 l : Nat), .nilIface]) ∧ Below W.heap.size W w' := fun W h => by
      have ha := (atoi_digits (s := l) (by intro e; subst e; simp at b1; omega) h (by omega)).1
      refine (Tryd.strconv_Atoi_ok (S l) (by rw [S_size]; omega) _ (by rw [S_data]; exact ha) W).mono ?_
      rintro e w' ⟨rfl, h | ⟨t, h⟩⟩
      · exact ⟨rfl, by rw [h]; exact Below.refl _ _⟩
      · exact ⟨rfl, by rw [h]; exact Joins.below_bytesWorld _ _ _ _ (Nat.le_refl _)⟩
    obtain ⟨c, W, hcv, hby, hbW⟩ := bytes_of w l
    have HB2 := Lib.hid hbW
    have HBY := Lib.hid hby
    have HAT := Lib.hid hat
    have HYES := Lib.hid hyes
    have HNO := Lib.hid hno
    clear hbW hby hat hyes hno hN
    go_enter Tryd.func21, Tryd.ntmps21
    go_wp2_with fail
    go_loopw [25] (fun s25 wr => ∃ i : Nat, i ≤ l.length ∧ s25 = .int .i64 (i : Int) ∧ (l.take i).all isDig = true ∧ W = wr) (fun s25 _ => l.length - (intOf s25).toNat)
    case atStart => exact ⟨0, by omega, rfl, rfl, rfl⟩
    case round =>
      obtain ⟨i, hi2, rfl, hall, rfl⟩ := hrel
      by_cases hlt : i < l.length
      · have hlt' : (i : Int) < l.length := by omega
        have hcell := HBY.out.cell hlt
        have hat2 := all_take hlt
        rw [hall, Bool.true_and] at hat2
        have hnn := all_not hlt
        have hdi := dig_iff l[i]
        have HA2 := Lib.hid hat2
        have HNN := Lib.hid hnn
        have hb8 := u8_lt l[i]
        clear hat2 hnn hall
        by_cases hd : (48 : Int) ≤ (l[i].toNat : Int) ∧ (l[i].toNat : Int) ≤ 57
        · rw [decide_eq_true hd] at hdi
          have HD := Lib.hid hdi
          obtain ⟨d1, d2⟩ := hd
          clear hdi
          go_wp2_with fail
          go_roundw
          case rel => exact ⟨i + 1, by omega, by go_num, by rw [HA2.out]; exact HD.out, trivial⟩
          case measure => simp [intOf]; omega
        · rw [decide_eq_false hd] at hdi
          have hnone := HNO.out (HNN.out hdi)
          subst hnone
          have hd' : (l[i].toNat : Int) < 48 ∨ ((48 : Int) ≤ (l[i].toNat : Int) ∧ (57 : Int) < (l[i].toNat : Int)) := by omega
          clear hdi hd HYES HNO
          rcases hd' with d1 | ⟨d1, d2⟩
          all_goals
            go_wp2_with fail
            go_ret2
            exact ⟨rfl, HB2.out⟩
      · obtain rfl : i = l.length := by omega
        rw [List.take_length] at hall
        have hsome := HYES.out hall
        subst hsome
        have HC := Lib.hid (fun W => HAT.out W hall)
        clear hall HYES HNO HAT
        go_wp2_with (go_at_call 50; refine (HC.out _).mono ?_; rintro e w2 ⟨rfl, hb2⟩)
        go_quiet (fail)
        go_wp2_with fail
        go_ret2
        exact ⟨rfl, below_drewN4' (HB2.out.trans (hb2.mono HB2.out.size)) _⟩
set_option maxHeartbeats 1000000 in
theorem year4_any (l : Bytes) (w : World) (hl : l.length ≤ 1000000) :
    Calls Tryd.prog 29 #[.string (S l)] w fun e w' => e = .returned (.tuple #[.int .i64 (numV (yearOf l)), .bool (yearOf l).isSome]) ∧ Below w.heap.size w w' := by
  have hn := number_any l 2 4 (by decide) (by decide) w hl
  unfold yearOf
  cases ho : num 2 4 l with
  | none =>
    rw [ho] at hn
    have HN := Lib.hid hn
    clear hn
    go_enter Tryd.func29, Tryd.ntmps29
    go_wp2_with (go_at_call 21; refine HN.out.mono ?_; rintro e w2 ⟨rfl, hb2⟩)
    go_ret2
    exact ⟨rfl, hb2⟩
  | some n =>
    rw [ho] at hn
    have hb := num_len ho
    have hbv := valD_bound l 0 hb.2.2.1
    have hle : 10 ^ l.length ≤ 10 ^ 4 := Nat.pow_le_pow_right (by decide) hb.2.1
    have hn2 : n < 10000 := by rw [hb.2.2.2]; omega
    rw [show numV (some n) = (n : Int) from rfl, show (some n).isSome = true from rfl] at hn
    have HN := Lib.hid hn
    simp only []
    clear hn hb hbv hle ho
    by_cases h3 : l.length = 3
    · have h3' : ((l.length : Int) == 3) = true := by rw [h3]; rfl
      rw [if_pos h3]
      clear h3
      go_enter Tryd.func29, Tryd.ntmps29
      go_wp2_with (go_at_call 21; refine HN.out.mono ?_; rintro e w2 ⟨rfl, hb2⟩)
      go_ret2
      exact ⟨rfl, hb2⟩
    · have h3' : ((l.length : Int) == 3) = false := by rw [beq_eq_false_iff_ne]; omega
      rw [if_neg h3]
      clear h3
      by_cases h4 : l.length = 4
      · have h4' : ((l.length : Int) == 4) = true := by rw [h4]; rfl
        rw [if_pos h4]
        clear h4
        go_enter Tryd.func29, Tryd.ntmps29
        go_wp2_with (go_at_call 21; refine HN.out.mono ?_; rintro e w2 ⟨rfl, hb2⟩)
        go_ret2
        exact ⟨rfl, hb2⟩
      · have h4' : ((l.length : Int) == 4) = false := by rw [beq_eq_false_iff_ne]; omega
        rw [if_neg h4]
        clear h4
        by_cases h5 : n < 50
        · have h5' : (n : Int) < 50 := by omega
          rw [if_pos h5]
          go_enter Tryd.func29, Tryd.ntmps29
          go_wp2_with (go_at_call 21; refine HN.out.mono ?_; rintro e w2 ⟨rfl, hb2⟩)
          go_ret2
          exact ⟨rfl, hb2⟩
        · have h5' : ¬ (n : Int) < 50 := by omega
          rw [if_neg h5]
          go_enter Tryd.func29, Tryd.ntmps29
          go_wp2_with (go_at_call 21; refine HN.out.mono ?_; rintro e w2 ⟨rfl, hb2⟩)
          go_ret2
          exact ⟨rfl, hb2⟩
theorem index_S (l : Bytes) (j : Nat) (h : j < l.length) (W : World) : (Instr.index 9 (.string (S l)) (.int .i64 (j : Int))).run Tryd.prog W = .ok (.int .u8 l[j].toNat) W := by
  have h0 : (j : Int) < (l.length : Int) := by omega
  go_simp
theorem drop_take_at {l : Bytes} {a i : Nat} (h : a + i < l.length) : ((l.drop a).take (i + 1)) = (l.drop a).take i ++ [l[a + i]] := by
  rw [List.take_succ_eq_append_getElem (by rw [List.length_drop]; omega), List.getElem_drop]
set_option maxHeartbeats 2000000 in
set_option maxRecDepth 100000 in
theorem refNumber_any (l : Bytes) (a wd : Nat) (ha : a ≤ 1000) (hw : wd ≤ 18) (w : World) (hl : l.length ≤ 1000000) :
    Calls Tryd.prog 24 #[.string (S l), .int .i64 a, .int .i64 wd] w fun e w' => e = .returned (.int .i64 (numR l a wd)) ∧ w = w' := by
  have ha0 : ¬ (a : Int) < 0 := by omega
  by_cases hb : a + wd ≤ l.length
  case neg =>
    have hR : numR l a wd = -1 := by unfold numR; rw [if_neg (by intro h; exact hb h.1)]
    rw [hR]
    have hb' : (l.length : Int) - a < wd := by omega
    clear hb hR
    go_enter Tryd.func24, Tryd.ntmps24
    go_wp2_with fail
    go_ret
    exact ⟨rfl, rfl⟩
  case pos =>
    have hb' : ¬ (l.length : Int) - a < wd := by omega
    obtain ⟨R, hR⟩ : ∃ R, numR l a wd = R := ⟨_, rfl⟩
    rw [hR]
    have hyes : ((l.drop a).take wd).all isDig = true → R = (valD 0 ((l.drop a).take wd) : Nat) := fun h => by rw [← hR]; unfold numR; rw [if_pos ⟨hb, h⟩]
    have hno : ((l.drop a).take wd).all isDig = false → R = -1 := fun h => by rw [← hR]; unfold numR; rw [if_neg (by intro h2; rw [h2.2] at h; cases h)]
    have HYES := Lib.hid hyes
    have HNO := Lib.hid hno
    clear hyes hno hR
    go_enter Tryd.func24, Tryd.ntmps24
    go_wp2_with fail
    go_loopw [7, 8] (fun s7 s8 wr => ∃ i : Nat, i ≤ wd ∧ s8 = .int .i64 (i : Int) ∧ ((l.drop a).take i).all isDig = true ∧ s7 = .int .i64 (valD 0 ((l.drop a).take i) : Nat) ∧ w = wr) (fun _ s8 _ => wd - (intOf s8).toNat)
    case atStart => exact ⟨0, by omega, rfl, rfl, rfl, rfl⟩
    case round =>
      obtain ⟨i, hi2, rfl, hall, rfl, rfl⟩ := hrel
      have hvb := valD_bound ((l.drop a).take i) 0 hall
      have hvl : ((l.drop a).take i).length = i := by rw [List.length_take, List.length_drop]; omega
      rw [hvl] at hvb
      have hpow : 10 ^ i ≤ 10 ^ 18 := Nat.pow_le_pow_right (by decide) (by omega)
      by_cases hlt : i < wd
      · have hlt' : (i : Int) < wd := by omega
        have hai : a + i < l.length := by omega
        have hai' : (a : Int) + i < l.length := by omega
        have hdt := drop_take_at hai
        have hpow2 : 10 ^ i ≤ 10 ^ 17 := Nat.pow_le_pow_right (by decide) (by omega)
        have hnx : valD 0 ((l.drop a).take (i + 1)) = valD 0 ((l.drop a).take i) * 10 + (l[a + i].toNat - 48) := by rw [hdt, valD_app, valD_cons, valD_nil]
        have hall2 : ((l.drop a).take (i + 1)).all isDig = isDig l[a + i] := by rw [hdt, List.all_append, hall]; simp
        have hbad : isDig l[a + i] = false → ((l.drop a).take wd).all isDig = false := fun h => by
          rw [Bool.eq_false_iff]
          intro h2
          rw [List.all_eq_true] at h2
          have := h2 l[a + i] (by
            rw [List.mem_iff_getElem]
            exact ⟨i, by rw [List.length_take, List.length_drop]; omega, by rw [List.getElem_take, List.getElem_drop]⟩)
          rw [h] at this
          cases this
        have hget : ∀ W : World, (Instr.index 9 (.string (S l)) (.int .i64 ((a : Int) + (i : Int)))).run Tryd.prog W = .ok (.int .u8 l[a + i].toNat) W := fun W => by
          have e : ((a : Int) + (i : Int)) = ((a + i : Nat) : Int) := by omega
          rw [e]
          exact index_S l (a + i) hai W
        have hdi := dig_iff l[a + i]
        have hb8 := u8_lt l[a + i]
        generalize hV : valD 0 ((l.drop a).take i) = V at *
        have hV17 : V < 100000000000000000 := by omega
        have HNX := Lib.hid hnx
        have HA2 := Lib.hid hall2
        have HBAD := Lib.hid hbad
        clear hdt hnx hall2 hbad hall hvb hpow hV hpow2
        generalize l[a + i] = c at *
        by_cases hd : (48 : Int) ≤ (c.toNat : Int) ∧ (c.toNat : Int) ≤ 57
        · rw [decide_eq_true hd] at hdi
          have HD := Lib.hid hdi
          obtain ⟨d1, d2⟩ := hd
          have hw8 : IntKind.u8.wrap ((c.toNat : Int) - 48) = (c.toNat : Int) - 48 := by rw [IntKind.wrap_u8]; omega
          clear hdi
          go_wp2_with fail
          go_roundw
          case rel => exact ⟨i + 1, by omega, by go_num, by rw [HA2.out]; exact HD.out, valI (by rw [HNX.out]; omega), trivial⟩
          case measure => simp [intOf]; omega
        · rw [decide_eq_false hd] at hdi
          have hnone := HNO.out (HBAD.out hdi)
          subst hnone
          have hd' : (c.toNat : Int) < 48 ∨ ((48 : Int) ≤ (c.toNat : Int) ∧ (57 : Int) < (c.toNat : Int)) := by omega
          clear hdi hd HYES HNO HBAD
          rcases hd' with d1 | ⟨d1, d2⟩
          all_goals
            go_wp2_with fail
            go_ret
            exact ⟨rfl, rfl⟩
      · obtain rfl : i = wd := by omega
        have hsome := HYES.out hall
        subst hsome
        clear hall HYES HNO hvb
        go_wp2_with fail
        go_ret
        exact ⟨rfl, rfl⟩
set_option maxHeartbeats 1000000 in
theorem refWhole_any (l : Bytes) (wd : Nat) (hw : wd ≤ 18) (w : World) (hl : l.length ≤ 1000000) :
    Calls Tryd.prog 35 #[.string (S l), .int .i64 wd] w fun e w' => e = .returned (.int .i64 (wholeR l wd)) ∧ w = w' := by
  have hn := refNumber_any l 0 wd (by decide) hw w hl
  unfold wholeR
  have HN := Lib.hid hn
  clear hn
  by_cases h : l.length = wd
  · have h' : ((l.length : Int) == (wd : Int)) = true := by rw [h]; simp
    have h'' : ((l.length : Int) != (wd : Int)) = false := by rw [bne, h']; rfl
    rw [if_pos h]
    clear h
    go_enter Tryd.func35, Tryd.ntmps35
    go_wp2_with (go_at_call 24; refine HN.out.mono ?_; rintro e w2 ⟨rfl, rfl⟩)
    go_ret
    exact ⟨rfl, rfl⟩
  · have h' : ((l.length : Int) == (wd : Int)) = false := by rw [beq_eq_false_iff_ne]; omega
    have h'' : ((l.length : Int) != (wd : Int)) = true := by rw [bne, h']; rfl
    rw [if_neg h]
    clear h
    go_enter Tryd.func35, Tryd.ntmps35
    go_wp2_with fail
    go_ret
    exact ⟨rfl, rfl⟩
theorem wholeR_bound (l : Bytes) (wd : Nat) (hw : wd ≤ 4) : -1 ≤ wholeR l wd ∧ wholeR l wd < 10000 := by
  rw [whole_num]
  cases h : num wd wd l with
  | none => exact ⟨by show (-1:Int) ≤ -1; omega, by show (-1:Int) < 10000; omega⟩
  | some n =>
    have hb := num_len h
    have hv := valD_bound l 0 hb.2.2.1
    have hle : 10 ^ l.length ≤ 10 ^ 4 := Nat.pow_le_pow_right (by decide) (by omega)
    show -1 ≤ (n : Int) ∧ (n : Int) < 10000
    rw [hb.2.2.2]
    omega
set_option maxHeartbeats 1000000 in
set_option maxRecDepth 100000 in
theorem refYear_any (l : Bytes) (w : World) (hl : l.length ≤ 1000000) :
    Calls Tryd.prog 37 #[.string (S l)] w fun e w' => e = .returned (.int .i64 (yearR l)) ∧ w = w' := by
  have h2 : ∀ W, Calls Tryd.prog 35 #[.string (S l), .int .i64 2] W fun e w' => e = .returned (.int .i64 (wholeR l 2)) ∧ W = w' := fun W => refWhole_any l 2 (by decide) W hl
  have h4 : ∀ W, Calls Tryd.prog 35 #[.string (S l), .int .i64 4] W fun e w' => e = .returned (.int .i64 (wholeR l 4)) ∧ W = w' := fun W => refWhole_any l 4 (by decide) W hl
  have hb := wholeR_bound l 2 (by decide)
  unfold yearR
  generalize wholeR l 2 = a at *
  generalize wholeR l 4 = b at *
  have H2 := Lib.hid h2
  have H4 := Lib.hid h4
  obtain ⟨b1, b2⟩ := hb
  clear h2 h4
  by_cases c1 : 50 ≤ a
  · rw [if_pos c1]
    go_enter Tryd.func37, Tryd.ntmps37
    go_wp2_with (first | (go_at_call 35; (with_reducible refine (H2.out _).mono ?_); rintro e w2 ⟨rfl, rfl⟩) | (go_at_call 35; (with_reducible refine (H4.out _).mono ?_); rintro e w2 ⟨rfl, rfl⟩))
    go_ret
    exact ⟨rfl, rfl⟩
  · rw [if_neg c1]
    by_cases c2 : 0 ≤ a
    · rw [if_pos c2]
      go_enter Tryd.func37, Tryd.ntmps37
      go_wp2_with (first | (go_at_call 35; (with_reducible refine (H2.out _).mono ?_); rintro e w2 ⟨rfl, rfl⟩) | (go_at_call 35; (with_reducible refine (H4.out _).mono ?_); rintro e w2 ⟨rfl, rfl⟩))
      go_ret
      exact ⟨rfl, rfl⟩
    · rw [if_neg c2]
      go_enter Tryd.func37, Tryd.ntmps37
      go_wp2_with (first | (go_at_call 35; (with_reducible refine (H2.out _).mono ?_); rintro e w2 ⟨rfl, rfl⟩) | (go_at_call 35; (with_reducible refine (H4.out _).mono ?_); rintro e w2 ⟨rfl, rfl⟩))
      go_ret
      exact ⟨rfl, rfl⟩
end Go.Proofs.YtooabnmmgmmklaaDoor
