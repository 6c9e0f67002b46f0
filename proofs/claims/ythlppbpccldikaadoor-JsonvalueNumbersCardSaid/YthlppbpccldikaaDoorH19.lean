/-
  Several texts in one file, in build order:
  - Walks of chapter 11, the reference: Number.
-/
import Derived.Test.YthlppbpccldikaaDoorH17
import Derived.Outline
import Derived.Deep.DeepCutAuto
set_option linter.unusedVariables false
namespace Go.Proofs.YthlppbpccldikaaDoor
open Go.RowKit

/-- What Number hands back. -/
def NumRes (l : Bytes) (e : Ending) : Prop := ∃ x : Int, e = .returned (.tuple #[.int .i64 x, .bool (numJ l).isSome]) ∧ ∀ v, numJ l = some v → x = v
theorem numJ_form (l : Bytes) : numJ l = if magJ l ≠ [] ∧ (magJ l).length ≤ 19 ∧ (magJ l).all isDg = true ∧ ¬ (1 < (magJ l).length ∧ (magJ l).head? = some 48) ∧ (if l.head? = some 45 then dvalJ (magJ l) ≤ 9223372036854775808 else dvalJ (magJ l) < 9223372036854775808) then some (if l.head? = some 45 then -(dvalJ (magJ l) : Int) else (dvalJ (magJ l) : Int)) else none := by
  unfold numJ magJ
  by_cases h : l.head? = some 45
  · simp only [if_pos h]
  · simp only [if_neg h]
theorem numRes_no {l : Bytes} (h : magJ l = [] ∨ 19 < (magJ l).length ∨ (magJ l).all isDg = false ∨ (1 < (magJ l).length ∧ (magJ l).head? = some 48)) : NumRes l (.returned (.tuple #[.int .i64 0, .bool false])) := by
  have hn : numJ l = none := by
    rw [numJ_form, if_neg]
    rintro ⟨h1, h2, h3, h4, _⟩
    rcases h with h | h | h | h
    · exact h1 h
    · omega
    · rw [h3] at h; cases h
    · exact h4 h
  exact ⟨0, by rw [hn]; rfl, fun v hv => by rw [hn] at hv; cases hv⟩
theorem numRes_neg {l : Bytes} {x : Int} (h0 : l.head? = some 45) (h1 : magJ l ≠ []) (h2 : (magJ l).length ≤ 19) (h3 : (magJ l).all isDg = true) (h4 : ¬ (1 < (magJ l).length ∧ (magJ l).head? = some 48)) (hx : dvalJ (magJ l) ≤ 9223372036854775808 → x = -(dvalJ (magJ l) : Int)) :
    NumRes l (.returned (.tuple #[.int .i64 x, .bool (decide (dvalJ (magJ l) ≤ 9223372036854775808))])) := by
  by_cases hb : dvalJ (magJ l) ≤ 9223372036854775808
  · have hn : numJ l = some (-(dvalJ (magJ l) : Int)) := by rw [numJ_form, if_pos ⟨h1, h2, h3, h4, by rw [if_pos h0]; exact hb⟩, if_pos h0]
    exact ⟨x, by rw [hn, decide_eq_true hb]; rfl, fun v hv => by rw [hn] at hv; cases hv; exact hx hb⟩
  · have hn : numJ l = none := by rw [numJ_form, if_neg]; rintro ⟨_, _, _, _, h5⟩; rw [if_pos h0] at h5; exact hb h5
    exact ⟨x, by rw [hn, decide_eq_false hb]; rfl, fun v hv => by rw [hn] at hv; cases hv⟩
theorem numRes_pos {l : Bytes} {x : Int} (h0 : l.head? ≠ some 45) (h1 : magJ l ≠ []) (h2 : (magJ l).length ≤ 19) (h3 : (magJ l).all isDg = true) (h4 : ¬ (1 < (magJ l).length ∧ (magJ l).head? = some 48)) (hx : dvalJ (magJ l) < 9223372036854775808 → x = (dvalJ (magJ l) : Int)) :
    NumRes l (.returned (.tuple #[.int .i64 x, .bool (decide (dvalJ (magJ l) < 9223372036854775808))])) := by
  by_cases hb : dvalJ (magJ l) < 9223372036854775808
  · have hn : numJ l = some (dvalJ (magJ l) : Int) := by rw [numJ_form, if_pos ⟨h1, h2, h3, h4, by rw [if_neg h0]; exact hb⟩, if_neg h0]
    exact ⟨x, by rw [hn, decide_eq_true hb]; rfl, fun v hv => by rw [hn] at hv; cases hv; exact hx hb⟩
  · have hn : numJ l = none := by rw [numJ_form, if_neg]; rintro ⟨_, _, _, _, h5⟩; rw [if_neg h0] at h5; exact hb h5
    exact ⟨x, by rw [hn, decide_eq_false hb]; rfl, fun v hv => by rw [hn] at hv; cases hv⟩
theorem dvA_bound : ∀ (l : Bytes) (a : Nat), l.all isDg = true → dvA a l < (a + 1) * 10 ^ l.length
  | [], a, _ => by rw [dvA_nil]; simp
  | c :: l, a, h => by
    rw [List.all_cons, Bool.and_eq_true] at h
    have hc := isDg_nat.1 h.1
    have ih := dvA_bound l (10 * a + (c.toNat - 48)) h.2
    rw [dvA_cons, List.length_cons, Nat.pow_succ]
    have h2 : (10 * a + (c.toNat - 48) + 1) * 10 ^ l.length ≤ (a + 1) * (10 ^ l.length * 10) := by
      rw [Nat.mul_comm (10 ^ l.length) 10, ← Nat.mul_assoc]
      exact Nat.mul_le_mul_right _ (by omega)
    omega
theorem dvA_snoc (a : Nat) (l : Bytes) (c : UInt8) : dvA a (l ++ [c]) = 10 * dvA a l + (c.toNat - 48) := by
  unfold dvA
  rw [List.foldl_append]
  rfl
theorem allg_take {p : UInt8 → Bool} {l : Bytes} {i : Nat} (h : i < l.length) : (l.take (i + 1)).all p = ((l.take i).all p && p l[i]) := by
  rw [List.take_succ_eq_append_getElem h, List.all_append]
  simp
theorem allg_not {p : UInt8 → Bool} {l : Bytes} {i : Nat} (h : i < l.length) (hd : p l[i] = false) : l.all p = false := by
  rw [Bool.eq_false_iff]
  intro h2
  rw [List.all_eq_true] at h2
  have := h2 l[i] (List.getElem_mem h)
  rw [hd] at this
  cases this
theorem valI {k : IntKind} {a b : Int} (h : a = b) : Value.int k a = .int k b := by rw [h]
theorem dg_iff11 (c : UInt8) : isDg c = decide ((48 : Int) ≤ (c.toNat : Int) ∧ (c.toNat : Int) ≤ 57) := by
  rw [Bool.eq_iff_iff, isDg_nat, decide_eq_true_iff]; omega
set_option maxHeartbeats 8000000 in
set_option maxRecDepth 100000 in
theorem refNumber11_any (l : Bytes) (w : World) (hl : l.length ≤ 1000000) :
    Calls Tryd.prog 17 #[.string (S l)] w fun e w' => NumRes l e ∧ w = w' := by
  have hno := numRes_no (l := l)
  have hneg := fun x => numRes_neg (l := l) (x := x)
  have hpos := fun x => numRes_pos (l := l) (x := x)
  have hfit : ∀ W : World, True := fun _ => trivial
  cases l with
  | nil =>
    have hr := hno (.inl rfl)
    clear hno hneg hpos
    have HR := Lib.hid hr
    clear hr
    go_enter Tryd.func17, Tryd.ntmps17
    go_wp2_with fail
    go_ret2
    exact ⟨HR.out, rfl⟩
  | cons c r =>
    obtain ⟨X, hX⟩ : ∃ X, magJ (c :: r) = X := ⟨_, rfl⟩
    rw [hX] at hno
    simp only [hX] at hneg hpos
    have hXl : X.length ≤ r.length + 1 := by rw [← hX]; unfold magJ; split <;> simp
    have HNO := Lib.hid hno
    have HNEG := Lib.hid hneg
    have HPOS := Lib.hid hpos
    clear hno hneg hpos
    have hcb := u8_lt c
    obtain ⟨NG, hNG⟩ : ∃ NG, decide (c = 45) = NG := ⟨_, rfl⟩
    have HNG := Lib.hid hNG
    clear hNG
    go_enter Tryd.func17, Tryd.ntmps17
    go_upto_region 2 with fail
    go_cut [14] (fun s14 wx => s14 = .bool NG ∧ w = wx)
    case first =>
      clear HNO HNEG HPOS
      by_cases h45 : c = 45
      · have t45 : ((c.toNat : Int) == 45) = true := by rw [h45]; rfl
        have hNG := HNG.out
        rw [decide_eq_true h45] at hNG
        subst hNG
        go_wp2_with fail
        go_meet
        exact ⟨rfl, rfl⟩
      · have t45 : ((c.toNat : Int) == 45) = false := by rw [beq_eq_false_iff_ne]; intro e; exact h45 (UInt8.toNat_inj.1 (by have : (45 : UInt8).toNat = 45 := rfl; omega))
        have hNG := HNG.out
        rw [decide_eq_false h45] at hNG
        subst hNG
        go_wp2_with fail
        go_meet
        exact ⟨rfl, rfl⟩
    case rest =>
      obtain ⟨rfl, hwx⟩ := hcut
      subst hwx
      go_upto_if 14 with fail
      go_cut [4] (fun s4 wx => s4 = .string (S X) ∧ w = wx)
      case first =>
        clear HNO HNEG HPOS
        by_cases h45 : c = 45
        · have hNG := HNG.out
          rw [decide_eq_true h45] at hNG
          subst hNG
          subst h45
          have hX' : r = X := hX
          subst hX'
          go_wp2_with fail
          go_meet
          exact ⟨rfl, rfl⟩
        · have hX' : c :: r = X := by rw [← hX]; unfold magJ; rw [if_neg]; intro e; exact h45 (by simpa using e)
          have hNG := HNG.out
          rw [decide_eq_false h45] at hNG
          subst hNG
          clear hX
          subst hX'
          go_wp2_with fail
          go_meet
          exact ⟨rfl, rfl⟩
      case rest =>
        obtain ⟨rfl, hwx⟩ := hcut
        subst hwx
        have hNG := HNG.out
        have hlen : X.length < r.length + 1 ↔ NG = true := by
          rw [← hNG, decide_eq_true_iff, ← hX]
          unfold magJ
          constructor
          · intro h
            by_cases h2 : (c :: r).head? = some 45
            · simpa using h2
            · rw [if_neg h2] at h; simp at h
          · intro h
            subst h
            simp
        clear hNG hX hfit
        by_cases h0 : X = []
        · have hr := HNO.out (.inl h0)
          have HR := Lib.hid hr
          subst h0
          clear hr HNO HNEG HPOS hlen
          go_wp2_with fail
          go_ret2
          exact ⟨HR.out, rfl⟩
        have h0' : (X == []) = false := by simp [h0]
        have hx0 : 0 < X.length := List.length_pos_iff.2 h0
        by_cases h19 : 19 < X.length
        · have hr := HNO.out (.inr (.inl h19))
          have HR := Lib.hid hr
          have h19' : (19 : Int) < X.length := by omega
          clear hr HNO HNEG HPOS hlen
          go_wp2_with fail
          go_ret2
          exact ⟨HR.out, rfl⟩
        have h19' : ¬ (19 : Int) < X.length := by omega
        have hhd : X.head? = some X[0] := by rw [List.head?_eq_getElem?, List.getElem?_eq_getElem hx0]
        have hb8 := u8_lt X[0]
        have h0i : (0 : Int) < X.length := by omega
        by_cases hz : 1 < X.length ∧ X.head? = some 48
        · have hr := HNO.out (.inr (.inr (.inr hz)))
          have HR := Lib.hid hr
          have h1' : (1 : Int) < X.length := by omega
          have hz2 : X[0] = 48 := by have := hz.2; rw [hhd] at this; exact Option.some.inj this
          have t48 : ((X[0].toNat : Int) == 48) = true := by rw [hz2]; rfl
          clear hr HNO HNEG HPOS hlen hz hz2 hhd
          go_wp2_with fail
          go_ret2
          exact ⟨HR.out, rfl⟩
        have hz' : ¬ (1 : Int) < X.length ∨ ((1 : Int) < X.length ∧ ((X[0].toNat : Int) == 48) = false) := by
          by_cases h1 : 1 < X.length
          · refine .inr ⟨by omega, ?_⟩
            rw [beq_eq_false_iff_ne]
            intro e
            exact hz ⟨h1, by rw [hhd]; congr 1; exact UInt8.toNat_inj.1 (by have : (48 : UInt8).toNat = 48 := rfl; omega)⟩
          · exact .inl (by omega)
        have HZ := Lib.hid hz
        clear hz hhd
        go_upto_region 4 with fail
        go_cut [33] (fun s33 wx => s33 = .bool false ∧ w = wx)
        case first =>
          clear HNO HNEG HPOS hlen
          rcases hz' with h1 | ⟨h1, h2⟩
          all_goals
            go_wp2_with fail
            go_meet
            exact ⟨rfl, rfl⟩
        case rest =>
          obtain ⟨rfl, hwx⟩ := hcut
          subst hwx
          clear hz' h0' h0i hb8
          go_wp2_with fail
          have h19n : X.length ≤ 19 := by omega
          go_loopw [5, 6] (fun s5 s6 wr => ∃ i : Nat, i ≤ X.length ∧ s6 = .int .i64 (i : Int) ∧ (X.take i).all isDg = true ∧ s5 = .int .u64 (dvA 0 (X.take i) : Nat) ∧ w = wr) (fun _ s6 _ => X.length - (intOf s6).toNat)
          case atStart => exact ⟨0, by omega, rfl, rfl, rfl, rfl⟩
          case round =>
            obtain ⟨i, hi2, rfl, hall, rfl, rfl⟩ := hrel
            have hvb := dvA_bound (X.take i) 0 hall
            have hvl : (X.take i).length = i := by rw [List.length_take]; omega
            rw [hvl] at hvb
            by_cases hlt : i < X.length
            · have hlt' : (i : Int) < X.length := by omega
              have hpow : 10 ^ i ≤ 10 ^ 18 := Nat.pow_le_pow_right (by decide) (by omega)
              have hnx : dvA 0 (X.take (i + 1)) = 10 * dvA 0 (X.take i) + (X[i].toNat - 48) := by rw [List.take_succ_eq_append_getElem hlt, dvA_snoc]
              have hall2 := allg_take (p := isDg) hlt
              rw [hall, Bool.true_and] at hall2
              have hbad := allg_not (p := isDg) hlt
              have hdi := dg_iff11 X[i]
              have hb8 := u8_lt X[i]
              generalize hV : dvA 0 (X.take i) = V at *
              have hV18 : V < 1000000000000000000 := by omega
              have HNX := Lib.hid hnx
              have HA2 := Lib.hid hall2
              have HBAD := Lib.hid hbad
              clear hnx hall2 hbad hall hvb hpow hV
              by_cases hd : (48 : Int) ≤ (X[i].toNat : Int) ∧ (X[i].toNat : Int) ≤ 57
              · rw [decide_eq_true hd] at hdi
                have HD := Lib.hid hdi
                obtain ⟨d1, d2⟩ := hd
                clear hdi
                go_wp2_with fail
                go_roundw
                case rel => exact ⟨i + 1, by omega, by go_num, by rw [HA2.out]; exact HD.out, valI (by rw [HNX.out]; omega), trivial⟩
                case measure => simp [intOf]; omega
              · rw [decide_eq_false hd] at hdi
                have hr := HNO.out (.inr (.inr (.inl (HBAD.out hdi))))
                have HR := Lib.hid hr
                have hd' : (X[i].toNat : Int) < 48 ∨ ((48 : Int) ≤ (X[i].toNat : Int) ∧ (57 : Int) < (X[i].toNat : Int)) := by omega
                clear hdi hd HBAD HNO HNEG HPOS hlen hr
                rcases hd' with d1 | ⟨d1, d2⟩
                all_goals
                  go_wp2_with fail
                  go_ret2
                  exact ⟨HR.out, rfl⟩
            · obtain rfl : i = X.length := by omega
              rw [List.take_length] at hall hvb
              simp only [List.take_length]
              have hpow : 10 ^ X.length ≤ 10 ^ 19 := Nat.pow_le_pow_right (by decide) h19n
              have hlt' : ¬ (X.length : Int) < (X.length : Int) := by omega
              have hN1 := fun x => HNEG.out x
              have hP1 := fun x => HPOS.out x
              rw [show dvalJ X = dvA 0 X from rfl] at hN1 hP1
              generalize hV : dvA 0 X = V at *
              have hV19 : V < 10000000000000000000 := by omega
              have HALL := Lib.hid hall
              have HN1 := Lib.hid hN1
              have HP1 := Lib.hid hP1
              clear hall hvb hpow hV hN1 hP1 HNEG HPOS HNO
              cases NG with
              | true =>
                have hc45 : c = 45 := of_decide_eq_true HNG.out
                have hl2 : (X.length : Int) < (r.length : Int) + 1 := by have := hlen.2 rfl; omega
                have HQ := Lib.hid fun (x : Int) (b : Bool) (hb : b = decide (V ≤ 9223372036854775808)) hx => hb ▸ HN1.out x (by rw [hc45]; rfl) h0 h19n HALL.out HZ.out hx
                clear hlen HN1 HP1 HALL HZ hc45 h0
                go_wp2_with fail
                go_ret2
                exact ⟨HQ.out _ _ (by rw [Bool.eq_iff_iff, decide_eq_true_iff, decide_eq_true_iff]; omega) (fun hb => by simp only [IntKind.wrap_u64]; first | omega | (unfold wrap64; omega)), rfl⟩
              | false =>
                have hc45 : ¬ c = 45 := of_decide_eq_false HNG.out
                have hl2 : ¬ (X.length : Int) < (r.length : Int) + 1 := by
                  intro h
                  have := hlen.1 (by omega)
                  cases this
                have HQ := Lib.hid fun (x : Int) (b : Bool) (hb : b = decide (V < 9223372036854775808)) hx => hb ▸ HP1.out x (by intro e; exact hc45 (by simpa using e)) h0 h19n HALL.out HZ.out hx
                clear hlen HN1 HP1 HALL HZ hc45 h0
                go_wp2_with fail
                go_ret2
                exact ⟨HQ.out _ _ (by rw [Bool.eq_iff_iff, decide_eq_true_iff, decide_eq_true_iff]; omega) (fun hb => by first | omega | (unfold wrap64; omega)), rfl⟩
end Go.Proofs.YthlppbpccldikaaDoor
