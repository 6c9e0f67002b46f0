/-
  Walks of chapter 4: lower case (program and reference), a name with a capital.
-/
import Derived.Test.YtooabnmmgmmklaaDoorByt
import Derived.Test.YtooabnmmgmmklaaDoorRnd4
import Derived.OwnWalk
set_option linter.unusedVariables false
namespace Go.Proofs.YtooabnmmgmmklaaDoor
open Go.RowKit

/-- The bytes when i of them have been looked at. -/
def lowTo (P : Bytes) (i : Nat) : Bytes := (P.take i).map low ++ P.drop i
theorem lowTo_zero (P : Bytes) : lowTo P 0 = P := by simp [lowTo]
theorem lowTo_all (P : Bytes) : lowTo P P.length = lowS P := by simp [lowTo, lowS]
theorem lowTo_len (P : Bytes) (i : Nat) : (lowTo P i).length = P.length := by
  unfold lowTo
  rw [List.length_append, List.length_map, List.length_take, List.length_drop]; omega
theorem lowTo_form {P : Bytes} {i : Nat} (h : i < P.length) : lowTo P i = (P.take i).map low ++ P[i] :: P.drop (i + 1) := by
  unfold lowTo; rw [List.drop_eq_getElem_cons h]
theorem lowTo_next {P : Bytes} {i : Nat} (h : i < P.length) : lowTo P (i + 1) = (P.take i).map low ++ low P[i] :: P.drop (i + 1) := by
  unfold lowTo
  rw [List.take_succ_eq_append_getElem h, List.map_append, List.append_assoc]
  rfl
theorem lowTo_same {P : Bytes} {i : Nat} (h : i < P.length) (hs : low P[i] = P[i]) : lowTo P (i + 1) = lowTo P i := by
  rw [lowTo_next h, lowTo_form h, hs]
theorem lowTo_get {P : Bytes} {i : Nat} (h : i < P.length) (h2 : i < (lowTo P i).length) : (lowTo P i)[i] = P[i] := by
  have hl : ((P.take i).map low).length = i := by rw [List.length_map, List.length_take]; omega
  have e := lowTo_form h
  simp only [e]
  rw [List.getElem_append_right (by omega)]
  simp only [hl, Nat.sub_self, List.getElem_cons_zero]
theorem lowTo_set {P : Bytes} {i : Nat} (h : i < P.length) : lowTo P (i + 1) = (lowTo P i).set i (low P[i]) := by
  have hl : ((P.take i).map low).length = i := by rw [List.length_map, List.length_take]; omega
  rw [lowTo_next h, lowTo_form h, List.set_append_right _ _ (by omega), hl, Nat.sub_self, List.set_cons_zero]
theorem low_yes {c : UInt8} (h1 : 65 ≤ c.toNat) (h2 : c.toNat ≤ 90) : ((low c).toNat : Int) = (c.toNat : Int) + 32 := by
  unfold low
  rw [if_pos ⟨h1, h2⟩, u8_of (by omega)]
  omega
theorem low_no {c : UInt8} (h : ¬ (65 ≤ c.toNat ∧ c.toNat ≤ 90)) : low c = c := by
  unfold low
  rw [if_neg h]
theorem lowS_len (l : Bytes) : (lowS l).length = l.length := by simp [lowS]

set_option maxHeartbeats 2000000 in
set_option maxRecDepth 100000 in
theorem lower_any (l : Bytes) (w : World) (hl : l.length ≤ 4611686018427387904) :
    Calls Tryd.prog 56 #[.string (S l)] w fun e w' => e = .returned (.string (S (lowS l))) ∧ Below w.heap.size w w' := by
  obtain ⟨D, hD⟩ : ∃ D, lowS l = D := ⟨_, rfl⟩
  rw [hD]
  have HD := Lib.hid hD
  clear hD
  obtain ⟨c, W, hcv, hby, hbW⟩ := bytes_of w l
  have HB2 := Lib.hid hbW
  have HBY := Lib.hid hby
  clear hbW hby
  go_enter Tryd.func56, Tryd.ntmps56
  go_wp2_with fail
  go_loopw [10] (fun i6 wr => ∃ i : Nat, i ≤ l.length ∧ i6 = .int .i64 i ∧ BytesAt wr w.heap.size (lowTo l i) ∧ Below w.heap.size w wr) (fun i6 _ => l.length - (intOf i6).toNat)
  case atStart => exact ⟨0, Nat.zero_le _, rfl, by rw [lowTo_zero]; exact HBY.out, HB2.out⟩
  case round =>
    obtain ⟨i, hi, rfl, hby, hb⟩ := hrel
    have HY := Lib.hid hby
    have HB3 := Lib.hid hb
    clear hb
    by_cases hlt : i < l.length
    · have hlt' : (i : Int) < l.length := by omega
      have hj : i < (lowTo l i).length := by rw [lowTo_len]; exact hlt
      have hcell := hby.cell hj
      have hfree := hby.free hj
      rw [lowTo_get hlt] at hcell
      have hb8 := u8_lt l[i]
      clear hby
      by_cases hc : 65 ≤ l[i].toNat ∧ l[i].toNat ≤ 90
      · obtain ⟨h1, h2⟩ := hc
        have h1' : (65 : Int) ≤ (l[i].toNat : Int) := by omega
        have h2' : (l[i].toNat : Int) ≤ 90 := by omega
        have hv := low_yes h1 h2
        have HN := Lib.hid (lowTo_set hlt)
        have HV := Lib.hid hv
        have hw : IntKind.u8.wrap ((l[i].toNat : Int) + 32) = ((low l[i]).toNat : Int) := by rw [IntKind.wrap_u8, hv]; omega
        clear h1 h2 hv
        go_wp2_with fail
        go_roundw
        case rel => exact ⟨i + 1, by omega, by go_num, by rw [HN.out]; exact HY.out.set_ hj _, HB3.out.setCell (p := ⟨w.heap.size, i, none⟩) (Nat.le_refl _) _⟩
        case measure => simp [intOf]; omega
      · have HN := Lib.hid (lowTo_same hlt (low_no hc))
        have hc' : ¬ ((65 : Int) ≤ (l[i].toNat : Int)) ∨ ((65 : Int) ≤ (l[i].toNat : Int) ∧ ¬ ((l[i].toNat : Int) ≤ 90)) := by omega
        clear hc
        rcases hc' with h1 | ⟨h1, h2⟩
        all_goals
          go_wp2_with fail
          go_roundw
          case rel => exact ⟨i + 1, by omega, by go_num, by rw [HN.out]; exact HY.out, HB3.out⟩
          case measure => simp [intOf]; omega
    · obtain rfl : i = l.length := by omega
      rw [lowTo_all, HD.out] at hby
      have hln : D.length = l.length := by rw [← HD.out]; exact lowS_len l
      have hbk := bytes_back hby c
      rw [hln] at hbk
      clear hln hby
      go_wp2_with fail
      go_ret
      exact ⟨by go_simp, HB3.out⟩

set_option maxHeartbeats 2000000 in
set_option maxRecDepth 100000 in
theorem refLower_any (l : Bytes) (w : World) (hl : l.length ≤ 1099511627776) :
    Calls Tryd.prog 58 #[.string (S l)] w fun e w' => e = .returned (.string (S (lowS l))) ∧ Below w.heap.size w w' := by
  obtain ⟨R, hR⟩ : ∃ R, lowS l = R := ⟨_, rfl⟩
  rw [hR]
  have HR := Lib.hid hR
  clear hR
  go_enter Tryd.func58, Tryd.ntmps58
  go_wp2_with fail
  go_loopw [3, 4] (fun v3 i4 wr => ∃ i : Nat, i ≤ l.length ∧ i4 = .int .i64 i ∧ Own w.heap.size v3 (lowS (l.take i)) wr ∧ Below w.heap.size w wr) (fun _ i4 _ => l.length - (intOf i4).toNat)
  case atStart => exact ⟨0, Nat.zero_le _, rfl, Own.nil _ _, Below.refl _ _⟩
  case round =>
    obtain ⟨i, hil, rfl, hown, hb⟩ := hrel
    have HO := Lib.hid hown
    have HB := Lib.hid hb
    have hsz := hb.size
    clear hown hb
    by_cases hlt : i < l.length
    · have hil' : (i : Int) < l.length := by omega
      have hacc : lowS (l.take (i + 1)) = lowS (l.take i) ++ [low l[i]] := by unfold lowS; rw [List.take_succ_eq_append_getElem hlt, List.map_append]; rfl
      have hal : (lowS (l.take i)).length ≤ l.length := by rw [lowS_len, List.length_take]; omega
      have HACC := Lib.hid hacc
      clear hacc
      generalize lowS (l.take i) = o at *
      have hb8 := u8_lt l[i]
      by_cases hc : 65 ≤ l[i].toNat ∧ l[i].toNat ≤ 90
      · obtain ⟨h1, h2⟩ := hc
        have h1' : (65 : Int) ≤ (l[i].toNat : Int) := by omega
        have h2' : (l[i].toNat : Int) ≤ 90 := by omega
        have hv := low_yes h1 h2
        have hw : IntKind.u8.wrap ((l[i].toNat : Int) + 32) = ((low l[i]).toNat : Int) := by rw [IntKind.wrap_u8, hv]; omega
        clear h1 h2 hv
        go_wp2_with (at_builtin; refine own_append_byte (c := low l[i]) rfl _ _ rfl w.heap.size _ o rfl HO.out rfl (by omega) hsz ?_; intro v' w' hown' hb')
        go_roundw
        case rel => exact ⟨i + 1, by omega, by go_num, by rw [HACC.out]; exact hown', HB.out.trans (hb'.mono (Nat.le_refl _))⟩
        case measure => simp [intOf]; omega
      · rw [low_no hc] at HACC
        have hc' : ¬ ((65 : Int) ≤ (l[i].toNat : Int)) ∨ ((65 : Int) ≤ (l[i].toNat : Int) ∧ ¬ ((l[i].toNat : Int) ≤ 90)) := by omega
        clear hc
        rcases hc' with h1 | ⟨h1, h2⟩
        all_goals
          go_wp2_with (at_builtin; refine own_append_byte (c := l[i]) rfl _ _ rfl w.heap.size _ o rfl HO.out rfl (by omega) hsz ?_; intro v' w' hown' hb')
          go_roundw
          case rel => exact ⟨i + 1, by omega, by go_num, by rw [HACC.out]; exact hown', HB.out.trans (hb'.mono (Nat.le_refl _))⟩
          case measure => simp [intOf]; omega
    · obtain rfl : i = l.length := by omega
      rw [List.take_length, HR.out] at HO
      have hcv := own_string HO.out
      go_wp2
      go_ret
      exact ⟨rfl, HB.out⟩

theorem below_drewN4' {B : Nat} {w w' : World} (h : Below B w w') (n : Nat) : Below B w (w'.drewN n) := ⟨h.os, h.tape, h.output, h.size, h.block⟩
set_option maxHeartbeats 1000000 in
theorem title_any (a b c : UInt8) (ha : 32 ≤ a.toNat) (w : World) :
    Calls Tryd.prog 22 #[.string (S [a, b, c])] w fun e w' => e = .returned (.string (S (titleS [a, b, c]))) ∧ Below w.heap.size w w' := by
  have e : titleS [a, b, c] = [UInt8.ofNat (a.toNat - 32), b, c] := rfl
  rw [e]
  have ha2 := u8_lt a
  have hb2 := u8_lt b
  have hc2 := u8_lt c
  have hw : IntKind.u8.wrap ((a.toNat : Int) - 32) = ((UInt8.ofNat (a.toNat - 32)).toNat : Int) := by rw [IntKind.wrap_u8, u8_of (by omega)]; omega
  generalize UInt8.ofNat (a.toNat - 32) = a' at *
  have hb' := u8_lt a'
  have hcv : ∀ W : World, ∀ g, W.cell? ⟨g, 0, none⟩ = some (.int .u8 a'.toNat) → W.cell? ⟨g, 1, none⟩ = some (.int .u8 b.toNat) → W.cell? ⟨g, 2, none⟩ = some (.int .u8 c.toNat) → (convert 38 9 (.slice (some ⟨g, 0, none⟩) 3 3)).run Tryd.prog W = .ok (.string (S [a', b, c])) W := fun W g h0 h1 h2 => by
    refine run_bytes_string W ⟨g, 0, none⟩ [a', b, c] 3 (fun j x hx => ?_)
    have e : (⟨g, 0, none⟩ : Addr).add j = ⟨g, j, none⟩ := by unfold Addr.add; split <;> simp_all
    rw [e]
    match j, hx with
    | 0, hx => simp at hx; subst hx; exact h0
    | 1, hx => simp at hx; subst hx; exact h1
    | 2, hx => simp at hx; subst hx; exact h2
  go_enter Tryd.func22, Tryd.ntmps22
  go_wp2_with fail
  go_region
  all_goals (go_wp2_with fail)
  go_ret
  exact ⟨rfl, (below_drewN4' ((Below.refl _ w).alloc (Nat.le_refl _) _) _)⟩
end Go.Proofs.YtooabnmmgmmklaaDoor
