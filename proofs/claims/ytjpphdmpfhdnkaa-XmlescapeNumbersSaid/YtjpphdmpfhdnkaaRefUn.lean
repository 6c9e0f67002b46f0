/-
  Walks of chapter 5: Unescape (the reference).
-/
import Derived.Test.YtjpphdmpfhdnkaaRefU
set_option linter.unusedVariables false
namespace Go.Proofs.Ytjpphdmpfhdnkaa
open Go.RowKit

/-- What Unescape returns. -/
def unT (l : Bytes) : Bytes × Int × Int := match unesc l with | .ok o => (o, l.length, 0) | .error n => ([], n, 12)
theorem unT_ok {l o : Bytes} (h : unesc l = .ok o) : unT l = (o, (l.length : Int), 0) := by unfold unT; rw [h]
theorem unT_error {l : Bytes} {n : Nat} (h : unesc l = .error n) : unT l = ([], (n : Int), 12) := by unfold unT; rw [h]
/-- How far Unescape has come: o is what it has written, i where it stands. -/
def UnAt (l o : Bytes) (i : Nat) : Prop := unesc l = (unescS 0 (l.drop i) i).map (o ++ ·)
theorem UnAt.start (l : Bytes) : UnAt l [] 0 := by
  unfold UnAt unesc
  rw [List.drop_zero]
  cases unescS 0 l 0 <;> rfl
theorem UnAt.byte {l o : Bytes} {i : Nat} (h : UnAt l o i) (hi : i < l.length) (hc : l[i] ≠ 38) : UnAt l (o ++ [l[i]]) (i + 1) := by
  unfold UnAt at *
  rw [h, unesc_byte hi hc, map_map_ex]
theorem UnAt.ref {l o : Bytes} {i r m : Nat} (h : UnAt l o i) (hi : i < l.length) (hc : l[i] = 38) (ht : tailRef (l.drop (i + 1)) = some (r, m)) : UnAt l (o ++ enc r) (i + m + 2) := by
  unfold UnAt at *
  rw [h, unesc_ref hi hc ht, map_map_ex]
theorem UnAt.bad {l o : Bytes} {i : Nat} (h : UnAt l o i) (hi : i < l.length) (hc : l[i] = 38) (ht : tailRef (l.drop (i + 1)) = none) : unesc l = .error i := by
  unfold UnAt at *
  rw [h, unesc_bad hi hc ht]; rfl
theorem UnAt.end_ {l o : Bytes} {i : Nat} (h : UnAt l o i) (hi : i = l.length) : unesc l = .ok o := by
  unfold UnAt at *
  rw [h, hi, List.drop_length]
  simp [unescS, Except.map]
theorem ret_un {k2 k3 : IntKind} {a : Bytes} {b c : Int} {r : Bytes × Int × Int} (h : r = (a, b, c)) : Ending.returned (.tuple #[.string (S a), .int k2 b, .int k3 c]) = .returned (.tuple #[.string (S r.1), .int k2 r.2.1, .int k3 r.2.2]) := by rw [h]
theorem val_S {a b : Bytes} (h : a = b) : Value.string (S a) = .string (S b) := by rw [h]
theorem take_one {l : Bytes} {i : Nat} (h : i < l.length) : (l.drop i).take 1 = [l[i]] := by
  rw [List.drop_eq_getElem_cons h]; rfl

set_option maxHeartbeats 2000000 in
theorem refUnescape_any (l : Bytes) (w : World) (hl : l.length ≤ 1099511627776) :
    Calls Try.prog 16 #[.string (S l)] w fun e w' => e = .returned (.tuple #[.string (S (unT l).1), .int .i64 (unT l).2.1, .int .i64 (unT l).2.2]) ∧ Below w.heap.size w w' := by
  obtain ⟨r, hr⟩ : ∃ r, unT l = r := ⟨_, rfl⟩
  rw [hr]
  have HR := Lib.hid hr
  clear hr
  go_enter Try.func16, Try.ntmps16
  go_wp2_with fail
  go_loopw [5, 6] (fun o5 i6 wr => ∃ (o : Bytes) (i : Nat), i ≤ l.length ∧ i6 = .int .i64 i ∧ o5 = .string (S o) ∧ o.length ≤ 4 * i ∧ UnAt l o i ∧ Below w.heap.size w wr) (fun _ i6 _ => l.length - (intOf i6).toNat)
  case atStart => exact ⟨[], 0, Nat.zero_le _, rfl, rfl, by simp, UnAt.start l, Below.refl _ _⟩
  case round =>
    obtain ⟨o, i, hil, rfl, rfl, hol, hun, hb⟩ := hrel
    have HUN := Lib.hid hun
    have HB := Lib.hid hb
    have hsz := hb.size
    clear hun hb
    by_cases hlt : i < l.length
    · by_cases hc : l[i] = 38
      · have t1 : (((l[i]).toNat : Int) == 38) = true := by rw [hc]; rfl
        have t1' : (((l[i]).toNat : Int) != 38) = false := by rw [bne, t1]; rfl
        have hra := refAt_in hlt hc
        cases ht : tailRef (l.drop (i + 1)) with
        | none =>
          rw [ht] at hra
          have hend := (unT_error (HUN.out.bad hlt hc ht)).symm.trans HR.out
          have HE := Lib.hid hend
          have hcall : ∀ w, Calls Try.prog 14 #[.string (S l), .int .i64 i] w fun e w' => e = .returned (.tuple #[.int .i64 0, .int .i64 0, .int .i64 12]) ∧ w = w' := fun w => by
            have := refReference_any l i w (by omega)
            rw [hra] at this
            exact this
          have HC := Lib.hid hcall
          clear hcall hend hra ht hc
          go_wp2_with (go_at_call 14; refine (HC.out _).mono ?_; rintro e w' ⟨rfl, rfl⟩)
          go_ret3
          exact ⟨ret_un HE.out.symm, HB.out⟩
        | some p =>
          obtain ⟨q, m⟩ := p
          rw [ht] at hra
          have hm := tailRef_len ht
          have hq := tailRef_char ht
          rw [List.length_drop] at hm
          have hnx := HUN.out.ref hlt hc ht
          have HN := Lib.hid hnx
          have hel : (enc q).length ≤ 4 := (enc_len q (isChar_ok hq)).2
          have hcall : ∀ w, Calls Try.prog 14 #[.string (S l), .int .i64 i] w fun e w' => e = .returned (.tuple #[.int .i64 q, .int .i64 ((i : Int) + m + 2), .int .i64 0]) ∧ w = w' := fun w => by
            have := refReference_any l i w (by omega)
            rw [hra] at this
            exact this
          have henc : ∀ w, Calls Try.prog 21 #[.int .i64 q] w fun e w' => e = .returned (.string (S (enc q))) ∧ Below w.heap.size w w' := fun w => by
            have := refEncode_any q w
            rw [encI_nat] at this
            exact this
          have HC := Lib.hid hcall
          have HEN := Lib.hid henc
          clear hcall henc hra ht hc hq hnx
          generalize enc q = E at *
          go_wp2_with (first
            | (go_at_call 14; refine (HC.out _).mono ?_; rintro e w' ⟨rfl, rfl⟩)
            | (go_at_call 21; refine (HEN.out _).mono ?_; rintro e w' ⟨rfl, hbe⟩))
          go_roundw
          case rel =>
            exact ⟨o ++ E, i + m + 2, by omega, by go_num, rfl, by rw [List.length_append]; omega, HN.out, HB.out.trans (hbe.mono hsz)⟩
          case measure => simp [intOf]; omega
      · have t1 : (((l[i]).toNat : Int) == 38) = false := by
          rw [beq_eq_false_iff_ne]; exact fun e => hc (UInt8.toNat_inj.1 (by simpa using Int.ofNat_inj.1 e))
        have t1' : (((l[i]).toNat : Int) != 38) = true := by rw [bne, t1]; rfl
        have hnx := HUN.out.byte hlt hc
        have HN := Lib.hid hnx
        have ht1 := take_one hlt
        clear hnx hc
        go_wp2_with fail
        go_roundw
        case rel =>
          refine ⟨o ++ [l[i]], i + 1, by omega, by go_num, val_S (by simp), by rw [List.length_append, List.length_singleton]; omega, HN.out, HB.out⟩
        case measure => simp [intOf]; omega
    · obtain rfl : i = l.length := by omega
      have hend := (unT_ok (HUN.out.end_ rfl)).symm.trans HR.out
      have HE := Lib.hid hend
      clear hend
      go_wp2
      go_ret3
      exact ⟨ret_un HE.out.symm, HB.out⟩
end Go.Proofs.Ytjpphdmpfhdnkaa
