/-
  Walk of chapter 5: the program's Unescape.
-/
import Derived.Test.YtjpphdmpfhdnkaaRefP
import Derived.Test.YtjpphdmpfhdnkaaRefUn
import Derived.Test.YtjpphdmpfhdnkaaRune
set_option linter.unusedVariables false
namespace Go.Proofs.Ytjpphdmpfhdnkaa
open Go.RowKit

theorem upto_no {c : UInt8} : ∀ {l : Bytes}, upto c l = none → ∀ b ∈ l, b ≠ c
  | [], _, b, hb => by cases hb
  | a :: l, h, b, hb => by
    rw [upto] at h
    split at h
    · cases h
    · rename_i e
      have h' : upto c l = none := by
        cases hu : upto c l with
        | none => rfl
        | some x => rw [hu] at h; cases h
      rcases List.mem_cons.1 hb with rfl | hb
      · exact e
      · exact upto_no h' b hb
theorem UnAt.run {l o : Bytes} {i : Nat} (h : UnAt l o i) : ∀ k, i + k ≤ l.length → (∀ b ∈ (l.drop i).take k, b ≠ 38) → UnAt l (o ++ (l.drop i).take k) (i + k)
  | 0, _, _ => by simpa using h
  | k + 1, hk, hb => by
    have e : (l.drop i).take (k + 1) = (l.drop i).take k ++ [l[i + k]'(by omega)] := by
      rw [List.take_succ_eq_append_getElem (by simp; omega), List.getElem_drop]
    rw [e] at hb ⊢
    have ih := UnAt.run h k (by omega) (fun b h' => hb b (by simp [h']))
    have := ih.byte (by omega) (hb _ (by simp))
    rw [List.append_assoc] at this
    exact this

set_option maxHeartbeats 4000000 in
theorem unescape_any (l : Bytes) (w : World) (hl : l.length ≤ 1099511627776) :
    Calls Try.prog 15 #[.string (S l)] w fun e w' => e = .returned (.tuple #[.string (S (unT l).1), .int .i64 (unT l).2.1, .int .i64 (unT l).2.2]) ∧ Below w.heap.size w w' := by
  obtain ⟨r, hr⟩ : ∃ r, unT l = r := ⟨_, rfl⟩
  rw [hr]
  have HR := Lib.hid hr
  have hbn := Bld.new w
  have HB0 := Lib.hid hbn
  clear hr hbn
  go_enter Try.func15, Try.ntmps15
  go_wp2_with fail
  go_loopw [6] (fun a6 wr => ∃ (o : Bytes) (i : Nat), i ≤ l.length ∧ a6 = .int .i64 i ∧ o.length ≤ 4 * i ∧ UnAt l o i ∧ Bld w.heap.size w.heap.size o wr ∧ Below w.heap.size w wr) (fun a6 _ => l.length - (intOf a6).toNat)
  case atStart => exact ⟨[], 0, Nat.zero_le _, rfl, by simp, UnAt.start l, HB0.out, (Below.refl _ _).alloc (Nat.le_refl _) _⟩
  case round =>
    obtain ⟨o, i, hil, rfl, hol, hun, hbl, hb⟩ := hrel
    have HUN := Lib.hid hun
    have HBL := Lib.hid hbl
    have HB := Lib.hid hb
    have hsz := hb.size
    clear hun hbl hb
    have hil' : (i : Int) ≤ l.length := by omega
    have hdl : (l.drop i).length = l.length - i := List.length_drop
    have hix := indexByte_upto 38 (l.drop i)
    have hI := fun w => Try.strings_IndexByte (S (l.drop i)) 38 w
    rw [S_data, show ((38 : Int).toNat.toUInt8) = (38 : UInt8) from rfl, hix] at hI
    cases hu : upto 38 (l.drop i) with
    | none =>
      rw [hu] at hI
      have hrun := HUN.out.run (l.length - i) (by omega) (fun b hb => upto_no hu b (List.mem_of_mem_take hb))
      rw [List.take_of_length_le (by omega)] at hrun
      have hend := (unT_ok (hrun.end_ (by omega))).symm.trans HR.out
      have HE := Lib.hid hend
      have HI := Lib.hid hI
      clear hI hrun hend hix hu
      have hlen : o.length + (l.drop i).length ≤ 140737488355328 := by omega
      have HD := Lib.hid hdl
      clear hdl
      go_wp2_with (go_at_call 17; refine (HI.out _).mono ?_; rintro e w' ⟨rfl, rfl⟩)
      refine (writeString_any w.heap.size w.heap.size o _ _ HBL.out hlen hsz).mono ?_
      rintro e w1 ⟨rfl, hb1, hbel1, _⟩
      have HB1 := Lib.hid hb1
      have HE1 := Lib.hid hbel1
      have hs1 := hbel1.size
      clear hb1 hbel1
      go_wp2_with fail
      refine (builderString_any w.heap.size w.heap.size _ _ HB1.out (by omega)).mono ?_
      rintro e w2 ⟨rfl, hb2, hbel2, _⟩
      have HE2 := Lib.hid hbel2
      clear hb2 hbel2
      go_wp2_with fail
      go_ret3
      exact ⟨ret_un HE.out.symm, HB.out.trans (HE1.out.trans HE2.out)⟩
    | some x =>
      rw [hu] at hI
      obtain ⟨t, ht, hnx⟩ := upto_some hu
      have hxl : i + x.length + 1 ≤ l.length := by
        have := congrArg List.length ht
        simp only [List.length_drop, List.length_append, List.length_cons] at this
        omega
      have hxt : (l.drop i).take x.length = x := by rw [ht]; simp
      have hrun := HUN.out.run x.length (by omega) (by rw [hxt]; exact hnx)
      rw [hxt] at hrun
      have hlt : i + x.length < l.length := by omega
      have hc : l[i + x.length] = 38 := by
        have h1 : (l.drop i)[x.length]'(by rw [List.length_drop]; omega) = 38 := by simp only [ht]; simp
        rw [List.getElem_drop] at h1
        exact h1
      have hra := refAt_in hlt hc
      have HI := Lib.hid hI
      have HD := Lib.hid hdl
      clear hI hix hu hdl
      cases htr : tailRef (l.drop (i + x.length + 1)) with
      | none =>
        rw [htr] at hra
        have hend := (unT_error (hrun.bad hlt hc htr)).symm.trans HR.out
        have HE := Lib.hid hend
        have hcall : ∀ w, Calls Try.prog 13 #[.string (S l), .int .i64 ((i : Int) + x.length)] w fun e w' => e = .returned (.tuple #[.int .i32 0, .int .i64 0, .int .i64 12]) ∧ Below w.heap.size w w' := fun w => by
          have := reference_any l ((i + x.length : Nat) : Int) w (by omega)
          rw [hra] at this
          rw [Int.natCast_add] at this
          exact this
        have HC := Lib.hid hcall
        clear hcall hend hra htr hc hrun hnx ht hxt
        go_wp2_with (first
          | (go_at_call 17; refine (HI.out _).mono ?_; rintro e w' ⟨rfl, rfl⟩)
          | (go_at_call 13; refine (HC.out _).mono ?_; rintro e w' ⟨rfl, hbe⟩))
        go_ret3
        exact ⟨ret_un (by rw [← HE.out]; simp), HB.out.trans (hbe.mono hsz)⟩
      | some p =>
        obtain ⟨q, m⟩ := p
        rw [htr] at hra
        have hm := tailRef_len htr
        have hq := isChar_ok (tailRef_char htr)
        rw [List.length_drop] at hm
        have hnext := hrun.ref hlt hc htr
        have HN := Lib.hid hnext
        have hel : (enc q).length ≤ 4 := (enc_len q hq).2
        have hcall : ∀ w, Calls Try.prog 13 #[.string (S l), .int .i64 ((i : Int) + x.length)] w fun e w' => e = .returned (.tuple #[.int .i32 q, .int .i64 ((i : Int) + x.length + m + 2), .int .i64 0]) ∧ Below w.heap.size w w' := fun w => by
          have := reference_any l ((i + x.length : Nat) : Int) w (by omega)
          rw [hra] at this
          simp only [Int.natCast_add] at this
          exact this
        have HC := Lib.hid hcall
        have HQ := Lib.hid hq
        have hlen : o.length + x.length ≤ 140737488355328 := by omega
        have hlen2 : (o ++ x).length + 4 ≤ 140737488355328 := by rw [List.length_append]; omega
        clear hcall hra htr hc hrun hnx ht hq hnext
        have e1 : (i : Int) + x.length ≤ l.length := by omega
        go_wp2_with (first
          | (go_at_call 17; refine (HI.out _).mono ?_; rintro e w' ⟨rfl, rfl⟩)
          | (go_at_call 13; refine (HC.out _).mono ?_; rintro e w1 ⟨rfl, hbe⟩))
        have hbl1 := HBL.out.below hbe
        have HB1 := Lib.hid hbl1
        have HE1 := Lib.hid (HB.out.trans (hbe.mono hsz))
        have hs1 := HE1.out.size
        clear hbl1 hbe
        refine (writeString_any w.heap.size w.heap.size o x _ HB1.out hlen hs1).mono ?_
        rintro e w2 ⟨rfl, hb2, hbel2, _⟩
        have HB2 := Lib.hid hb2
        have HE2 := Lib.hid (HE1.out.trans hbel2)
        have hs2 := HE2.out.size
        clear hb2 hbel2
        go_wp2_with fail
        refine (writeRune_any w.heap.size w.heap.size (o ++ x) q HQ.out _ HB2.out hlen2 hs2).mono ?_
        rintro e w3 ⟨⟨kk, rfl⟩, hb3, hbel3, _⟩
        have HB3 := Lib.hid hb3
        have HE3 := Lib.hid (HE2.out.trans hbel3)
        clear hb3 hbel3
        go_wp2_with fail
        go_roundw
        case rel => exact ⟨o ++ x ++ enc q, i + x.length + m + 2, by omega, by go_num, by simp only [List.length_append]; omega, HN.out, HB3.out, HE3.out⟩
        case measure => simp [intOf]; omega
end Go.Proofs.Ytjpphdmpfhdnkaa
