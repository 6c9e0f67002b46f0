/-
  Walks of chapter 6: the reference's Lines and content.
-/
import Derived.Test.YthbfahbjfioghaaGreatDoorTokR1
import Derived.Test.YthbfahbjfioghaaGreatDoorRefU
set_option linter.unusedVariables false
namespace Go.Proofs.YthbfahbjfioghaaGreatDoor
open Go.RowKit

theorem byte_eq {c : UInt8} {k : Nat} (h : c.toNat = k) : ((c.toNat : Int) == (k : Int)) = true := by rw [h]; simp
theorem byte_ne {c : UInt8} {k : Nat} (h : c.toNat ≠ k) : ((c.toNat : Int) == (k : Int)) = false := by rw [beq_eq_false_iff_ne]; omega

set_option maxHeartbeats 2000000 in
theorem refLines_any (l : Bytes) (w : World) (hl : l.length ≤ 1099511627776) :
    Calls Tryz.prog 21 #[.string (S l)] w fun e w' => e = .returned (.string (S (linesB l))) ∧ Below w.heap.size w w' := by
  obtain ⟨R, hR⟩ : ∃ R, linesB l = R := ⟨_, rfl⟩
  rw [hR]
  have HR := Lib.hid hR
  clear hR
  go_enter Tryz.func21, Tryz.ntmps21
  go_wp2_with fail
  go_loopw [3, 4] (fun v3 i4 wr => ∃ (i : Nat) (o : Bytes), i ≤ l.length ∧ i4 = .int .i64 i ∧ o.length ≤ i ∧ o ++ linesB (l.drop i) = R ∧ Own w.heap.size v3 o wr ∧ Below w.heap.size w wr) (fun _ i4 _ => l.length - (intOf i4).toNat)
  case atStart => exact ⟨0, [], Nat.zero_le _, rfl, by simp, HR.out, Own.nil _ _, Below.refl _ _⟩
  case round =>
    obtain ⟨i, o, hil, rfl, hoi, ho, hown, hb⟩ := hrel
    have HO := Lib.hid hown
    have HB := Lib.hid hb
    have hsz := hb.size
    clear hown hb
    by_cases hlt : i < l.length
    · have hil' : (i : Int) < l.length := by omega
      by_cases hc : l[i].toNat = 13
      · have t1 : ((l[i].toNat : Int) == 13) = true := byte_eq hc
        by_cases hx : ∃ h : i + 1 < l.length, l[i + 1].toNat = 10
        · obtain ⟨hx1, hx2⟩ := hx
          have hx1' : (i : Int) + 1 < l.length := by omega
          have t2 : ((l[i + 1].toNat : Int) == 10) = true := byte_eq hx2
          rw [lines_skip hx1 hc hx2] at ho
          have HOO := Lib.hid ho
          clear ho hc hx2
          go_wp2_with fail
          go_roundw
          case rel => exact ⟨i + 1, o, by omega, by go_num, by omega, HOO.out, HO.out, HB.out⟩
          case measure => simp [intOf]; omega
        · rw [lines_cr hlt hc (fun h h2 => hx ⟨h, h2⟩)] at ho
          have HOO := Lib.hid ho
          have hx' : (¬ (i : Int) + 1 < l.length) ∨ ((i : Int) + 1 < l.length ∧ ∃ h : i + 1 < l.length, ((l[i + 1].toNat : Int) == 10) = false) := by
            by_cases h : i + 1 < l.length
            · exact .inr ⟨by omega, h, byte_ne (fun h2 => hx ⟨h, h2⟩)⟩
            · exact .inl (by omega)
          clear ho hc hx
          rcases hx' with hx' | ⟨hx1, hx2, hx3⟩
          all_goals
            go_wp2_with (at_builtin; refine own_append_byte (c := 10) rfl _ _ rfl w.heap.size _ o rfl HO.out rfl (by omega) hsz ?_; intro v' w' hown' hb')
            go_roundw
            case rel => exact ⟨i + 1, o ++ [10], by omega, by go_num, by simp; omega, by rw [List.append_assoc]; exact HOO.out, hown', HB.out.trans (hb'.mono (Nat.le_refl _))⟩
            case measure => simp [intOf]; omega
      · have t1 : ((l[i].toNat : Int) == 13) = false := byte_ne hc
        rw [lines_byte hlt hc] at ho
        have HOO := Lib.hid ho
        clear ho hc
        go_wp2_with (at_builtin; refine own_append_byte rfl _ _ rfl w.heap.size _ o rfl HO.out rfl (by omega) hsz ?_; intro v' w' hown' hb')
        go_roundw
        case rel => exact ⟨i + 1, o ++ [l[i]], by omega, by go_num, by simp; omega, by rw [List.append_assoc]; exact HOO.out, hown', HB.out.trans (hb'.mono (Nat.le_refl _))⟩
        case measure => simp [intOf]; omega
    · obtain rfl : i = l.length := by omega
      rw [List.drop_length, linesB, List.append_nil] at ho
      subst ho
      have hcv := own_string HO.out
      go_wp2
      go_ret
      exact ⟨rfl, HB.out⟩

/-- A slice of bytes in a block of its own. -/
def BytesAt (w : World) (g : Nat) (P : Bytes) : Prop := ∃ C : Array Value, w.heap[g]? = some (.cells C 5 (C.size, C.size + 1)) ∧ ∀ (j : Nat) c, P[j]? = some c → C[j]? = some (.int .u8 c.toNat)
section
variable {w w' : World} {g : Nat} {P : Bytes}
theorem BytesAt.lt (h : BytesAt w g P) : g < w.heap.size := by obtain ⟨C, h1, _⟩ := h; exact heap_lt h1
theorem BytesAt.size {C : Array Value} (h : ∀ (j : Nat) c, P[j]? = some c → C[j]? = some (.int .u8 c.toNat)) : P.length ≤ C.size := by
  rcases Nat.eq_zero_or_pos P.length with h0 | h0
  · omega
  · have := h (P.length - 1) _ (List.getElem?_eq_getElem (by omega))
    have := (Array.getElem?_eq_some_iff.1 this).1
    omega
theorem BytesAt.cell (h : BytesAt w g P) {j : Nat} (hj : j < P.length) : w.cell? ⟨g, j, none⟩ = some (.int .u8 P[j].toNat) := by
  obtain ⟨C, h1, h2⟩ := h
  rw [Lib.cell_of_heap h1]
  exact h2 j _ (List.getElem?_eq_getElem hj)
theorem BytesAt.free (h : BytesAt w g P) {j : Nat} (hj : j < P.length) : w.frozen? ⟨g, j, none⟩ = false := by
  obtain ⟨C, h1, h2⟩ := h
  have := BytesAt.size h2
  unfold World.frozen?
  simp only [h1]
  simp
  omega
theorem BytesAt.set_ (h : BytesAt w g P) {j : Nat} (hj : j < P.length) (c : UInt8) : BytesAt (w.setCell ⟨g, j, none⟩ (.int .u8 c.toNat)) g (P.set j c) := by
  obtain ⟨C, h1, h2⟩ := h
  have hs := BytesAt.size h2
  refine ⟨C.setIfInBounds j (.int .u8 c.toNat), ?_, ?_⟩
  · simp [World.setCell, Array.getElem?_modify, h1]
  · intro i d hd
    by_cases hij : j = i
    · subst hij
      rw [List.getElem?_set_self hj] at hd
      cases hd
      rw [Array.getElem?_setIfInBounds_self_of_lt (by omega)]
    · rw [List.getElem?_set_ne hij] at hd
      rw [Array.getElem?_setIfInBounds_ne hij]
      exact h2 i d hd
end
theorem bytes_of (w : World) (P : Bytes) : ∃ (c : Nat) (W : World), (convert 9 70 (.string (S P))).run Tryz.prog w = .ok (.slice (some ⟨w.heap.size, 0, none⟩) P.length c) W ∧ BytesAt W w.heap.size P ∧ Below w.heap.size w W := by
  refine ⟨_, _, by have := run_bytes_of_string (P := Tryz.prog) w 9 70 5 (S P) Tryz.underlying9 Tryz.underlying70 Tryz.underlying5; rw [S_size] at this; exact this, ?_, ?_⟩
  · refine ⟨_, heap_alloc_new w.drew _, ?_⟩
    intro j c hc
    have hj := (List.getElem?_eq_some_iff.1 hc).1
    unfold bytesRow
    rw [Array.getElem?_append_left (by simp [S]; exact hj)]
    simp [S, hc]
  · exact below_drew ((Below.refl w.heap.size w.drew).alloc (show w.heap.size ≤ w.drew.heap.size from Nat.le_refl _) _)
theorem bytes_back {w : World} {g : Nat} {P : Bytes} (h : BytesAt w g P) (c : Nat) : (convert 70 9 (.slice (some ⟨g, 0, none⟩) P.length c)).run Tryz.prog w = .ok (.string (S P)) w := by
  refine run_bytes_string w ⟨g, 0, none⟩ P c ?_
  intro j x hj
  have hj' := (List.getElem?_eq_some_iff.1 hj).1
  rw [show (⟨g, 0, none⟩ : Addr).add j = ⟨g, j, none⟩ by unfold Addr.add; split <;> simp_all]
  rw [h.cell hj']
  rw [List.getElem?_eq_getElem hj'] at hj
  cases hj; rfl
theorem ret_con {a : Bytes} {b c : Int} {r : Bytes × Int × Int} (h : r = (a, b, c)) : Ending.returned (.tuple #[.string (S a), .int .i64 b, .int .i64 c]) = .returned (.tuple #[.string (S r.1), .int .i64 r.2.1, .int .i64 r.2.2]) := by rw [h]

set_option maxHeartbeats 4000000 in
set_option maxRecDepth 100000 in
theorem refContent_any (v : Bool) (l : Bytes) (a b : Nat) (w : World) (hab : a ≤ b) (hbl : b ≤ l.length) (hl : l.length ≤ 1099511627776) :
    Calls Tryz.prog 82 #[.string (S l), .int .i64 a, .int .i64 b, .bool v] w fun e w' => e = .returned (.tuple #[.string (S (contR b (cont v l a b)).1), .int .i64 (contR b (cont v l a b)).2.1, .int .i64 (contR b (cont v l a b)).2.2]) ∧ Below w.heap.size w w' := by
  obtain ⟨R, hR⟩ : ∃ R, cont v l a b = R := ⟨_, rfl⟩
  rw [hR]
  unfold cont at hR
  obtain ⟨x, hx⟩ : ∃ x, l.take b = x := ⟨_, rfl⟩
  rw [hx] at hR
  have hxl : x.length = b := by rw [← hx, List.length_take]; omega
  have hxi : ∀ i (h1 : i < x.length) (h2 : i < l.length), x[i] = l[i] := by intro i h1 h2; subst hx; rw [List.getElem_take]
  have hxd : ∀ i k, k ≤ b → (x.drop i).take (k - i) = (l.drop i).take (k - i) := by
    intro i k hk
    subst hx
    rw [List.drop_take, List.take_take, Nat.min_eq_left (by omega)]
  have HX := Lib.hid hx
  have HXL := Lib.hid hxl
  have HXI := Lib.hid hxi
  have HXD := Lib.hid hxd
  have HR := Lib.hid (ConAt.start hR)
  clear hx hxl hxi hxd hR
  go_enter Tryz.func82, Tryz.ntmps82
  go_wp2_with fail
  go_loopw [11, 12] (fun o11 i12 wr => ∃ (o : Bytes) (i : Nat), i ≤ b ∧ i12 = .int .i64 i ∧ o11 = .string (S o) ∧ o.length ≤ 4 * i ∧ ConAt v x o i R ∧ Below w.heap.size w wr) (fun _ i12 _ => b - (intOf i12).toNat)
  case atStart => exact ⟨[], a, hab, rfl, rfl, by simp, HR.out, Below.refl _ _⟩
  case round =>
    obtain ⟨o, i, hib, rfl, rfl, hol, hcon, hb⟩ := hrel
    have HC := Lib.hid hcon
    have HB := Lib.hid hb
    have hsz := hb.size
    clear hcon hb
    by_cases hlt : i < b
    · have hlt' : (i : Int) < b := by omega
      have hil : i < l.length := by omega
      have hix : i < x.length := by rw [HXL.out]; exact hlt
      have hbl' : (b : Int) ≤ l.length := by omega
      by_cases hc : l[i] = 38
      · have hxc : x[i] = 38 := by rw [HXI.out i hix hil]; exact hc
        have t1 : ((l[i].toNat : Int) == 38) = true := by rw [hc]; rfl
        have hra := refAt_in hix hxc
        clear hc
        cases ht : tailRef (x.drop (i + 1)) with
        | none =>
          rw [ht] at hra
          have hend := HC.out.bad hix hxc ht
          have HE := Lib.hid hend
          have hcall : ∀ w, Calls Tryz.prog 112 #[.string (S (l.take b)), .int .i64 i] w fun e w' => e = .returned (.tuple #[.int .i64 0, .int .i64 0, .int .i64 12]) ∧ w = w' := fun w => by
            rw [HX.out]
            have := refReference_any x i w (by rw [HXL.out]; omega)
            rw [hra] at this
            exact this
          have HCL := Lib.hid hcall
          clear hcall hend hra ht hxc hix
          go_wp2_with (go_at_call 112; refine (HCL.out _).mono ?_; rintro e w' ⟨rfl, rfl⟩)
          go_ret3
          exact ⟨ret_con (by rw [HE.out]; rfl), HB.out⟩
        | some p =>
          obtain ⟨q, m⟩ := p
          rw [ht] at hra
          have hm := tailRef_len ht
          have hq := tailRef_char ht
          rw [List.length_drop, HXL.out] at hm
          have hnx := HC.out.ref hix hxc ht
          have HN := Lib.hid hnx
          have hel : (enc q).length ≤ 4 := (enc_len q (isChar_ok hq)).2
          have hcall : ∀ w, Calls Tryz.prog 112 #[.string (S (l.take b)), .int .i64 i] w fun e w' => e = .returned (.tuple #[.int .i64 q, .int .i64 ((i : Int) + m + 2), .int .i64 0]) ∧ w = w' := fun w => by
            rw [HX.out]
            have := refReference_any x i w (by rw [HXL.out]; omega)
            rw [hra] at this
            exact this
          have henc : ∀ w, Calls Tryz.prog 84 #[.int .i64 q] w fun e w' => e = .returned (.string (S (enc q))) ∧ Below w.heap.size w w' := fun w => by
            have := refEncode_any q w
            rw [encI_nat] at this
            exact this
          have HCL := Lib.hid hcall
          have HEN := Lib.hid henc
          clear hcall henc hra ht hxc hix hq hnx
          generalize enc q = E at *
          go_wp2_with (first
            | (go_at_call 112; refine (HCL.out _).mono ?_; rintro e w' ⟨rfl, rfl⟩)
            | (go_at_call 84; refine (HEN.out _).mono ?_; rintro e w' ⟨rfl, hbe⟩))
          go_roundw
          case rel =>
            exact ⟨o ++ E, i + m + 2, by omega, by go_num, rfl, by rw [List.length_append]; omega, HN.out, HB.out.trans (hbe.mono hsz)⟩
          case measure => simp [intOf]; omega
      · have t1 : ((l[i].toNat : Int) == 38) = false := byte_ne (k := 38) (fun e => hc (UInt8.toNat_inj.1 e))
        have hxc : x[i] ≠ 38 := by rw [HXI.out i hix hil]; exact hc
        have hrun := HC.out.run (Nat.le_of_lt hix)
        have hK1 : i < ampEnd x i := by rw [ampEnd_yes hix hxc]; exact ampEnd_ge x (i + 1)
        have hK2 : ampEnd x i ≤ b := by have := ampEnd_le (Nat.le_of_lt hix); rw [HXL.out] at this; exact this
        rw [HXD.out i _ hK2] at hrun
        obtain ⟨K, hK⟩ : ∃ K, ampEnd x i = K := ⟨_, rfl⟩
        rw [hK] at hrun hK1 hK2
        have HK := Lib.hid hK
        have HRUN := Lib.hid hrun
        clear hc hxc hrun hK hix
        go_wp2_with fail
        go_loopw [16] (fun k16 wx => ∃ k : Nat, k ≤ b ∧ i ≤ k ∧ k16 = .int .i64 k ∧ ampEnd x k = K ∧ wr = wx) (fun k16 _ => b - (intOf k16).toNat)
        case atStart => exact ⟨i, by omega, Nat.le_refl _, rfl, HK.out, rfl⟩
        case round =>
          obtain ⟨k, hkb, hik, rfl, hk, rfl⟩ := hrel
          have HKK := Lib.hid hk
          clear hk
          by_cases hgo : k < b ∧ ∃ h : k < l.length, l[k] ≠ 38
          · obtain ⟨hg1, hg2, hg3⟩ := hgo
            have hg1' : (k : Int) < b := by omega
            have t3 : ((l[k].toNat : Int) == 38) = false := byte_ne (k := 38) (fun e => hg3 (UInt8.toNat_inj.1 e))
            have t3' : ((l[k].toNat : Int) != 38) = true := by rw [bne, t3]; rfl
            have hnx := HKK.out
            rw [ampEnd_yes (by rw [HXL.out]; exact hg1) (by rw [HXI.out k (by rw [HXL.out]; exact hg1) hg2]; exact hg3)] at hnx
            have HN := Lib.hid hnx
            clear hnx hg3
            go_wp2_with fail
            go_roundw
            case rel => exact ⟨k + 1, by omega, by omega, by go_num, HN.out, by first | rfl | trivial⟩
            case measure => simp [intOf]; omega
          · have hkK : k = K := by
              by_cases hkb2 : k < b
              · have h3 : l[k]'(by omega) = 38 := by
                  by_cases h4 : l[k]'(by omega) = 38
                  · exact h4
                  · exact absurd ⟨hkb2, by omega, h4⟩ hgo
                rw [← HKK.out, ampEnd_no (by rw [HXL.out]; exact hkb2) (by rw [HXI.out k (by rw [HXL.out]; exact hkb2) (by omega)]; exact h3)]
              · have h5 : k = x.length := by rw [HXL.out]; omega
                have h6 := HKK.out
                rw [h5, ampEnd_end] at h6
                rw [h5, h6]
            have hstop : (¬ (k : Int) < b) ∨ ((k : Int) < b ∧ ∃ h : k < l.length, ((l[k].toNat : Int) == 38) = true ∧ ((l[k].toNat : Int) != 38) = false) := by
              by_cases hkb2 : k < b
              · have h3 : l[k]'(by omega) = 38 := by
                  by_cases h4 : l[k]'(by omega) = 38
                  · exact h4
                  · exact absurd ⟨hkb2, by omega, h4⟩ hgo
                exact .inr ⟨by omega, by omega, by rw [h3]; rfl, by rw [h3]; rfl⟩
              · exact .inl (by omega)
            subst hkK
            have hlen := linesB_len ((l.drop i).take (k - i))
            rw [List.length_take, List.length_drop] at hlen
            have hlen2 : (linesB ((l.drop i).take (k - i))).length ≤ k - i := by omega
            have hcall := fun w => refLines_any ((l.drop i).take (k - i)) w (by rw [List.length_take, List.length_drop]; omega)
            have hk' : (k : Int) ≤ l.length := by omega
            have hik' : (i : Int) ≤ k := by omega
            obtain ⟨P, hP⟩ : ∃ P, linesB ((l.drop i).take (k - i)) = P := ⟨_, rfl⟩
            rw [hP] at hlen2 hcall HRUN
            have HCL := Lib.hid hcall
            clear hlen hcall hP hgo
            rcases hstop with hs1 | ⟨hs1, hs2, hs3, hs4⟩
            all_goals
              go_wp2_with fail
              refine (HCL.out _).mono ?_
              rintro e w1 ⟨rfl, hb1⟩
              have HB1 := Lib.hid (HB.out.trans (hb1.mono hsz))
              clear hb1
              obtain ⟨c, W, hcv, hby, hbW⟩ := bytes_of w1 P
              have HB2 := Lib.hid (HB1.out.trans (hbW.mono HB1.out.size))
              have HG := Lib.hid (HB1.out.size)
              have HBY := Lib.hid hby
              generalize w1.heap.size = g at *
              clear hbW hby
              go_wp2_with fail
              cases v
              · rw [blanks_false] at HRUN
                have hbk := bytes_back HBY.out c
                go_loop [18] (fun j18 => ∃ j : Nat, j ≤ P.length ∧ j18 = .int .i64 j) (fun j18 => P.length - (intOf j18).toNat)
                case atStart => exact ⟨0, Nat.zero_le _, rfl⟩
                case round =>
                  obtain ⟨j, hj, rfl⟩ := hrel
                  by_cases hjl : j < P.length
                  · have hjl' : (j : Int) < P.length := by omega
                    go_wp2_with fail
                    go_round
                    case rel => exact ⟨j + 1, by omega, by go_num⟩
                    case measure => simp [intOf]; omega
                  · have hjl' : ¬ (j : Int) < P.length := by omega
                    go_wp2_with fail
                    go_roundw
                    case rel => exact ⟨o ++ P, k, by omega, rfl, rfl, by rw [List.length_append]; omega, HRUN.out, HB2.out⟩
                    case measure => simp [intOf]; omega
              · go_loopw [18] (fun j18 wx => ∃ j : Nat, j ≤ P.length ∧ j18 = .int .i64 j ∧ BytesAt wx g (blTo P j) ∧ Below w.heap.size w wx) (fun j18 _ => P.length - (intOf j18).toNat)
                case atStart => exact ⟨0, Nat.zero_le _, rfl, by rw [blTo_zero]; exact HBY.out, HB2.out⟩
                case round =>
                  obtain ⟨j, hj, rfl, hby2, hb2⟩ := hrel
                  have HY := Lib.hid hby2
                  have HB3 := Lib.hid hb2
                  clear hb2
                  by_cases hjl : j < P.length
                  · have hjl' : (j : Int) < P.length := by omega
                    have hj2 : j < (blTo P j).length := by rw [blTo_len]; exact hjl
                    have hcell := hby2.cell hj2
                    have hfree := hby2.free hj2
                    rw [blTo_get hjl] at hcell
                    have hcall2 := fun w => refIsSpace_is P[j] w
                    cases hs : isSp P[j]
                    · rw [hs] at hcall2
                      have HC2 := Lib.hid hcall2
                      have HN := Lib.hid (blTo_no hjl hs)
                      clear hcall2 hs hby2
                      go_wp2_with (go_at_call 88; refine (HC2.out _).mono ?_; rintro e w' ⟨rfl, rfl⟩)
                      go_roundw
                      case rel => exact ⟨j + 1, by omega, by go_num, by rw [HN.out]; exact HY.out, HB3.out⟩
                      case measure => simp [intOf]; omega
                    · rw [hs] at hcall2
                      have HC2 := Lib.hid hcall2
                      have HN := Lib.hid (blTo_yes hjl hs)
                      clear hcall2 hs hby2
                      go_wp2_with (go_at_call 88; refine (HC2.out _).mono ?_; rintro e w' ⟨rfl, rfl⟩)
                      go_roundw
                      case rel => exact ⟨j + 1, by omega, by go_num, by rw [HN.out]; exact HY.out.set_ hj2 32, HB3.out.setCell (p := ⟨g, j, none⟩) HG.out _⟩
                      case measure => simp [intOf]; omega
                  · have hjl' : ¬ (j : Int) < P.length := by omega
                    obtain rfl : j = P.length := by omega
                    rw [blTo_all] at hby2
                    have hbl2 := blanks_len true P
                    have hbk := bytes_back hby2 c
                    rw [hbl2] at hbk
                    generalize blanks true P = D at *
                    have hbl3 : D.length ≤ k - i := by omega
                    have HBL := Lib.hid hbl2
                    clear hby2 hbl2
                    go_wp2_with fail
                    go_roundw
                    case rel => exact ⟨o ++ D, k, by omega, rfl, rfl, by rw [List.length_append]; omega, HRUN.out, HB3.out⟩
                    case measure => simp [intOf]; omega
    · obtain rfl : i = b := by omega
      have hlt' : ¬ (i : Int) < i := by omega
      have hcc := HC.out
      rw [← HXL.out] at hcc
      have hend := hcc.end_
      have HE := Lib.hid hend
      clear hcc hend
      go_wp2
      go_ret3
      exact ⟨ret_con (by rw [HE.out]; rfl), HB.out⟩
end Go.Proofs.YthbfahbjfioghaaGreatDoor
