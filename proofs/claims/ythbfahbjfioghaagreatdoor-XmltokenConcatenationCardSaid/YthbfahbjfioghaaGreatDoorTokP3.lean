/-
  Walks of chapter 6: the program's white space and line ends.
-/
import Derived.Test.YthbfahbjfioghaaGreatDoorTokP1
import Derived.Lib.CountLaws
import Derived.Test.YthbfahbjfioghaaGreatDoorShelfR
set_option linter.unusedVariables false
namespace Go.Proofs.YthbfahbjfioghaaGreatDoor
open Go.RowKit

theorem MaxLen.below {m : Int} {w w' : World} (h : MaxLen m w) (hb : Below w.heap.size w w') : MaxLen m w' := by
  unfold MaxLen at *
  rw [← h]
  exact World.cell?_of_block (w := w) (hb.block _ (lt_of_cell h))
theorem MaxLen.upd {m : Int} {w w' : World} {b : Nat} {l : Bytes} {n ea er : Int} (h : MaxLen m w) (hc : Cur w b l n ea er) (hu : Upd b w w') : MaxLen m w' := by
  have hne := hc.ne_tab h rfl (by simp)
  unfold MaxLen at *
  rw [← h]
  exact World.cell?_of_block (w := w) (hu.block _ (lt_of_cell h) hne)

theorem isSpace6_any (c : UInt8) (w : World) : Calls Tryz.prog 102 #[.int .u8 c.toNat] w fun e w' => e = .returned (.bool (isSp c)) ∧ w = w' := by
  have hc := u8_lt c
  go_enter Tryz.func102, Tryz.ntmps102
  go_wp2
  all_goals go_ret
  all_goals exact ⟨ret_bool (by unfold isSp; rw [Bool.eq_iff_iff]; simp <;> omega), rfl⟩
theorem quiet_drewn {P : Program} {f : FuncId} {args : Array Value} {w : World} {n : Nat} {v : Value} (h : ∀ W, Calls P f args W fun e w' => e = .returned v ∧ W = w') :
    Calls P f args (w.drewN n) fun e w'' => e = .returned v ∧ ∃ m, w'' = w.drewN m := (h _).mono fun _ _ ⟨he, hm⟩ => ⟨he, n, hm.symm⟩

set_option maxHeartbeats 2000000 in
theorem curSpaces_any (b : Nat) (l : Bytes) (n : Nat) (ea er : Int) (w : World) (hC : Cur w b l n ea er) (hn : n ≤ l.length) (hl : l.length ≤ 4611686018427387904) :
    Calls Tryz.prog 74 #[.pointer (some ⟨b, 0, none⟩)] w fun e w' =>
      e = .returned (.int .i64 ((spEnd l n : Nat) - (n : Int))) ∧ Cur w' b l (spEnd l n : Nat) ea er ∧ Upd b w w' := by
  obtain ⟨R, hR⟩ : ∃ R, spEnd l n = R := ⟨_, rfl⟩
  have hge := spEnd_ge l n
  rw [hR] at hge ⊢
  have HR := Lib.hid hR
  have HC := Lib.hid hC
  have c1 := hC.c1
  clear hR hC
  go_enter Tryz.func74, Tryz.ntmps74
  go_wp2
  clear c1
  go_loopg [8] (l.length - n) (fun k _ wr => ∃ m : Nat, n ≤ m ∧ m ≤ l.length ∧ k = l.length - m ∧ Cur wr b l m ea er ∧ Upd b w wr ∧ spEnd l m = R)
  case atStart => exact ⟨n, Nat.le_refl _, hn, rfl, HC.out, Upd.refl _ _, HR.out⟩
  case round =>
    obtain ⟨m, hnm, hml, hk, hcur, hupd, hsp⟩ := hrel
    have HK := Lib.hid hk
    have HCu := Lib.hid hcur
    have HU := Lib.hid hupd
    have c0 := hcur.c0
    have c1 := hcur.c1
    have f1 := hcur.free 1
    clear hk hcur hupd
    by_cases hlt : m < l.length
    · have hlt' : (m : Int) < l.length := by omega
      have hcall := fun w => isSpace6_any l[m] w
      cases hb : isSp l[m]
      · have hs := spEnd_no hlt hb
        rw [hsp] at hs
        subst hs
        rw [hb] at hcall
        have HCL := Lib.hid hcall
        clear hcall hb hsp
        go_wp2_with fail
        go_quiet ((go_at_call 102; exact quiet_drewn HCL.out))
        go_wp2_with fail
        go_ret
        exact ⟨rfl, HCu.out.drewN _, HU.out.trans (drewN_upd _ _ _)⟩
      · have hs := spEnd_yes hlt hb
        rw [hsp] at hs
        rw [hb] at hcall
        have HS := Lib.hid hs.symm
        have HCL := Lib.hid hcall
        clear hcall hb hsp hs
        go_wp2_with fail
        go_quiet ((go_at_call 102; exact quiet_drewn HCL.out))
        go_wp2_with fail
        go_roundg (l.length - (m + 1))
        case measure => rw [HK.out]; omega
        case rel => exact ⟨m + 1, by omega, by omega, rfl, by rw [Int.natCast_add]; exact (HCu.out.drewN _).move _, (HU.out.trans (drewN_upd _ _ _)).trans (Upd.set_ _ _ _ _), HS.out⟩
    · obtain rfl : m = l.length := by omega
      rw [spEnd_end] at hsp
      subst hsp
      go_wp2_with fail
      go_quiet (fail)
      go_wp2_with fail
      go_ret
      exact ⟨rfl, HCu.out.drewN _, HU.out.trans (drewN_upd _ _ _)⟩

theorem crs_len (x : Bytes) : (crs x).length = x.length := by
  induction x with
  | nil => unfold crs; rw [repl_nil (by decide)]
  | cons c x ih => rw [crs_cons, List.length_cons, ih, List.length_cons]
set_option maxHeartbeats 1000000 in
theorem lines_any (l : Bytes) (m : Int) (w : World) (hM : MaxLen m w) (hl : l.length < 4294967281) :
    Calls Tryz.prog 71 #[.string (S l)] w fun e w' => e = .returned (.string (S (linesB l))) ∧ Below w.heap.size w w' := by
  have hlen := crlf_len _ l (Nat.le_refl _)
  have h1 : ∀ w, MaxLen m w → Calls Tryz.prog 101 #[.string (S l), .string ⟨#[13, 10]⟩, .string ⟨#[10]⟩] w fun e w' => e = .returned (.string (S (crlf l))) ∧ Below w.heap.size w w' := fun w hw => by
    have := Tryz.strings_ReplaceAll (S l) (S [13, 10]) (S [10]) m w (by rw [S_size]; omega) hw (by decide) (by
      have := Lib.count_le l [13, 10]
      unfold Lib.countB
      rw [S_data, S_data, S_size, S_size]; simp; omega)
    rw [S_data, S_data, S_data] at this
    exact this
  have h2 : ∀ w, MaxLen m w → Calls Tryz.prog 101 #[.string (S (crlf l)), .string ⟨#[13]⟩, .string ⟨#[10]⟩] w fun e w' => e = .returned (.string (S (linesB l))) ∧ Below w.heap.size w w' := fun w hw => by
    have := Tryz.strings_ReplaceAll (S (crlf l)) (S [13]) (S [10]) m w (by rw [S_size]; omega) hw (by decide) (by
      have := Lib.count_le (crlf l) [13]
      unfold Lib.countB
      rw [S_data, S_data, S_size, S_size]; simp; omega)
    rw [S_data, S_data, S_data] at this
    have e : Lib.replaceAll (crlf l) [13] [10] = linesB l := lines_repl _ l (Nat.le_refl _)
    rw [e] at this
    exact this
  have H1 := Lib.hid h1
  have H2 := Lib.hid h2
  clear h1 h2 hlen
  generalize crlf l = C at *
  generalize linesB l = D at *
  go_enter Tryz.func71, Tryz.ntmps71
  go_wp2_with fail
  refine (H1.out _ hM).mono ?_
  rintro e w1 ⟨rfl, hb1⟩
  have hM1 := hM.below hb1
  have HB1 := Lib.hid hb1
  clear hb1
  go_wp2_with fail
  refine (H2.out _ hM1).mono ?_
  rintro e w2 ⟨rfl, hb2⟩
  have HB2 := Lib.hid hb2
  clear hb2
  go_wp2_with fail
  go_ret
  exact ⟨rfl, HB1.out.trans (HB2.out.mono HB1.out.size)⟩
end Go.Proofs.YthbfahbjfioghaaGreatDoor
