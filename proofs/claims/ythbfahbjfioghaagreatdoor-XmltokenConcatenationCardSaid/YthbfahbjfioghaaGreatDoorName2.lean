/-
  Walks of chapters 1 and 6: the reference's check; qualified names (program and reference).
-/
import Derived.Test.YthbfahbjfioghaaGreatDoorName
set_option linter.unusedVariables false
namespace Go.Proofs.YthbfahbjfioghaaGreatDoor
open Go.RowKit

set_option maxHeartbeats 1000000 in
theorem refCheck_any (l : Bytes) (w : World) (hl : l.length ≤ 4611686018427387904) :
    Calls Tryz.prog 20 #[.string (S l)] w fun e w' => e = .returned (.tuple #[.int .i64 (check l).1, .int .i64 (check l).2]) ∧ Below w.heap.size w w' := by
  obtain ⟨c, hc⟩ : ∃ c, check l = c := ⟨_, rfl⟩
  rw [hc]
  have HC := Lib.hid hc
  clear hc
  go_enter Tryz.func20, Tryz.ntmps20
  go_wp2
  go_loopw [4] (fun a4 wr => ∃ n : Nat, n ≤ l.length ∧ a4 = .int .i64 n ∧ chkS 0 (l.drop n) n = c ∧ Below w.heap.size w wr) (fun a4 _ => l.length - (intOf a4).toNat)
  case atStart => exact ⟨0, by omega, rfl, HC.out, Below.refl _ _⟩
  case round =>
    obtain ⟨n, hn, rfl, hch, hb⟩ := hrel
    have HB := Lib.hid hb
    have hsz := hb.size
    clear hb
    by_cases hlt : n < l.length
    · have hle := dec_le (l.drop n)
      have hne := drop_ne hlt
      have hd := refDecode_in l n wr hl hlt
      have HD := Lib.hid hd
      clear hd
      by_cases h0 : (dec (l.drop n)).2 = 0
      · have hcc := chk_bad (at_ := n) hne h0
        rw [hch] at hcc
        have t0 : (((dec (l.drop n)).2 : Int) == 0) = true := by rw [h0]; rfl
        have HCC := Lib.hid hcc
        clear hcc hch h0 hne
        generalize dec (l.drop n) = d at *
        obtain ⟨r, k⟩ := d
        go_wp2_with (go_at_call 48; refine HD.out.mono ?_; rintro e w' ⟨rfl, hb⟩)
        go_ret2
        exact ⟨by rw [HCC.out]; rfl, HB.out.trans (hb.mono hsz)⟩
      · have t0 : (((dec (l.drop n)).2 : Int) == 0) = false := by rw [beq_eq_false_iff_ne]; omega
        cases hi : isChar (dec (l.drop n)).1
        · have hcc := chk_char (at_ := n) hne h0 hi
          rw [hch] at hcc
          have HCC := Lib.hid hcc
          have HI := Lib.hid hi
          clear hcc hch h0 hne hi
          generalize dec (l.drop n) = d at *
          obtain ⟨r, k⟩ := d
          go_wp2_with (first | (go_at_call 48; refine HD.out.mono ?_; rintro e w' ⟨rfl, hb⟩) | (go_at_call 49; refine (refIsChar_any _ _).mono ?_; rintro e w2 ⟨rfl, rfl⟩; rw [HI.out]))
          go_ret2
          exact ⟨by rw [HCC.out]; rfl, HB.out.trans (hb.mono hsz)⟩
        · have hcc := chk_next (at_ := n) hne h0 hi
          rw [hch] at hcc
          have HCC := Lib.hid hcc
          have HI := Lib.hid hi
          have hle1 : n + (dec (l.drop n)).2 ≤ l.length := by have := hle.1; simp at this; omega
          have hpos : 1 ≤ (dec (l.drop n)).2 := by omega
          clear hcc hch h0 hne hi
          generalize hg : dec (l.drop n) = d at *
          have HG := Lib.hid hg
          clear hg
          obtain ⟨r, k⟩ := d
          go_wp2_with (first | (go_at_call 48; refine HD.out.mono ?_; rintro e w' ⟨rfl, hb⟩) | (go_at_call 49; refine (refIsChar_any _ _).mono ?_; rintro e w2 ⟨rfl, rfl⟩; rw [HI.out]))
          go_roundw
          case rel => exact ⟨n + k, by omega, by go_num, by rw [HCC.out, List.drop_drop], HB.out.trans (hb.mono hsz)⟩
          case measure => simp [intOf]; omega
    · obtain rfl : n = l.length := by omega
      rw [List.drop_length] at hch
      have HCH := Lib.hid hch
      clear hch
      go_wp2
      go_ret2
      exact ⟨by rw [← HCH.out]; rfl, HB.out⟩

theorem take_beq {l : Bytes} {k : Nat} (h : k ≤ l.length) : (l.take k == l) = (k == l.length) := by
  rw [Bool.eq_iff_iff, beq_iff_eq, beq_iff_eq]
  constructor
  · intro e; have := congrArg List.length e; rw [List.length_take] at this; omega
  · intro e; rw [e, List.take_length]

set_option maxHeartbeats 1000000 in
theorem isQName_any (l : Bytes) (w : World) (hT : Tabs w) (hl : l.length ≤ 4611686018427387904) :
    Calls Tryz.prog 39 #[.string (S l)] w fun e w' => e = .returned (.bool (isQName l)) ∧ Below w.heap.size w w' := by
  cases l with
  | nil =>
    go_enter Tryz.func39, Tryz.ntmps39
    go_wp2_with fail
    go_ret
    exact ⟨rfl, (Below.refl _ _).alloc (Nat.le_refl _) _⟩
  | cons a t =>
    have hq : isQName (a :: t) = ((a :: t).take (nameLen (a :: t)) == a :: t) := by
      rw [take_beq (nameLen_le _)]; simp [isQName]
    rw [hq]
    have hT1 : Tabs (w.alloc (.cells #[.string (S (a :: t)), .int .i64 0, .int .i64 0, .int .i64 0] 62)) := hT.next ((Below.refl _ _).alloc (Nat.le_refl _) _)
    have hc := curName_any w.heap.size (a :: t) 0 0 0 _ hT1 (Cur.new w (a :: t) 0 0 0) (by omega) hl
    simp only [List.drop_zero] at hc
    have HC := Lib.hid hc
    clear hq hT hT1 hc
    generalize List.take (nameLen (a :: t)) (a :: t) = T at *
    go_enter Tryz.func39, Tryz.ntmps39
    go_wp2_with (go_at_call 67; refine HC.out.mono ?_; rintro e w' ⟨rfl, hcur, hu⟩)
    go_ret
    exact ⟨rfl, (Below.alloc (Below.refl _ _) (Nat.le_refl _) _).trans (hu.below (Nat.le_refl _) (by simp))⟩

set_option maxHeartbeats 2000000 in
theorem refIsQName_any (l : Bytes) (w : World) (hl : l.length ≤ 4611686018427387904) :
    Calls Tryz.prog 127 #[.string (S l)] w fun e w' => e = .returned (.bool (isQName l)) ∧ Below w.heap.size w w' := by
  obtain ⟨Z, hZ⟩ : ∃ Z, isQName l = Z := ⟨_, rfl⟩
  rw [hZ]
  have HZ := Lib.hid hZ
  clear hZ
  go_enter Tryz.func127, Tryz.ntmps127
  go_wp2
  go_loopw [3] (fun a3 wr => ∃ n : Nat, n ≤ l.length ∧ a3 = .int .i64 n ∧ n + nmS 0 (decide (n = 0)) (l.drop n) = nameLen l ∧ Below w.heap.size w wr) (fun a3 _ => l.length - (intOf a3).toNat)
  case atStart => exact ⟨0, by omega, rfl, by simp [nameLen], Below.refl _ _⟩
  case round =>
    obtain ⟨n, hn, rfl, hlen, hb⟩ := hrel
    have HB := Lib.hid hb
    have HL := Lib.hid hlen
    have hsz := hb.size
    clear hb hlen
    by_cases hlt : n < l.length
    · have hle := dec_le (l.drop n)
      have hne := drop_ne hlt
      have hd := refDecode_in l n wr hl hlt
      have HD := Lib.hid hd
      clear hd
      generalize hg : dec (l.drop n) = d at *
      have HG := Lib.hid hg
      clear hg
      obtain ⟨r, k⟩ := d
      dsimp only at hle
      have hle1 : n + k ≤ l.length := by have := hle.1; simp at this; omega
      clear hle hne
      obtain ⟨b1, hb1'⟩ : ∃ x, nameChar r = x := ⟨_, rfl⟩
      obtain ⟨b2, hb2'⟩ : ∃ x, nameStart r = x := ⟨_, rfl⟩
      have hcN : ∀ w, Calls Tryz.prog 137 #[.int .i64 r] w fun e w' => e = .returned (.bool b1) ∧ w = w' := fun w => hb1' ▸ refNameChar_any r w
      have hcS : ∀ w, Calls Tryz.prog 138 #[.int .i64 r] w fun e w' => e = .returned (.bool b2) ∧ w = w' := fun w => hb2' ▸ refNameStart_any r w
      have hq : qch (decide (n = 0)) r = ((decide ((r : Int) = 58) || b1) && (!decide (n = 0) || decide ((r : Int) = 58) || b2)) := by rw [qch_ref, hb1', hb2']
      have HQ := Lib.hid hq
      have HCN := Lib.hid hcN
      have HCS := Lib.hid hcS
      clear hb1' hb2' hcN hcS hq
      have hstop : (k = 0 ∨ qch (decide (n = 0)) r = false) → Z = false := by
        intro h
        have h0 : nmS 0 (decide (n = 0)) (l.drop n) = 0 := nm_stop (by rw [HG.out]; exact h)
        have := HL.out
        rw [h0] at this
        rw [← HZ.out, isQName]
        simp; intro _; omega
      have hgo : k ≠ 0 → qch (decide (n = 0)) r = true → n + k + nmS 0 (decide (n + k = 0)) (l.drop (n + k)) = nameLen l := by
        intro hk hc
        have hnx := nm_next (l := l.drop n) (f := decide (n = 0)) (by rw [HG.out]; exact hk) (by rw [HG.out]; exact hc)
        rw [HG.out] at hnx
        dsimp only at hnx
        rw [← HL.out, hnx, List.drop_drop, show decide (n + k = 0) = false from by simp; omega]
        omega
      have HST := Lib.hid hstop
      have HGO := Lib.hid hgo
      clear hstop hgo
      by_cases hk : k = 0
      · have hz := HST.out (.inl hk)
        have t0 : ((k : Int) == 0) = true := by rw [hk]; rfl
        have HZZ := Lib.hid hz
        clear hz hk
        go_wp2_with (go_at_call 48; refine HD.out.mono ?_; rintro e w' ⟨rfl, hb⟩)
        go_ret
        exact ⟨ret_bool HZZ.out.symm, HB.out.trans (hb.mono hsz)⟩
      · have t0 : ((k : Int) == 0) = false := by rw [beq_eq_false_iff_ne]; omega
        by_cases hr : (r : Int) = 58
        · have hfin := HGO.out hk (by rw [HQ.out]; simp [hr])
          have t1 : ((r : Int) != 58) = false := by rw [hr]; rfl
          have HF := Lib.hid hfin
          have tn : ((n : Int) == 0) = true ∨ ((n : Int) == 0) = false := by cases ((n : Int) == 0) <;> simp
          clear hfin hr
          rcases tn with tn | tn
          all_goals
            go_wp2_with (go_at_call 48; refine HD.out.mono ?_; rintro e w' ⟨rfl, hb⟩)
            go_roundw
            case rel => exact ⟨n + k, by omega, by go_num, HF.out, HB.out.trans (hb.mono hsz)⟩
            case measure => simp [intOf]; omega
        · have t1 : ((r : Int) != 58) = true := by rw [bne_iff_ne]; exact hr
          cases b1
          · have hz := HST.out (.inr (by rw [HQ.out]; simp [hr]))
            have HZZ := Lib.hid hz
            clear hz hr
            go_wp2_with (first | (go_at_call 48; refine HD.out.mono ?_; rintro e w' ⟨rfl, hb⟩) | (go_at_call 137; refine (HCN.out _).mono ?_; rintro e w2 ⟨rfl, rfl⟩))
            go_ret
            exact ⟨ret_bool HZZ.out.symm, HB.out.trans (hb.mono hsz)⟩
          · by_cases hn0 : n = 0
            · have tn : ((n : Int) == 0) = true := by rw [hn0]; rfl
              have hq2 : qch (decide (n = 0)) r = b2 := by rw [HQ.out, hn0]; simp [hr]
              have HQ2 := Lib.hid hq2
              clear hn0 hq2
              cases b2
              · have hz := HST.out (.inr HQ2.out)
                have HZZ := Lib.hid hz
                clear hz hr
                go_wp2_with (first | (go_at_call 48; refine HD.out.mono ?_; rintro e w' ⟨rfl, hb⟩) | (go_at_call 137; refine (HCN.out _).mono ?_; rintro e w2 ⟨rfl, rfl⟩) | (go_at_call 138; refine (HCS.out _).mono ?_; rintro e w2 ⟨rfl, rfl⟩))
                go_ret
                exact ⟨ret_bool HZZ.out.symm, HB.out.trans (hb.mono hsz)⟩
              · have hfin := HGO.out hk HQ2.out
                have HF := Lib.hid hfin
                clear hfin hr
                go_wp2_with (first | (go_at_call 48; refine HD.out.mono ?_; rintro e w' ⟨rfl, hb⟩) | (go_at_call 137; refine (HCN.out _).mono ?_; rintro e w2 ⟨rfl, rfl⟩) | (go_at_call 138; refine (HCS.out _).mono ?_; rintro e w2 ⟨rfl, rfl⟩))
                go_roundw
                case rel => exact ⟨n + k, by omega, by go_num, HF.out, HB.out.trans (hb.mono hsz)⟩
                case measure => simp [intOf]; omega
            · have tn : ((n : Int) == 0) = false := by rw [beq_eq_false_iff_ne]; omega
              have hfin := HGO.out hk (by rw [HQ.out]; simp [hn0])
              have HF := Lib.hid hfin
              clear hfin hr hn0
              go_wp2_with (first | (go_at_call 48; refine HD.out.mono ?_; rintro e w' ⟨rfl, hb⟩) | (go_at_call 137; refine (HCN.out _).mono ?_; rintro e w2 ⟨rfl, rfl⟩))
              go_roundw
              case rel => exact ⟨n + k, by omega, by go_num, HF.out, HB.out.trans (hb.mono hsz)⟩
              case measure => simp [intOf]; omega
    · obtain rfl : n = l.length := by omega
      have hfin : Z = decide (0 < l.length) := by
        have := HL.out
        rw [List.drop_length, nm_nil] at this
        rw [← HZ.out, isQName, ← this]
        cases l <;> simp
      have HF := Lib.hid hfin
      clear hfin
      go_wp2
      go_ret
      exact ⟨ret_bool (by rw [HF.out]), HB.out⟩
end Go.Proofs.YthbfahbjfioghaaGreatDoor
