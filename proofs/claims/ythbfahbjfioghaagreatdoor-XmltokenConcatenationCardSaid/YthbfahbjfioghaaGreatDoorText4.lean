/-
  Walks of chapter 1: the program's decoder, and both checks.
-/
import Derived.Test.YthbfahbjfioghaaGreatDoorText3
set_option linter.unusedVariables false
namespace Go.Proofs.YthbfahbjfioghaaGreatDoor
open Go.RowKit

theorem dec_one (l : Bytes) (h : (dec l).2 = 1) : (dec l).1 < 128 := by
  unfold dec at h ⊢
  match l with
  | [] => simp
  | a :: t =>
    dsimp only at h ⊢
    by_cases h1 : a.toNat < 128
    · simp [h1]
    · simp only [h1, if_false] at h ⊢
      match t with
      | [] => simp
      | b :: t =>
        dsimp only at h ⊢
        repeat' split at h
        all_goals first | omega | (simp at h)
theorem decodeGo_S (l : Bytes) (h : l ≠ []) : Lib.decodeGo (S l) = if (dec l).2 = 0 then (65533, 1) else dec l := by
  unfold Lib.decodeGo
  rw [if_neg (by rw [S_size]; intro e; exact h (List.eq_nil_of_length_eq_zero e)), utf8_dec l h]

theorem ret_dec {r r' : Nat} {n n' : Nat} (h : (r, n) = (r', n')) : Ending.returned (.tuple #[.int .i32 r, .int .i64 n]) = .returned (.tuple #[.int .i32 r', .int .i64 n']) := by
  cases h; rfl

set_option maxHeartbeats 1000000 in
theorem decode_out (l : Bytes) (n : Int) (w : World) (hl : l.length ≤ 4611686018427387904) (h : n < 0 ∨ (l.length : Int) ≤ n) :
    Calls Tryz.prog 68 #[.string (S l), .int .i64 n] w fun e w' => e = .returned (.tuple #[.int .i32 0, .int .i64 0]) ∧ w = w' := by
  rcases h with h | h
  · go_enter Tryz.func68, Tryz.ntmps68
    go_wp2
    go_ret2
    exact ⟨rfl, rfl⟩
  · have h0 : 0 ≤ n := by omega
    go_enter Tryz.func68, Tryz.ntmps68
    go_wp2
    go_ret2
    exact ⟨rfl, rfl⟩

set_option maxHeartbeats 1000000 in
theorem decode_in (l : Bytes) (n : Nat) (w : World) (hT : Tabs w) (hl : l.length ≤ 4611686018427387904) (h : n < l.length) :
    Calls Tryz.prog 68 #[.string (S l), .int .i64 n] w fun e w' => e = .returned (.tuple #[.int .i32 (dec (l.drop n)).1, .int .i64 (dec (l.drop n)).2]) ∧ Below w.heap.size w w' := by
  have hne : l.drop n ≠ [] := fun e => by have := congrArg List.length e; simp at this; omega
  have hc := Tryz.utf8_DecodeRuneInString (S (l.drop n)) w hT.utf
  rw [decodeGo_S _ hne] at hc
  have HT := Lib.hid hT
  clear hT
  by_cases h0 : (dec (l.drop n)).2 = 0
  · have hz := dec_zero h0
    rw [if_pos h0] at hc
    rw [hz]
    have HC := Lib.hid hc
    clear hc h0 hz hne
    go_enter Tryz.func68, Tryz.ntmps68
    go_wp2_with (go_at_call 98; refine HC.out.mono ?_; rintro e w' ⟨rfl, hb⟩)
    go_ret2
    exact ⟨rfl, hb⟩
  · rw [if_neg h0] at hc
    have h1 := dec_one (l.drop n)
    generalize (dec (l.drop n)).1 = r at *
    generalize (dec (l.drop n)).2 = k at *
    have t : ((r : Int) == 65533) = false ∨ (((r : Int) == 65533) = true ∧ ((k : Int) == 1) = false) := by
      by_cases hr : r = 65533
      · right; subst hr; refine ⟨rfl, ?_⟩; rw [beq_eq_false_iff_ne]; intro hk; have := h1 (by omega); omega
      · left; rw [beq_eq_false_iff_ne]; omega
    have HC := Lib.hid hc
    clear hc h0 hne h1
    rcases t with t | ⟨t, t2⟩
    · go_enter Tryz.func68, Tryz.ntmps68
      go_wp2_with (go_at_call 98; refine HC.out.mono ?_; rintro e w' ⟨rfl, hb⟩)
      go_ret2
      exact ⟨rfl, hb⟩
    · go_enter Tryz.func68, Tryz.ntmps68
      go_wp2_with (go_at_call 98; refine HC.out.mono ?_; rintro e w' ⟨rfl, hb⟩)
      go_ret2
      exact ⟨rfl, hb⟩

theorem decode_any (l : Bytes) (n : Int) (w : World) (hT : Tabs w) (hl : l.length ≤ 4611686018427387904) :
    Calls Tryz.prog 68 #[.string (S l), .int .i64 n] w fun e w' => e = .returned (.tuple #[.int .i32 (decAt l n).1, .int .i64 (decAt l n).2]) ∧ Below w.heap.size w w' := by
  unfold decAt
  by_cases h : 0 ≤ n ∧ n < l.length
  · rw [if_pos h]
    obtain ⟨k, rfl⟩ := Int.eq_ofNat_of_zero_le h.1
    exact decode_in l k w hT hl (by omega)
  · rw [if_neg h]
    refine (decode_out l n w hl (by omega)).mono ?_
    rintro e w' ⟨rfl, rfl⟩
    exact ⟨rfl, Below.refl _ _⟩
theorem refDecode_any (l : Bytes) (n : Int) (w : World) (hl : l.length ≤ 4611686018427387904) :
    Calls Tryz.prog 48 #[.string (S l), .int .i64 n] w fun e w' => e = .returned (.tuple #[.int .i64 (decAt l n).1, .int .i64 (decAt l n).2]) ∧ Below w.heap.size w w' := by
  unfold decAt
  by_cases h : 0 ≤ n ∧ n < l.length
  · rw [if_pos h]
    obtain ⟨k, rfl⟩ := Int.eq_ofNat_of_zero_le h.1
    exact refDecode_in l k w hl (by omega)
  · rw [if_neg h]
    refine (refDecode_out l n w hl (by omega)).mono ?_
    rintro e w' ⟨rfl, rfl⟩
    exact ⟨rfl, Below.refl _ _⟩

theorem drop_ne {l : Bytes} {n : Nat} (h : n < l.length) : l.drop n ≠ [] := fun e => by have := congrArg List.length e; simp at this; omega
theorem ret_chk {a b a' b' : Nat} (h : (a', b') = (a, b)) : Ending.returned (.tuple #[.int .i64 a, .int .i64 b]) = .returned (.tuple #[.int .i64 a', .int .i64 b']) := by cases h; rfl

set_option maxHeartbeats 1000000 in
theorem check_any (l : Bytes) (w : World) (hT : Tabs w) (hl : l.length ≤ 4611686018427387904) :
    Calls Tryz.prog 40 #[.string (S l)] w fun e w' => e = .returned (.tuple #[.int .i64 (check l).1, .int .i64 (check l).2]) ∧ Below w.heap.size w w' := by
  have HT := Lib.hid hT
  clear hT
  obtain ⟨c, hc⟩ : ∃ c, check l = c := ⟨_, rfl⟩
  rw [hc]
  have HC := Lib.hid hc
  clear hc
  go_enter Tryz.func40, Tryz.ntmps40
  go_wp2
  go_loopw [4] (fun a4 wr => ∃ n : Nat, n ≤ l.length ∧ a4 = .int .i64 n ∧ chkS 0 (l.drop n) n = c ∧ Below w.heap.size w wr) (fun a4 _ => l.length - (intOf a4).toNat)
  case atStart => exact ⟨0, by omega, rfl, HC.out, Below.refl _ _⟩
  case round =>
    obtain ⟨n, hn, rfl, hch, hb⟩ := hrel
    have HB := Lib.hid hb
    have hsz := hb.size
    clear hb
    by_cases hlt : n < l.length
    · have hle := dec_le (l.drop n)
      have hne := drop_ne hlt
      have hd := decode_in l n wr (HT.out.next HB.out) hl hlt
      have HD := Lib.hid hd
      clear hd
      by_cases h0 : (dec (l.drop n)).2 = 0
      · have hcc := chk_bad (at_ := n) hne h0
        rw [hch] at hcc
        have t0 : (((dec (l.drop n)).2 : Int) == 0) = true := by rw [h0]; rfl
        have HCC := Lib.hid hcc
        clear hcc hch h0 hne
        generalize dec (l.drop n) = d at *
        obtain ⟨r, k⟩ := d
        go_wp2_with (go_at_call 68; refine HD.out.mono ?_; rintro e w' ⟨rfl, hb⟩)
        go_ret2
        exact ⟨by rw [HCC.out]; rfl, HB.out.trans (hb.mono hsz)⟩
      · have t0 : (((dec (l.drop n)).2 : Int) == 0) = false := by rw [beq_eq_false_iff_ne]; omega
        cases hi : isChar (dec (l.drop n)).1
        · have hcc := chk_char (at_ := n) hne h0 hi
          rw [hch] at hcc
          have HCC := Lib.hid hcc
          have HI := Lib.hid hi
          clear hcc hch h0 hne hi
          generalize dec (l.drop n) = d at *
          obtain ⟨r, k⟩ := d
          go_wp2_with (first | (go_at_call 68; refine HD.out.mono ?_; rintro e w' ⟨rfl, hb⟩) | (go_at_call 69; refine (isChar_any _ _).mono ?_; rintro e w2 ⟨rfl, rfl⟩; rw [HI.out]))
          go_ret2
          exact ⟨by rw [HCC.out]; rfl, HB.out.trans (hb.mono hsz)⟩
        · have hcc := chk_next (at_ := n) hne h0 hi
          rw [hch] at hcc
          have HCC := Lib.hid hcc
          have HI := Lib.hid hi
          have hle1 : n + (dec (l.drop n)).2 ≤ l.length := by have := hle.1; simp at this; omega
          have hpos : 1 ≤ (dec (l.drop n)).2 := by omega
          clear hcc hch h0 hne hi
          generalize hg : dec (l.drop n) = d at *
          have HG := Lib.hid hg
          clear hg
          obtain ⟨r, k⟩ := d
          go_wp2_with (first | (go_at_call 68; refine HD.out.mono ?_; rintro e w' ⟨rfl, hb⟩) | (go_at_call 69; refine (isChar_any _ _).mono ?_; rintro e w2 ⟨rfl, rfl⟩; rw [HI.out]))
          go_roundw
          case rel => exact ⟨n + k, by omega, by go_num, by rw [HCC.out, List.drop_drop], HB.out.trans (hb.mono hsz)⟩
          case measure => simp [intOf]; omega
    · obtain rfl : n = l.length := by omega
      rw [List.drop_length] at hch
      have HCH := Lib.hid hch
      clear hch
      go_wp2
      go_ret2
      exact ⟨by rw [← HCH.out]; rfl, HB.out⟩
end Go.Proofs.YthbfahbjfioghaaGreatDoor
