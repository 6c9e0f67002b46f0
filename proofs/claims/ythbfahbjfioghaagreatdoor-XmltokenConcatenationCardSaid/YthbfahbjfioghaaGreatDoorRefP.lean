/-
  Walks of chapter 5: the program's Reference.
-/
import Derived.Test.YthbfahbjfioghaaGreatDoorNumP
set_option linter.unusedVariables false
namespace Go.Proofs.YthbfahbjfioghaaGreatDoor
open Go.RowKit

theorem indexByte_upto (c : UInt8) : ∀ l : Bytes, Lib.indexByte l c = match upto c l with | some x => (x.length : Int) | none => -1
  | [] => rfl
  | a :: l => by
    have ih := indexByte_upto c l
    unfold Lib.indexByte upto
    by_cases h : a = c
    · rw [if_pos (by simpa using h), if_pos h]; rfl
    · rw [if_neg (by simpa using h), if_neg h]
      cases hu : upto c l with
      | none => rw [hu] at ih; rw [ih]; rfl
      | some x =>
        rw [hu] at ih
        rw [ih, if_neg (by simp)]
        simp
/-- What strings.Cut gives at ";": what lies ahead, what lies behind, found. -/
def cutAt (l : Bytes) : Bytes × Bytes × Bool := match upto 59 l with | some x => (x, l.drop (x.length + 1), true) | none => (l, [], false)

theorem ret_cut {a b : Bytes} {c : Bool} {r : Bytes × Bytes × Bool} (h : r = (a, b, c)) : Ending.returned (.tuple #[.string (S a), .string (S b), .bool c]) = .returned (.tuple #[.string (S r.1), .string (S r.2.1), .bool r.2.2]) := by rw [h]
theorem below_drewN5 {B : Nat} {w w' : World} (h : Below B w w') (n : Nat) : Below B w (w'.drewN n) := ⟨h.os, h.tape, h.output, h.size, h.block⟩

set_option maxHeartbeats 1000000 in
theorem slCut_any (l : Bytes) (w : World) (hl : l.length ≤ 4611686018427387904) :
    Calls Tryz.prog 120 #[.string (S l), .string ⟨#[59]⟩] w fun e w' => e = .returned (.tuple #[.string (S (cutAt l).1), .string (S (cutAt l).2.1), .bool (cutAt l).2.2]) ∧ Below w.heap.size w w' := by
  obtain ⟨r, hr⟩ : ∃ r, cutAt l = r := ⟨_, rfl⟩
  rw [hr]
  have HR := Lib.hid hr
  clear hr
  have hix := indexByte_upto 59 l
  cases hu : upto 59 l with
  | none =>
    rw [hu] at hix
    have h1 := HR.out
    unfold cutAt at h1
    rw [hu] at h1
    have H1 := Lib.hid h1
    have hcall : ∀ w, Calls Tryz.prog 85 #[.string (S l), .string ⟨#[59]⟩] w fun e w' => e = .returned (.int .i64 (-1)) ∧ w' = w := fun w => by
      have := Tryz.stringslite_Index_one (S l) 59 w
      rw [S_data, hix] at this
      exact this
    have HC := Lib.hid hcall
    clear hix hu h1 hcall
    go_enter Tryz.func120, Tryz.ntmps120
    go_wp2_with (go_at_call 85; refine (HC.out _).mono ?_; rintro e w' ⟨rfl, rfl⟩)
    go_ret3
    exact ⟨ret_cut (b := []) H1.out.symm, Below.refl _ _⟩
  | some x =>
    rw [hu] at hix
    have h1 := HR.out
    unfold cutAt at h1
    rw [hu] at h1
    have H1 := Lib.hid h1
    obtain ⟨t, ht, _⟩ := upto_some hu
    have hxl : (x.length : Int) + 1 ≤ l.length := by rw [ht]; simp; omega
    have htk : l.take x.length = x := by rw [ht]; simp
    have HT := Lib.hid htk
    have c1 : (0 : Int) ≤ x.length := by omega
    have c2 : (x.length : Int) ≤ l.length := by omega
    have c3 : (0 : Int) ≤ x.length + 1 := by omega
    have hcall : ∀ w, Calls Tryz.prog 85 #[.string (S l), .string ⟨#[59]⟩] w fun e w' => e = .returned (.int .i64 x.length) ∧ w' = w := fun w => by
      have := Tryz.stringslite_Index_one (S l) 59 w
      rw [S_data, hix] at this
      exact this
    have HC := Lib.hid hcall
    clear hix hu h1 hcall ht htk
    go_enter Tryz.func120, Tryz.ntmps120
    go_wp2_with (go_at_call 85; refine (HC.out _).mono ?_; rintro e w' ⟨rfl, rfl⟩)
    go_region
    go_wp2
    go_ret3
    exact ⟨ret_cut (by rw [HT.out]; exact H1.out.symm), below_drewN5 (Below.refl _ _) _⟩

set_option maxHeartbeats 1000000 in
theorem cut_any (l : Bytes) (w : World) (hl : l.length ≤ 4611686018427387904) :
    Calls Tryz.prog 100 #[.string (S l), .string ⟨#[59]⟩] w fun e w' => e = .returned (.tuple #[.string (S (cutAt l).1), .string (S (cutAt l).2.1), .bool (cutAt l).2.2]) ∧ Below w.heap.size w w' := by
  go_enter Tryz.func100, Tryz.ntmps100
  go_wp2_with (go_at_call 120; refine (slCut_any l _ hl).mono ?_; rintro e w' ⟨rfl, hb⟩)
  go_ret3
  exact ⟨rfl, hb⟩

def hp (c : UInt8) : Bytes → Bool | [] => false | a :: _ => c == a
def tp (c : UInt8) (x : Bytes) : Bytes := if hp c x = true then x.tail else x
theorem hasPrefix_one (c : UInt8) (x : Bytes) : Lib.hasPrefix x [c] = hp c x := by
  cases x <;> simp [Lib.hasPrefix, List.isPrefixOf, hp]
theorem trimPrefix_one (c : UInt8) (x : Bytes) : Lib.trimPrefix x [c] = tp c x := by
  unfold Lib.trimPrefix tp
  rw [hasPrefix_one]
  simp
theorem tp_len (c : UInt8) (x : Bytes) : (tp c x).length ≤ x.length := by
  unfold tp; split <;> simp
theorem cutPre_any (c : UInt8) (x : Bytes) (w : World) :
    Calls Tryz.prog 122 #[.string (S x), .string ⟨#[c]⟩] w fun e w' => e = .returned (.tuple #[.string (S (tp c x)), .bool (hp c x)]) ∧ w = w' := by
  have h := Tryz.strings_CutPrefix (S x) ⟨#[c]⟩ w
  rw [S_data, show (⟨#[c]⟩ : ByteArray).data.toList = [c] from rfl, trimPrefix_one, hasPrefix_one] at h
  refine h.mono ?_
  rintro e w' ⟨rfl, rfl⟩
  exact ⟨rfl, rfl⟩

/-- What the program takes for a name: its rune, and whether it is one. -/
def pN (x : Bytes) : Int × Bool :=
  if (x == [108, 116]) = true then (60, true) else if (x == [103, 116]) = true then (62, true) else if (x == [97, 109, 112]) = true then (38, true)
  else if (x == [97, 112, 111, 115]) = true then (39, true) else if (x == [113, 117, 111, 116]) = true then (34, true)
  else if hp 120 (tp 35 x) = true then ((numP 16 (tp 120 (tp 35 x))).1, (numP 16 (tp 120 (tp 35 x))).2 && hp 35 x) else ((numP 10 (tp 35 x)).1, (numP 10 (tp 35 x)).2 && hp 35 x)
theorem pN_ref (x : Bytes) : (if (pN x).2 = true then some (pN x).1.toNat else none) = nameRef x := by
  unfold pN
  simp only [beq_iff_eq]
  by_cases h1 : x = [108, 116]
  · subst h1; decide
  by_cases h2 : x = [103, 116]
  · subst h2; decide
  by_cases h3 : x = [97, 109, 112]
  · subst h3; decide
  by_cases h4 : x = [97, 112, 111, 115]
  · subst h4; decide
  by_cases h5 : x = [113, 117, 111, 116]
  · subst h5; decide
  simp only [h1, h2, h3, h4, h5, if_false]
  match x with
  | [] => decide
  | c :: y =>
    by_cases hc : c = 35
    · subst hc
      have e1 : hp 35 (35 :: y) = true := rfl
      have e2 : tp 35 (35 :: y) = y := by unfold tp; rw [if_pos e1]; rfl
      rw [nameRef_hash, e1, e2]
      cases y with
      | nil => decide
      | cons d h =>
        by_cases hd : d = 120
        · subst hd
          have e3 : hp 120 (120 :: h) = true := rfl
          have e4 : tp 120 (120 :: h) = h := by unfold tp; rw [if_pos e3]; rfl
          rw [e3, e4, if_pos rfl]
          simp only [Bool.and_true]
          rw [numP_ref]
        · have e3 : hp 120 (d :: h) = false := by simp [hp]; exact fun e => hd e.symm
          simp only [e3, Bool.false_eq_true, if_false, Bool.and_true]
          rw [numP_ref]
          split
          · rename_i h'; cases h'; exact absurd rfl hd
          · rfl
    · have e1 : hp 35 (c :: y) = false := by simp [hp]; exact fun e => hc e.symm
      have e2 : nameRef (c :: y) = none := by
        rw [nameRef_named (fun z h => hc (by cases h; rfl))]
        unfold namedN
        simp only [beq_iff_eq]
        rw [if_neg h1, if_neg h2, if_neg h3, if_neg h4, if_neg h5, isChar_neg]; rfl
      rw [e1, e2]
      simp only [Bool.and_false]
      split <;> rfl
theorem refAt_cut {l : Bytes} {n : Nat} (h : n < l.length) (hc : l[n] = 38) : refAt l n =
    if ((pN (cutAt (l.drop (n + 1))).1).2 && (cutAt (l.drop (n + 1))).2.2) = true then ((pN (cutAt (l.drop (n + 1))).1).1, (n : Int) + (cutAt (l.drop (n + 1))).1.length + 2, 0) else (0, 0, 12) := by
  rw [refAt_in h hc]
  unfold tailRef cutAt
  cases hu : upto 59 (l.drop (n + 1)) with
  | none => simp
  | some x =>
    simp only [Option.bind_some, Bool.and_true]
    rw [← pN_ref]
    split
    · rename_i hr
      split at hr
      · rename_i hch
        rw [if_pos hch]
        simp only [Option.map_some, Option.some.injEq, Prod.mk.injEq] at hr
        rw [← hr.1, ← hr.2]
        have : 0 ≤ (pN x).1 := by
          unfold pN numP
          repeat' split
          all_goals first | decide | (simp only; omega) | skip
        rw [Int.toNat_of_nonneg this]
      · cases hr
    · rename_i hr
      split at hr
      · cases hr
      · rename_i hch; rw [if_neg hch]
theorem number10 (l : Bytes) (w : World) (hl : l.length ≤ 4611686018427387904) :
    Calls Tryz.prog 123 #[.string (S l), .int .i32 10] w fun e w' => e = .returned (.tuple #[.int .i32 (numP 10 l).1, .bool (numP 10 l).2]) ∧ Below w.heap.size w w' := number_any 10 (.inl rfl) l w hl
theorem number16 (l : Bytes) (w : World) (hl : l.length ≤ 4611686018427387904) :
    Calls Tryz.prog 123 #[.string (S l), .int .i32 16] w fun e w' => e = .returned (.tuple #[.int .i32 (numP 16 l).1, .bool (numP 16 l).2]) ∧ Below w.heap.size w w' := number_any 16 (.inr rfl) l w hl

set_option maxHeartbeats 1000000 in
theorem reference_out (l : Bytes) (k : Int) (w : World) (hl : l.length ≤ 4611686018427387904) (h : k < 0 ∨ (l.length : Int) ≤ k) :
    Calls Tryz.prog 104 #[.string (S l), .int .i64 k] w fun e w' => e = .returned (.tuple #[.int .i32 (refAt l k).1, .int .i64 (refAt l k).2.1, .int .i64 (refAt l k).2.2]) ∧ Below w.heap.size w w' := by
  rw [refAt_out (by omega)]
  rcases h with h | h
  · go_enter Tryz.func104, Tryz.ntmps104
    go_wp2
    go_ret3
    exact ⟨rfl, Below.refl _ _⟩
  · have h0 : 0 ≤ k := by omega
    go_enter Tryz.func104, Tryz.ntmps104
    go_wp2
    go_ret3
    exact ⟨rfl, Below.refl _ _⟩
set_option maxHeartbeats 1000000 in
theorem reference_byte (l : Bytes) (n : Nat) (w : World) (hl : l.length ≤ 4611686018427387904) (h : n < l.length) (hc : l[n] ≠ 38) :
    Calls Tryz.prog 104 #[.string (S l), .int .i64 n] w fun e w' => e = .returned (.tuple #[.int .i32 (refAt l n).1, .int .i64 (refAt l n).2.1, .int .i64 (refAt l n).2.2]) ∧ Below w.heap.size w w' := by
  rw [refAt_byte h hc]
  have t1 : (((l[n]).toNat : Int) == 38) = false := by
    rw [beq_eq_false_iff_ne]; exact fun e => hc (UInt8.toNat_inj.1 (by simpa using Int.ofNat_inj.1 e))
  have t1' : (((l[n]).toNat : Int) != 38) = true := by rw [bne, t1]; rfl
  have T := Lib.hid hc
  clear hc
  go_enter Tryz.func104, Tryz.ntmps104
  go_wp2
  go_ret3
  exact ⟨rfl, Below.refl _ _⟩
set_option maxHeartbeats 2000000 in
theorem reference_amp (l : Bytes) (n : Nat) (w : World) (hl : l.length ≤ 4611686018427387904) (h : n < l.length) (hc : l[n] = 38) :
    Calls Tryz.prog 104 #[.string (S l), .int .i64 n] w fun e w' => e = .returned (.tuple #[.int .i32 (refAt l n).1, .int .i64 (refAt l n).2.1, .int .i64 (refAt l n).2.2]) ∧ Below w.heap.size w w' := by
  have hra := refAt_cut h hc
  have t1 : (((l[n]).toNat : Int) == 38) = true := by rw [hc]; rfl
  have t1' : (((l[n]).toNat : Int) != 38) = false := by rw [bne, t1]; rfl
  clear hc
  obtain ⟨r, hr⟩ : ∃ r, refAt l n = r := ⟨_, rfl⟩
  rw [hr] at hra ⊢
  clear hr
  have hdl : (l.drop (n + 1)).length ≤ 4611686018427387904 := by rw [List.length_drop]; omega
  have hcut := fun w => cut_any (l.drop (n + 1)) w hdl
  have hxl : (cutAt (l.drop (n + 1))).1.length ≤ (l.drop (n + 1)).length := by
    unfold cutAt
    split
    · rename_i x hu
      obtain ⟨t, ht, _⟩ := upto_some hu
      rw [ht]; simp
    · exact Nat.le_refl _
  obtain ⟨⟨x, y, fo⟩, hq⟩ : ∃ q, cutAt (l.drop (n + 1)) = q := ⟨_, rfl⟩
  rw [hq] at hra hcut hxl
  simp only at hra hcut hxl
  rw [List.length_drop] at hxl
  have HC := Lib.hid hcut
  have HR := Lib.hid hra
  have h1 : (tp 35 x).length ≤ 4611686018427387904 := by have := tp_len 35 x; omega
  have h2 : (tp 120 (tp 35 x)).length ≤ 4611686018427387904 := by have := tp_len 120 (tp 35 x); omega
  clear hq hcut hra hdl
  go_enter Tryz.func104, Tryz.ntmps104
  go_wp2_with (first
    | (go_at_call 100; refine (HC.out _).mono ?_; rintro e w' ⟨rfl, hb1⟩)
    | (go_at_call 122; with_reducible refine (cutPre_any _ _ _).mono ?_; rintro e w' ⟨rfl, rfl⟩)
    | (go_at_call 123; with_reducible refine (number16 _ _ h2).mono ?_; rintro e w' ⟨rfl, hb2⟩)
    | (go_at_call 123; with_reducible refine (number10 _ _ h1).mono ?_; rintro e w' ⟨rfl, hb2⟩))
  all_goals
    go_ret3
    refine ⟨ret_ref (HR.out.trans ?_), by first | exact hb1 | exact hb1.trans (hb2.mono hb1.size)⟩
    clear HR HC hb1 t1 t1' h1 h2 hl h hxl
    first
      | (simp [pN, *]; done)
      | (cases fo <;> simp_all [pN]; done)
      | trace_state
theorem reference_any (l : Bytes) (k : Int) (w : World) (hl : l.length ≤ 4611686018427387904) :
    Calls Tryz.prog 104 #[.string (S l), .int .i64 k] w fun e w' => e = .returned (.tuple #[.int .i32 (refAt l k).1, .int .i64 (refAt l k).2.1, .int .i64 (refAt l k).2.2]) ∧ Below w.heap.size w w' := by
  by_cases h : k < 0 ∨ (l.length : Int) ≤ k
  · exact reference_out l k w hl h
  · obtain ⟨n, rfl⟩ : ∃ n : Nat, k = n := ⟨k.toNat, by omega⟩
    by_cases hc : l[n]'(by omega) = 38
    · exact reference_amp l n w hl (by omega) hc
    · exact reference_byte l n w hl (by omega) hc
end Go.Proofs.YthbfahbjfioghaaGreatDoor
