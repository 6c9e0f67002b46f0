/-
  Several texts in one file, in build order:
  - Walk of chapter 5: the program's number.
  - Walks of chapter 5: the program's Reference.
  - A strings.Builder of the call's own: WriteRune.
  - Walk of chapter 6: the program's content.
  - Slices of tokens that a call builds itself (over a type of six cells, the reference's or the program's), and what they read as.
-/
import Derived.Test.YtclhdppppgjgfaaGreatDoorH6
import Derived.Lib.OthersKept
import Derived.Lib.TrimU
import Derived.Deep.LoopGhost
import Derived.Test.YtclhdppppgjgfaaGreatDoorH1
import Derived.Lib.RuneBytes
import Derived.Test.YtclhdppppgjgfaaGreatDoorH4
import Derived.Test.YtclhdppppgjgfaaGreatDoorH5
import Derived.Deep.RegionHeld3
import Derived.Test.YtclhdppppgjgfaaGreatDoorH3
set_option linter.unusedVariables false
namespace Go.Proofs.YtclhdppppgjgfaaGreatDoor
open Go.RowKit

/-- What the program's number returns. -/
def numP (base : Nat) (l : Bytes) : Int × Bool := match valS base 0 l with | none => (0, false) | some v => (((min v 1114112 : Nat) : Int), !l.isEmpty && isChar (min v 1114112 : Nat))
theorem numP_bad {base : Nat} {l : Bytes} (hv : valS base 0 l = none) : numP base l = (0, false) := by
  unfold numP; rw [hv]
theorem numP_ok {base v : Nat} {l : Bytes} (hv : valS base 0 l = some v) : numP base l = (((min v 1114112 : Nat) : Int), !l.isEmpty && isChar (min v 1114112 : Nat)) := by
  unfold numP; rw [hv]
theorem numP_ref (base : Nat) (l : Bytes) : (if (numP base l).2 = true then some (numP base l).1.toNat else none) = numRef base l := by
  unfold numP numRef
  by_cases h : l = []
  · subst h; rfl
  · rw [if_neg h]
    cases hv : valS base 0 l with
    | none => rfl
    | some v =>
      have : l.isEmpty = false := by simpa using h
      simp only [Option.bind_some, isChar_cap, this, Bool.not_false, Bool.true_and]
      split
      · rename_i hc
        rw [isChar_iff] at hc
        rw [Nat.min_eq_left (by omega)]
        rfl
      · rfl
theorem decode_high (s : ByteArray) (i : Nat) (h : 128 ≤ (s.get! i).toNat) : 128 ≤ (Utf8.decode s i).1 := by
  unfold Utf8.decode
  simp only [Nat.add_zero, Utf8.runeError]
  rw [if_neg (by omega)]
  repeat' split
  all_goals first
    | (simp only; done)
    | (rename_i h1; simp only [Bool.and_eq_true, decide_eq_true_eq, ge_iff_le] at h1; omega)
    | (simp only; omega)
theorem ret_pair {k : IntKind} {a : Int} {b : Bool} {r : Int × Bool} (h : r = (a, b)) : Ending.returned (.tuple #[.int k a, .bool b]) = .returned (.tuple #[.int k r.1, .bool r.2]) := by rw [h]
theorem S_get! (l : Bytes) (i : Nat) (h : i < l.length) : (S l).get! i = l[i] := by
  simp [S, ByteArray.get!, h]

set_option maxHeartbeats 2000000 in
theorem number_any (base : Nat) (hbase : base = 10 ∨ base = 16) (l : Bytes) (w : World) (hl : l.length ≤ 4611686018427387904) :
    Calls Tryz.prog 130 #[.string (S l), .int .i32 base] w fun e w' => e = .returned (.tuple #[.int .i32 (numP base l).1, .bool (numP base l).2]) ∧ Below w.heap.size w w' := by
  obtain ⟨r, hr⟩ : ∃ r, numP base l = r := ⟨_, rfl⟩
  rw [hr]
  have HR := Lib.hid hr
  clear hr
  obtain ⟨b, hbb⟩ : ∃ b : Int, (base : Int) = b := ⟨_, rfl⟩
  rw [hbb]
  have hb2 : b = 10 ∨ b = 16 := by omega
  have HBB := Lib.hid hbb
  clear hbb hbase
  rcases hb2 with rfl | rfl
  all_goals
    go_enter Tryz.func130, Tryz.ntmps130
    go_wp2_with fail
    go_loopg [6] l.length (fun gf n6 wx => ∃ pos v : Nat, pos ≤ l.length ∧ l.length ≤ pos + gf ∧ n6 = .int .i32 (min v 1114112 : Nat) ∧ valS base 0 (l.take pos) = some v ∧ wx.heap[w.heap.size]? = some (.stringIter (S l) pos) ∧ Below w.heap.size w wx)
    case atStart => exact ⟨0, 0, Nat.zero_le _, by omega, rfl, rfl, World.iter_heap w _ 0, (Below.refl _ w).alloc (Nat.le_refl _) _⟩
    case round =>
      obtain ⟨pos, v, hpl, hgf, rfl, hv, hit, hbw⟩ := hrel
      have HV := Lib.hid hv
      have HB := Lib.hid hbw
      have HI := Lib.hid hit
      clear hv hbw hit
      obtain ⟨m, hm⟩ : ∃ m, min v 1114112 = m := ⟨_, rfl⟩
      have hm2 : m ≤ 1114112 := by omega
      have HM := Lib.hid hm
      rw [hm]
      clear hm
      by_cases hlt : pos < l.length
      · obtain ⟨g', rfl⟩ : ∃ g', gk = g' + 1 := ⟨gk - 1, by omega⟩
        by_cases hc : l[pos].toNat < 128
        · have hnx : ∀ ty, (Instr.next (.pointer (some ⟨w.heap.size, 0, none⟩)) true ty).run Tryz.prog wr = .ok (.tuple #[.bool true, .int .i64 pos, .int .i32 l[pos].toNat]) (wr.iterAt w.heap.size (S l) (pos + 1)) := fun ty => by
            have := Lib.run_next_ascii_at (P := Tryz.prog) wr w.heap.size (S l) pos ty HI.out (by rw [S_size]; exact hlt) (by rw [S_get]; exact hc)
            rw [S_get] at this
            exact this
          have hit2 := Lib.iterAt_heap wr w.heap.size (S l) pos (pos + 1) HI.out
          have hbw2 := Lib.below_iterAt HB.out (k := w.heap.size) (Nat.le_refl _) (S l) (pos + 1)
          obtain ⟨W, hWd⟩ : ∃ W, wr.iterAt w.heap.size (S l) (pos + 1) = W := ⟨_, rfl⟩
          rw [hWd] at hnx hit2 hbw2
          have HI2 := Lib.hid hit2
          have HB2 := Lib.hid hbw2
          clear hit2 hbw2 hWd
          obtain ⟨c, hcd⟩ : ∃ c : Nat, l[pos].toNat = c := ⟨_, rfl⟩
          rw [hcd] at hnx hc
          have HC := Lib.hid hcd
          clear hcd
          obtain ⟨d, hdd⟩ : ∃ d, hexd l[pos] = d := ⟨_, rfl⟩
          have hdx : (48 ≤ c ∧ c ≤ 57 → d + 48 = c) ∧ (97 ≤ c ∧ c ≤ 102 → d + 87 = c) ∧ (65 ≤ c ∧ c ≤ 70 → d + 55 = c) ∧ (¬ (48 ≤ c ∧ c ≤ 57) → ¬ (97 ≤ c ∧ c ≤ 102) → ¬ (65 ≤ c ∧ c ≤ 70) → d = 16) := by
            rw [← hdd, ← HC.out]
            unfold hexd
            refine ⟨?_, ?_, ?_, ?_⟩ <;> ((repeat' split) <;> omega)
          have HD := Lib.hid hdx
          have HE := Lib.hid hdd
          clear hdx hdd
          go_wp2_with fail
          all_goals first
            | (go_ret2
               exact ⟨ret_pair (HR.out.symm.trans (numP_bad (valS_bad hlt HV.out (by rw [HE.out]; have h1 := HD.out; have h2 := HBB.out; omega)))), HB2.out⟩)
            | (go_roundg g'
               case measure => omega
               case rel =>
                 refine ⟨pos + 1, v * base + d, by omega, by omega, val_int ?_, ?_, HI2.out, HB2.out⟩
                 · have hs := cap_step 1114112 base d v (by have := HBB.out; omega)
                   rw [HM.out] at hs
                   rw [← hs]
                   have h1 := HD.out
                   have h2 := HBB.out
                   have h3 : base = 10 ∨ base = 16 := by omega
                   clear hs
                   rcases h3 with e | e
                   all_goals
                     rw [e] at h2 ⊢
                     omega
                 · have hv2 := valS_step hlt HV.out (by rw [HE.out]; have h1 := HD.out; have h2 := HBB.out; omega)
                   rw [HE.out] at hv2
                   exact hv2)
        · have hge : 128 ≤ ((S l).get! pos).toNat := by rw [S_get! l pos hlt]; omega
          have hRh := decode_high (S l) pos hge
          have hRl := Lib.rune_le (S l) pos
          have hnx : ∀ ty, (Instr.next (.pointer (some ⟨w.heap.size, 0, none⟩)) true ty).run Tryz.prog wr = _ := fun ty => Lib.run_next_any_at wr w.heap.size (S l) pos ty HI.out (by rw [S_size]; exact hlt)
          have hbw2 := Lib.below_iterAt HB.out (k := w.heap.size) (Nat.le_refl _) (S l) (pos + (Utf8.decode (S l) pos).2)
          generalize (Utf8.decode (S l) pos).1 = R at *
          obtain ⟨W, hWd⟩ : ∃ W, wr.iterAt w.heap.size (S l) (pos + (Utf8.decode (S l) pos).2) = W := ⟨_, rfl⟩
          rw [hWd] at hnx hbw2
          have HB2 := Lib.hid hbw2
          have h16 : hexd l[pos] = 16 := by unfold hexd; rw [if_neg (by omega), if_neg (by omega), if_neg (by omega)]
          have HE := Lib.hid h16
          clear hbw2 hWd hge h16
          go_wp2_with fail
          go_ret2
          exact ⟨ret_pair (HR.out.symm.trans (numP_bad (valS_bad hlt HV.out (by rw [HE.out]; have h2 := HBB.out; omega)))), HB2.out⟩
      · have hnx : ∀ ty, (Instr.next (.pointer (some ⟨w.heap.size, 0, none⟩)) true ty).run Tryz.prog wr = _ := fun ty => Lib.run_next_end_at wr w.heap.size (S l) pos ty HI.out (by rw [S_size]; exact hlt)
        obtain rfl : pos = l.length := by omega
        have hfin := HV.out
        rw [List.take_length] at hfin
        have hok := HR.out.symm.trans (numP_ok hfin)
        rw [HM.out] at hok
        have HOK := Lib.hid hok
        clear hfin hok
        go_wp2_with (go_at_call 80; refine (isChar_any _ _).mono ?_; rintro e w' ⟨rfl, rfl⟩)
        all_goals
          go_ret2
          exact ⟨ret_pair (HOK.out.trans (by simp [*])), HB.out⟩
end Go.Proofs.YtclhdppppgjgfaaGreatDoor
set_option linter.unusedVariables false
namespace Go.Proofs.YtclhdppppgjgfaaGreatDoor
open Go.RowKit

theorem indexByte_upto (c : UInt8) : ∀ l : Bytes, Lib.indexByte l c = match upto c l with | some x => (x.length : Int) | none => -1
  | [] => rfl
  | a :: l => by
    have ih := indexByte_upto c l
    unfold Lib.indexByte upto
    by_cases h : a = c
    · rw [if_pos (by simpa using h), if_pos h]; rfl
    · rw [if_neg (by simpa using h), if_neg h]
      cases hu : upto c l with
      | none => rw [hu] at ih; rw [ih]; rfl
      | some x =>
        rw [hu] at ih
        rw [ih, if_neg (by simp)]
        simp
/-- What strings.Cut gives at ";": what lies ahead, what lies behind, found. -/
def cutAt (l : Bytes) : Bytes × Bytes × Bool := match upto 59 l with | some x => (x, l.drop (x.length + 1), true) | none => (l, [], false)

theorem ret_cut {a b : Bytes} {c : Bool} {r : Bytes × Bytes × Bool} (h : r = (a, b, c)) : Ending.returned (.tuple #[.string (S a), .string (S b), .bool c]) = .returned (.tuple #[.string (S r.1), .string (S r.2.1), .bool r.2.2]) := by rw [h]
theorem below_drewN5 {B : Nat} {w w' : World} (h : Below B w w') (n : Nat) : Below B w (w'.drewN n) := ⟨h.os, h.tape, h.output, h.size, h.block⟩

set_option maxHeartbeats 1000000 in
theorem slCut_any (l : Bytes) (w : World) (hl : l.length ≤ 4611686018427387904) :
    Calls Tryz.prog 124 #[.string (S l), .string ⟨#[59]⟩] w fun e w' => e = .returned (.tuple #[.string (S (cutAt l).1), .string (S (cutAt l).2.1), .bool (cutAt l).2.2]) ∧ Below w.heap.size w w' := by
  obtain ⟨r, hr⟩ : ∃ r, cutAt l = r := ⟨_, rfl⟩
  rw [hr]
  have HR := Lib.hid hr
  clear hr
  have hix := indexByte_upto 59 l
  cases hu : upto 59 l with
  | none =>
    rw [hu] at hix
    have h1 := HR.out
    unfold cutAt at h1
    rw [hu] at h1
    have H1 := Lib.hid h1
    have hcall : ∀ w, Calls Tryz.prog 136 #[.string (S l), .string ⟨#[59]⟩] w fun e w' => e = .returned (.int .i64 (-1)) ∧ w' = w := fun w => by
      have := Tryz.stringslite_Index_one (S l) 59 w
      rw [S_data, hix] at this
      exact this
    have HC := Lib.hid hcall
    clear hix hu h1 hcall
    go_enter Tryz.func124, Tryz.ntmps124
    go_wp2_with (go_at_call 136; refine (HC.out _).mono ?_; rintro e w' ⟨rfl, rfl⟩)
    go_ret3
    exact ⟨ret_cut (b := []) H1.out.symm, Below.refl _ _⟩
  | some x =>
    rw [hu] at hix
    have h1 := HR.out
    unfold cutAt at h1
    rw [hu] at h1
    have H1 := Lib.hid h1
    obtain ⟨t, ht, _⟩ := upto_some hu
    have hxl : (x.length : Int) + 1 ≤ l.length := by rw [ht]; simp; omega
    have htk : l.take x.length = x := by rw [ht]; simp
    have HT := Lib.hid htk
    have c1 : (0 : Int) ≤ x.length := by omega
    have c2 : (x.length : Int) ≤ l.length := by omega
    have c3 : (0 : Int) ≤ x.length + 1 := by omega
    have hcall : ∀ w, Calls Tryz.prog 136 #[.string (S l), .string ⟨#[59]⟩] w fun e w' => e = .returned (.int .i64 x.length) ∧ w' = w := fun w => by
      have := Tryz.stringslite_Index_one (S l) 59 w
      rw [S_data, hix] at this
      exact this
    have HC := Lib.hid hcall
    clear hix hu h1 hcall ht htk
    go_enter Tryz.func124, Tryz.ntmps124
    go_wp2_with (go_at_call 136; refine (HC.out _).mono ?_; rintro e w' ⟨rfl, rfl⟩)
    go_region
    go_wp2
    go_ret3
    exact ⟨ret_cut (by rw [HT.out]; exact H1.out.symm), below_drewN5 (Below.refl _ _) _⟩

set_option maxHeartbeats 1000000 in
theorem cut_any (l : Bytes) (w : World) (hl : l.length ≤ 4611686018427387904) :
    Calls Tryz.prog 108 #[.string (S l), .string ⟨#[59]⟩] w fun e w' => e = .returned (.tuple #[.string (S (cutAt l).1), .string (S (cutAt l).2.1), .bool (cutAt l).2.2]) ∧ Below w.heap.size w w' := by
  go_enter Tryz.func108, Tryz.ntmps108
  go_wp2_with (go_at_call 124; refine (slCut_any l _ hl).mono ?_; rintro e w' ⟨rfl, hb⟩)
  go_ret3
  exact ⟨rfl, hb⟩

def hp (c : UInt8) : Bytes → Bool | [] => false | a :: _ => c == a
def tp (c : UInt8) (x : Bytes) : Bytes := if hp c x = true then x.tail else x
theorem hasPrefix_one (c : UInt8) (x : Bytes) : Lib.hasPrefix x [c] = hp c x := by
  cases x <;> simp [Lib.hasPrefix, List.isPrefixOf, hp]
theorem trimPrefix_one (c : UInt8) (x : Bytes) : Lib.trimPrefix x [c] = tp c x := by
  unfold Lib.trimPrefix tp
  rw [hasPrefix_one]
  simp
theorem tp_len (c : UInt8) (x : Bytes) : (tp c x).length ≤ x.length := by
  unfold tp; split <;> simp
theorem cutPre_any (c : UInt8) (x : Bytes) (w : World) :
    Calls Tryz.prog 129 #[.string (S x), .string ⟨#[c]⟩] w fun e w' => e = .returned (.tuple #[.string (S (tp c x)), .bool (hp c x)]) ∧ w = w' := by
  have h := Tryz.strings_CutPrefix (S x) ⟨#[c]⟩ w
  rw [S_data, show (⟨#[c]⟩ : ByteArray).data.toList = [c] from rfl, trimPrefix_one, hasPrefix_one] at h
  refine h.mono ?_
  rintro e w' ⟨rfl, rfl⟩
  exact ⟨rfl, rfl⟩

/-- What the program takes for a name: its rune, and whether it is one. -/
def pN (x : Bytes) : Int × Bool :=
  if (x == [108, 116]) = true then (60, true) else if (x == [103, 116]) = true then (62, true) else if (x == [97, 109, 112]) = true then (38, true)
  else if (x == [97, 112, 111, 115]) = true then (39, true) else if (x == [113, 117, 111, 116]) = true then (34, true)
  else if hp 120 (tp 35 x) = true then ((numP 16 (tp 120 (tp 35 x))).1, (numP 16 (tp 120 (tp 35 x))).2 && hp 35 x) else ((numP 10 (tp 35 x)).1, (numP 10 (tp 35 x)).2 && hp 35 x)
theorem pN_ref (x : Bytes) : (if (pN x).2 = true then some (pN x).1.toNat else none) = nameRef x := by
  unfold pN
  simp only [beq_iff_eq]
  by_cases h1 : x = [108, 116]
  · subst h1; decide
  by_cases h2 : x = [103, 116]
  · subst h2; decide
  by_cases h3 : x = [97, 109, 112]
  · subst h3; decide
  by_cases h4 : x = [97, 112, 111, 115]
  · subst h4; decide
  by_cases h5 : x = [113, 117, 111, 116]
  · subst h5; decide
  simp only [h1, h2, h3, h4, h5, if_false]
  match x with
  | [] => decide
  | c :: y =>
    by_cases hc : c = 35
    · subst hc
      have e1 : hp 35 (35 :: y) = true := rfl
      have e2 : tp 35 (35 :: y) = y := by unfold tp; rw [if_pos e1]; rfl
      rw [nameRef_hash, e1, e2]
      cases y with
      | nil => decide
      | cons d h =>
        by_cases hd : d = 120
        · subst hd
          have e3 : hp 120 (120 :: h) = true := rfl
          have e4 : tp 120 (120 :: h) = h := by unfold tp; rw [if_pos e3]; rfl
          rw [e3, e4, if_pos rfl]
          simp only [Bool.and_true]
          rw [numP_ref]
        · have e3 : hp 120 (d :: h) = false := by simp [hp]; exact fun e => hd e.symm
          simp only [e3, Bool.false_eq_true, if_false, Bool.and_true]
          rw [numP_ref]
          split
          · rename_i h'; cases h'; exact absurd rfl hd
          · rfl
    · have e1 : hp 35 (c :: y) = false := by simp [hp]; exact fun e => hc e.symm
      have e2 : nameRef (c :: y) = none := by
        rw [nameRef_named (fun z h => hc (by cases h; rfl))]
        unfold namedN
        simp only [beq_iff_eq]
        rw [if_neg h1, if_neg h2, if_neg h3, if_neg h4, if_neg h5, isChar_neg]; rfl
      rw [e1, e2]
      simp only [Bool.and_false]
      split <;> rfl
theorem refAt_cut {l : Bytes} {n : Nat} (h : n < l.length) (hc : l[n] = 38) : refAt l n =
    if ((pN (cutAt (l.drop (n + 1))).1).2 && (cutAt (l.drop (n + 1))).2.2) = true then ((pN (cutAt (l.drop (n + 1))).1).1, (n : Int) + (cutAt (l.drop (n + 1))).1.length + 2, 0) else (0, 0, 12) := by
  rw [refAt_in h hc]
  unfold tailRef cutAt
  cases hu : upto 59 (l.drop (n + 1)) with
  | none => simp
  | some x =>
    simp only [Option.bind_some, Bool.and_true]
    rw [← pN_ref]
    split
    · rename_i hr
      split at hr
      · rename_i hch
        rw [if_pos hch]
        simp only [Option.map_some, Option.some.injEq, Prod.mk.injEq] at hr
        rw [← hr.1, ← hr.2]
        have : 0 ≤ (pN x).1 := by
          unfold pN numP
          repeat' split
          all_goals first | decide | (simp only; omega) | skip
        rw [Int.toNat_of_nonneg this]
      · cases hr
    · rename_i hr
      split at hr
      · cases hr
      · rename_i hch; rw [if_neg hch]
theorem number10 (l : Bytes) (w : World) (hl : l.length ≤ 4611686018427387904) :
    Calls Tryz.prog 130 #[.string (S l), .int .i32 10] w fun e w' => e = .returned (.tuple #[.int .i32 (numP 10 l).1, .bool (numP 10 l).2]) ∧ Below w.heap.size w w' := number_any 10 (.inl rfl) l w hl
theorem number16 (l : Bytes) (w : World) (hl : l.length ≤ 4611686018427387904) :
    Calls Tryz.prog 130 #[.string (S l), .int .i32 16] w fun e w' => e = .returned (.tuple #[.int .i32 (numP 16 l).1, .bool (numP 16 l).2]) ∧ Below w.heap.size w w' := number_any 16 (.inr rfl) l w hl

set_option maxHeartbeats 1000000 in
theorem reference_out (l : Bytes) (k : Int) (w : World) (hl : l.length ≤ 4611686018427387904) (h : k < 0 ∨ (l.length : Int) ≤ k) :
    Calls Tryz.prog 113 #[.string (S l), .int .i64 k] w fun e w' => e = .returned (.tuple #[.int .i32 (refAt l k).1, .int .i64 (refAt l k).2.1, .int .i64 (refAt l k).2.2]) ∧ Below w.heap.size w w' := by
  rw [refAt_out (by omega)]
  rcases h with h | h
  · go_enter Tryz.func113, Tryz.ntmps113
    go_wp2
    go_ret3
    exact ⟨rfl, Below.refl _ _⟩
  · have h0 : 0 ≤ k := by omega
    go_enter Tryz.func113, Tryz.ntmps113
    go_wp2
    go_ret3
    exact ⟨rfl, Below.refl _ _⟩
set_option maxHeartbeats 1000000 in
theorem reference_byte (l : Bytes) (n : Nat) (w : World) (hl : l.length ≤ 4611686018427387904) (h : n < l.length) (hc : l[n] ≠ 38) :
    Calls Tryz.prog 113 #[.string (S l), .int .i64 n] w fun e w' => e = .returned (.tuple #[.int .i32 (refAt l n).1, .int .i64 (refAt l n).2.1, .int .i64 (refAt l n).2.2]) ∧ Below w.heap.size w w' := by
  rw [refAt_byte h hc]
  have t1 : (((l[n]).toNat : Int) == 38) = false := by
    rw [beq_eq_false_iff_ne]; exact fun e => hc (UInt8.toNat_inj.1 (by simpa using Int.ofNat_inj.1 e))
  have t1' : (((l[n]).toNat : Int) != 38) = true := by rw [bne, t1]; rfl
  have T := Lib.hid hc
  clear hc
  go_enter Tryz.func113, Tryz.ntmps113
  go_wp2
  go_ret3
  exact ⟨rfl, Below.refl _ _⟩
set_option maxHeartbeats 2000000 in
theorem reference_amp (l : Bytes) (n : Nat) (w : World) (hl : l.length ≤ 4611686018427387904) (h : n < l.length) (hc : l[n] = 38) :
    Calls Tryz.prog 113 #[.string (S l), .int .i64 n] w fun e w' => e = .returned (.tuple #[.int .i32 (refAt l n).1, .int .i64 (refAt l n).2.1, .int .i64 (refAt l n).2.2]) ∧ Below w.heap.size w w' := by
  have hra := refAt_cut h hc
  have t1 : (((l[n]).toNat : Int) == 38) = true := by rw [hc]; rfl
  have t1' : (((l[n]).toNat : Int) != 38) = false := by rw [bne, t1]; rfl
  clear hc
  obtain ⟨r, hr⟩ : ∃ r, refAt l n = r := ⟨_, rfl⟩
  rw [hr] at hra ⊢
  clear hr
  have hdl : (l.drop (n + 1)).length ≤ 4611686018427387904 := by rw [List.length_drop]; omega
  have hcut := fun w => cut_any (l.drop (n + 1)) w hdl
  have hxl : (cutAt (l.drop (n + 1))).1.length ≤ (l.drop (n + 1)).length := by
    unfold cutAt
    split
    · rename_i x hu
      obtain ⟨t, ht, _⟩ := upto_some hu
      rw [ht]; simp
    · exact Nat.le_refl _
  obtain ⟨⟨x, y, fo⟩, hq⟩ : ∃ q, cutAt (l.drop (n + 1)) = q := ⟨_, rfl⟩
  rw [hq] at hra hcut hxl
  simp only at hra hcut hxl
  rw [List.length_drop] at hxl
  have HC := Lib.hid hcut
  have HR := Lib.hid hra
  have h1 : (tp 35 x).length ≤ 4611686018427387904 := by have := tp_len 35 x; omega
  have h2 : (tp 120 (tp 35 x)).length ≤ 4611686018427387904 := by have := tp_len 120 (tp 35 x); omega
  clear hq hcut hra hdl
  go_enter Tryz.func113, Tryz.ntmps113
  go_wp2_with (first
    | (go_at_call 108; refine (HC.out _).mono ?_; rintro e w' ⟨rfl, hb1⟩)
    | (go_at_call 129; with_reducible refine (cutPre_any _ _ _).mono ?_; rintro e w' ⟨rfl, rfl⟩)
    | (go_at_call 130; with_reducible refine (number16 _ _ h2).mono ?_; rintro e w' ⟨rfl, hb2⟩)
    | (go_at_call 130; with_reducible refine (number10 _ _ h1).mono ?_; rintro e w' ⟨rfl, hb2⟩))
  all_goals
    go_ret3
    refine ⟨ret_ref (HR.out.trans ?_), by first | exact hb1 | exact hb1.trans (hb2.mono hb1.size)⟩
    clear HR HC hb1 t1 t1' h1 h2 hl h hxl
    first
      | (simp [pN, *]; done)
      | (cases fo <;> simp_all [pN]; done)
      | trace_state
theorem reference_any (l : Bytes) (k : Int) (w : World) (hl : l.length ≤ 4611686018427387904) :
    Calls Tryz.prog 113 #[.string (S l), .int .i64 k] w fun e w' => e = .returned (.tuple #[.int .i32 (refAt l k).1, .int .i64 (refAt l k).2.1, .int .i64 (refAt l k).2.2]) ∧ Below w.heap.size w w' := by
  by_cases h : k < 0 ∨ (l.length : Int) ≤ k
  · exact reference_out l k w hl h
  · obtain ⟨n, rfl⟩ : ∃ n : Nat, k = n := ⟨k.toNat, by omega⟩
    by_cases hc : l[n]'(by omega) = 38
    · exact reference_amp l n w hl (by omega) hc
    · exact reference_byte l n w hl (by omega) hc
end Go.Proofs.YtclhdppppgjgfaaGreatDoor
set_option linter.unusedVariables false
namespace Go.Proofs.YtclhdppppgjgfaaGreatDoor
open Go.RowKit

theorem runeCells_enc {r : Nat} (h : okRune r) : Lib.runeCells r = Lib.byteCells (enc r) := by
  have hx := h
  unfold okRune at hx
  unfold Lib.runeCells enc
  rw [if_neg (by simpa using h)]
  by_cases h1 : r < 128
  · rw [if_pos h1, Lib.encodeRuneZ_one (by omega) (by omega)]
    simp only [Lib.byteCells, List.map_cons, List.map_nil]
    rw [u8_of (by omega)]
  · rw [if_neg h1]
    by_cases h2 : r < 2048
    · rw [if_pos h2, Lib.encodeRuneZ_two (by omega) (by omega)]
      simp only [Lib.byteCells, List.map_cons, List.map_nil]
      rw [u8_of (by omega), u8_of (by omega)]
      simp
    · rw [if_neg h2]
      by_cases h3 : r < 65536
      · rw [if_pos h3, Lib.encodeRuneZ_three (by omega)]
        simp only [Lib.byteCells, List.map_cons, List.map_nil]
        rw [u8_of (by omega), u8_of (by omega), u8_of (by omega)]
        simp
      · rw [if_neg h3, Lib.encodeRuneZ_four (by omega) (by omega)]
        simp only [Lib.byteCells, List.map_cons, List.map_nil]
        rw [u8_of (by omega), u8_of (by omega), u8_of (by omega), u8_of (by omega)]
        simp

set_option maxHeartbeats 2000000 in
set_option maxRecDepth 100000 in
theorem writeRune_cells (B b : Nat) (bs : List Value) (r : Int) (hr0 : -2147483648 ≤ r) (hr1 : r ≤ 2147483647) (w : World) (h : Lib.IsBuilderF 68 5 B b bs w) (hlen : bs.length + 4 ≤ 140737488355328) (hBw : B ≤ w.heap.size) :
    Calls Tryz.prog 114 #[.pointer (some ⟨b, 0, none⟩), .int .i32 r] w fun e w' => (∃ k, e = .returned (.tuple #[k, .nilIface])) ∧ (Lib.BuilderAtF 68 5 B b (.pointer (some ⟨b, 0, none⟩)) (bs ++ Lib.runeCells r) w' ∧ Below B w w' ∧ Kept b w w') := by
  go_enter Tryz.func114, Tryz.ntmps114
  go_wp2_with (go_at_call 72; refine (copyCheck_any B b bs _ h).mono ?_)
  rintro e w1 ⟨rfl, h1, hb1, hk1⟩
  obtain ⟨hB, v, hbk, hown, hne⟩ := h1
  have hsz := hb1.size
  obtain ⟨ao, n1, c1, rfl⟩ : ∃ ao n1 c1, v = .slice ao n1 c1 := by
    rcases hown.2 with ⟨hv, _⟩ | ⟨g, cap, cur, fz, hv, _⟩
    · exact ⟨_, _, _, hv⟩
    · exact ⟨_, _, _, hv⟩
  have c0 : w1.cell? ⟨b, 0, none⟩ = some (.pointer (some ⟨b, 0, none⟩)) := by rw [Lib.cell_of_heap hbk]; rfl
  have c1' : w1.cell? ⟨b, 1, none⟩ = some (.slice ao n1 c1) := by rw [Lib.cell_of_heap hbk]; rfl
  go_wp2_with (go_at_call 131; refine (Tryz.utf8_AppendRune_row B _ _ _ r hr0 hr1 _ hown (by omega) (by omega)).mono ?_)
  rintro e w2 ⟨v', rfl, hown', o, hgrow⟩
  have hlt : b < w1.heap.size := by
    rcases Nat.lt_or_ge b w1.heap.size with h' | h'
    · exact h'
    · simp [Array.getElem?_eq_none h'] at hbk
  have hb2 : w2.heap[b]? = some (.cells #[.pointer (some ⟨b, 0, none⟩), .slice ao n1 c1] 68 (0, 0)) := by
    rw [hgrow.block b (by simp; omega) (fun e => hne e.symm), Lib.alloc_old w1 _ b hlt]
    exact hbk
  have d0 : w2.cell? ⟨b, 0, none⟩ = some (.pointer (some ⟨b, 0, none⟩)) := by rw [Lib.cell_of_heap hb2]; rfl
  have d1 : w2.cell? ⟨b, 1, none⟩ = some (.slice ao n1 c1) := by rw [Lib.cell_of_heap hb2]; rfl
  have f1 : w2.frozen? ⟨b, 1, none⟩ = false := Lib.frozen_of_heap hb2 1
  obtain ⟨ao', n2, c2, rfl⟩ : ∃ ao n' cap, v' = .slice ao n' cap := by
    rcases hown'.2 with ⟨hv, _⟩ | ⟨g, cap, cur, fz, hv, _⟩
    · exact ⟨_, _, _, hv⟩
    · exact ⟨_, _, _, hv⟩
  go_wp2
  go_ret2
  refine ⟨⟨_, rfl⟩, ?_, ?_, ((hk1.alloc o).grown hgrow (Lib.ownsRowF_kind (hown.alloc o))).setCell ⟨b, 1, none⟩ rfl _⟩
  · exact Lib.BuilderAtF.put (T := 68) (e := 5) hB hb2 (bs' := bs ++ Lib.runeCells r) (by simpa using hown') (by decide)
  · exact ((hb1.alloc (by omega) o).grown hgrow (by simp; omega) (fun k hk => (hown.lt k hk).1)).setCell (p := ⟨b, 1, none⟩) hB _
theorem writeRune_any (B b : Nat) (l : Bytes) (r : Nat) (hr : okRune r) (w : World) (h : Bld B b l w) (hlen : l.length + 4 ≤ 140737488355328) (hBw : B ≤ w.heap.size) :
    Calls Tryz.prog 114 #[.pointer (some ⟨b, 0, none⟩), .int .i32 r] w fun e w' => (∃ k, e = .returned (.tuple #[k, .nilIface])) ∧ Bld B b (l ++ enc r) w' ∧ Below B w w' ∧ Kept b w w' := by
  have hx := hr
  unfold okRune at hx
  refine (writeRune_cells B b (Lib.byteCells l) r (by omega) (by omega) w h (by rw [Lib.byteCells_length]; exact hlen) hBw).mono ?_
  rintro e w' ⟨hk, h1, h2, h3⟩
  refine ⟨hk, .inr ?_, h2, h3⟩
  rw [Lib.byteCells_append, ← runeCells_enc hr]; exact h1
end Go.Proofs.YtclhdppppgjgfaaGreatDoor
set_option linter.unusedVariables false
namespace Go.Proofs.YtclhdppppgjgfaaGreatDoor
open Go.RowKit

theorem ownF_heap {B e n : Nat} {v : Value} {bs : List Value} {w w' : World} (h : w.ownsRowF B e 1 v n bs) (hb : ∀ k, B ≤ k → k < w.heap.size → w'.heap[k]? = w.heap[k]?) : w'.ownsRowF B e 1 v n bs := by
  obtain ⟨h1, h2⟩ := h
  refine ⟨h1, ?_⟩
  rcases h2 with h2 | ⟨g, cap, cur, fz, hv, hg, hh, r⟩
  · exact .inl h2
  · exact .inr ⟨g, cap, cur, fz, hv, hg, (hb g hg (heap_lt hh)).trans hh, r⟩
theorem Bld.upd {B b c : Nat} {l : Bytes} {w w' : World} (h : Bld B b l w) (hu : Upd c w w') (hc : c < B) : Bld B b l w' := by
  have hlt := h.lt
  have hle := h.le
  have hk : ∀ k, B ≤ k → k < w.heap.size → w'.heap[k]? = w.heap[k]? := fun k h1 h2 => hu.block k h2 (by omega)
  rcases h with ⟨h1, v, h2, h3, h4⟩ | ⟨h1, v, h2, h3, h4⟩
  · exact .inl ⟨h1, v, by rw [hk b hle hlt]; exact h2, ownF_heap h3 hk, h4⟩
  · exact .inr ⟨h1, v, by rw [hk b hle hlt]; exact h2, ownF_heap h3 hk, h4⟩
theorem Upd.more {b : Nat} {w W W' : World} (h : Upd b w W) (k : Below w.heap.size W W') : Upd b w W' :=
  ⟨k.os.trans h.os, k.tape.trans h.tape, k.output.trans h.output, Nat.le_trans h.size k.size, fun i hi hb => (k.block i hi).trans (h.block i hi hb)⟩
theorem Cur.keep {w w' : World} {b : Nat} {l : Bytes} {n ea er : Int} (h : Cur w b l n ea er) (hk : w'.heap[b]? = w.heap[b]?) : Cur w' b l n ea er := hk.trans h
theorem findS_run : ∀ (y : Bytes), (match findS [38] y with | none => y | some j => y.take j) = y.take (run (fun c => c != 38) y)
  | [] => rfl
  | c :: y => by
    rw [findS, run]
    by_cases h : c = 38
    · subst h; simp
    · have h1 : List.isPrefixOf [38] (c :: y) = false := by
        have : (38 == c) = false := by rw [beq_eq_false_iff_ne]; exact fun e => h e.symm
        simp [List.isPrefixOf, this]
      rw [if_neg (by rw [h1]; decide), if_pos (by simpa using h), List.take_succ_cons, ← findS_run y]
      cases findS [38] y with
      | none => rfl
      | some j => rfl
theorem cut_amp (y : Bytes) : (Lib.cut y [38]).1 = y.take (run (fun c => c != 38) y) := by
  rw [← findS_run, cut_find]
  cases findS [38] y <;> rfl

theorem curFail0_any (b : Nat) (l : Bytes) (n ea x y : Int) (w : World) (hC : Cur w b l n ea 0) :
    Calls Tryz.prog 83 #[.pointer (some ⟨b, 0, none⟩), .int .i64 x, .int .i64 y] w fun e w' => e = .returned (.tuple #[]) ∧ Cur w' b l n x y ∧ Upd b w w' := by
  simpa using curFail_any b l n ea 0 x y w hC
/-- A world that has been read alone. -/
def Drawn (w w' : World) : Prop := ∃ n, w' = w.drewN n
theorem Drawn.cur {w w' : World} {b : Nat} {l : Bytes} {n ea er : Int} (h : Drawn w w') (hC : Cur w b l n ea er) : Cur w' b l n ea er := by
  obtain ⟨k, rfl⟩ := h; exact hC.drewN k
theorem Drawn.upd {w w' : World} (h : Drawn w w') (b : Nat) : Upd b w w' := by
  obtain ⟨k, rfl⟩ := h; exact drewN_upd b w k
/-- What content returns, and where the position stands. -/
def ConRes (b : Nat) (l : Bytes) (tt : Nat) (ea : Int) (R : Except Nat Bytes) (e : Ending) (w' : World) : Prop :=
  match R with
  | .error x => e = .returned (.string (S [])) ∧ Cur w' b l x x 12
  | .ok o => e = .returned (.string (S o)) ∧ Cur w' b l tt ea 0

set_option maxHeartbeats 4000000 in
set_option maxRecDepth 100000 in
theorem curContent_any (v : Bool) (b : Nat) (l : Bytes) (n tt : Nat) (ea m : Int) (w : World) (hM : MaxLen m w) (hC : Cur w b l n ea 0) (hnt : n ≤ tt) (hto : tt ≤ l.length) (hl : l.length ≤ 1000000000) :
    Calls Tryz.prog 89 #[.pointer (some ⟨b, 0, none⟩), .int .i64 tt, .bool v] w fun e w' => ConRes b l tt ea (cont v l n tt) e w' ∧ Upd b w w' := by
  obtain ⟨R, hR⟩ : ∃ R, cont v l n tt = R := ⟨_, rfl⟩
  rw [hR]
  unfold cont at hR
  obtain ⟨x, hx⟩ : ∃ x, l.take tt = x := ⟨_, rfl⟩
  rw [hx] at hR
  have hxl : x.length = tt := by rw [← hx, List.length_take]; omega
  have hxi : ∀ i (h1 : i < x.length) (h2 : i < l.length), x[i] = l[i] := by intro i h1 h2; subst hx; rw [List.getElem_take]
  have hxd : ∀ i, x.drop i = (l.drop i).take (tt - i) := by intro i; subst hx; rw [List.drop_take]
  have hbl := hC.lt
  have HX := Lib.hid hx
  have HXL := Lib.hid hxl
  have HXI := Lib.hid hxi
  have HXD := Lib.hid hxd
  have HR := Lib.hid (ConAt.start hR)
  have HC := Lib.hid hC
  have HM := Lib.hid hM
  have hbn := Bld.new w
  have HB0 := Lib.hid hbn
  clear hx hxl hxi hxd hR hC hM hbn
  go_enter Tryz.func89, Tryz.ntmps89
  go_wp2_with fail
  go_loopg [8] (tt - n) (fun k _ wr => ∃ (o : Bytes) (i : Nat), n ≤ i ∧ i ≤ tt ∧ k = tt - i ∧ o.length ≤ 4 * i ∧ ConAt v x o i R ∧ Bld w.heap.size w.heap.size o wr ∧ Cur wr b l i ea 0 ∧ Upd b w wr)
  case atStart => exact ⟨[], n, Nat.le_refl _, hnt, rfl, by simp, HR.out, HB0.out, HC.out.alloc _, (Upd.refl _ _).alloc _⟩
  case round =>
    obtain ⟨o, i, hni, hit, hk, hol, hcon, hbd, hcur, hupd⟩ := hrel
    have HK := Lib.hid hk
    have HCO := Lib.hid hcon
    have HBL := Lib.hid hbd
    have HCu := Lib.hid hcur
    have HU := Lib.hid hupd
    have hsz := hupd.size
    have c0 := hcur.c0
    have c1 := hcur.c1
    have f1 := hcur.free 1
    clear hk hcon hbd hcur hupd
    by_cases hlt : i < tt
    · have hlt' : (i : Int) < tt := by omega
      have hil : i < l.length := by omega
      have hil' : (i : Int) < l.length := by omega
      have hix : i < x.length := by rw [HXL.out]; exact hlt
      have hto' : (tt : Int) ≤ l.length := by omega
      by_cases hc : l[i] = 38
      · have hxc : x[i] = 38 := by rw [HXI.out i hix hil]; exact hc
        have t1 : ((l[i].toNat : Int) == 38) = true := by rw [hc]; rfl
        have hra := refAt_in hix hxc
        clear hc
        cases ht : tailRef (x.drop (i + 1)) with
        | none =>
          rw [ht] at hra
          have hend := HCO.out.bad hix hxc ht
          have HE := Lib.hid hend
          have hcall : ∀ w, Calls Tryz.prog 113 #[.string (S (l.take tt)), .int .i64 i] w fun e w' => e = .returned (.tuple #[.int .i32 0, .int .i64 0, .int .i64 12]) ∧ Below w.heap.size w w' := fun w => by
            rw [HX.out]
            have := reference_any x i w (by rw [HXL.out]; omega)
            rw [hra] at this
            exact this
          have HCL := Lib.hid hcall
          clear hcall hend hra ht hxc hix
          go_wp2_with fail
          go_quiet (fail)
          go_wp2_with fail
          have hcur2 := HCu.out.drewN nq
          have HU2 := Lib.hid (HU.out.trans (drewN_upd b wr nq))
          generalize wr.drewN nq = W1 at *
          clear c0 c1 f1
          have c0 := hcur2.c0
          have c1 := hcur2.c1
          have HC2 := Lib.hid hcur2
          clear hcur2
          go_region_held3 (fun x => x.cell? ⟨b, 0, none⟩ = some (.string (S l)) ∧ x.cell? ⟨b, 1, none⟩ = some (.int .i64 i))
            (first | exact ⟨d0, d1⟩ | exact ⟨c0, c1⟩)
            ((go_at_call 113; refine (HCL.out _).mono ?_; rintro e w2 ⟨rfl, hb⟩; have hcur3 := HC2.out.drew.below hb; have d0 := hcur3.c0; have d1 := hcur3.c1))
          have hcu := HC2.out.drew.below hb
          have HU3 := Lib.hid (HU2.out.drew.next hb)
          have HF := Lib.hid (fun W hW => curFail0_any b l i ea i 12 W hW)
          have HC3 := Lib.hid hcu
          clear hcu hb hcur3 c0 c1
          go_wp2_with fail
          refine (HF.out _ HC3.out).mono ?_
          rintro e w3 ⟨rfl, h4, hu4⟩
          have HC4 := Lib.hid h4
          have HU4 := Lib.hid (HU3.out.trans hu4)
          clear h4 hu4 d0 d1
          go_wp2_with fail
          go_ret
          exact ⟨by rw [HE.out]; exact ⟨rfl, HC4.out⟩, HU4.out⟩
        | some p =>
          obtain ⟨q, k⟩ := p
          rw [ht] at hra
          have hm := tailRef_len ht
          have hq := isChar_ok (tailRef_char ht)
          rw [List.length_drop, HXL.out] at hm
          have hnx := HCO.out.ref hix hxc ht
          have HN := Lib.hid hnx
          have hel : (enc q).length ≤ 4 := (enc_len q hq).2
          have hcall : ∀ w, Calls Tryz.prog 113 #[.string (S (l.take tt)), .int .i64 i] w fun e w' => e = .returned (.tuple #[.int .i32 q, .int .i64 ((i + k + 2 : Nat) : Int), .int .i64 0]) ∧ Below w.heap.size w w' := fun w => by
            rw [HX.out]
            have := reference_any x i w (by rw [HXL.out]; omega)
            rw [hra] at this
            rw [show ((i + k + 2 : Nat) : Int) = (i : Int) + k + 2 by omega]
            exact this
          have HCL := Lib.hid hcall
          have HQ := Lib.hid hq
          obtain ⟨z, hz⟩ : ∃ z : Nat, i + k + 2 = z := ⟨_, rfl⟩
          rw [hz] at HCL HN
          have hz1 : i < z := by omega
          have hz2 : z ≤ tt := by omega
          clear hcall hra ht hxc hix hq hnx hz hm
          go_wp2_with fail
          go_quiet (fail)
          go_wp2_with fail
          have hcur2 := HCu.out.drewN nq
          have HBL2 := Lib.hid (HBL.out.upd (drewN_upd b wr nq) hbl)
          have HU2 := Lib.hid (HU.out.trans (drewN_upd b wr nq))
          generalize wr.drewN nq = W1 at *
          clear c0 c1 f1
          have c0 := hcur2.c0
          have c1 := hcur2.c1
          have HC2 := Lib.hid hcur2
          clear hcur2
          go_region_held3 (fun x => x.cell? ⟨b, 0, none⟩ = some (.string (S l)) ∧ x.cell? ⟨b, 1, none⟩ = some (.int .i64 i))
            (first | exact ⟨d0, d1⟩ | exact ⟨c0, c1⟩)
            ((go_at_call 113; refine (HCL.out _).mono ?_; rintro e w2 ⟨rfl, hb⟩; have hcur3 := HC2.out.drew.below hb; have d0 := hcur3.c0; have d1 := hcur3.c1))
          have HC3 := Lib.hid (HC2.out.drew.below hb)
          have HU3 := Lib.hid (HU2.out.drew.next hb)
          have HBL3 := Lib.hid (HBL2.out.drew.below hb)
          have hlen : o.length + 4 ≤ 140737488355328 := by omega
          clear hb hcur3 c0 c1 d0 d1
          have hs3 := HU3.out.size
          go_wp2_with fail
          refine (writeRune_any w.heap.size w.heap.size o q HQ.out _ HBL3.out hlen hs3).mono ?_
          rintro e w3 ⟨⟨kk, rfl⟩, hb3, hbel3, _⟩
          have HBL4 := Lib.hid hb3
          have hcur4 := HC3.out.keep (hbel3.block b hbl)
          have HU4 := Lib.hid (HU3.out.more hbel3)
          have d1 := hcur4.c1
          have g1 := hcur4.free 1
          have HC4 := Lib.hid hcur4
          clear hb3 hbel3 hcur4
          go_wp2_with fail
          go_roundg (tt - z)
          case measure => rw [HK.out]; omega
          case rel => exact ⟨o ++ enc q, z, by omega, by omega, rfl, by rw [List.length_append]; omega, HN.out, HBL4.out.upd (Upd.set_ b 1 _ _) hbl, HC4.out.move _, HU4.out.trans (Upd.set_ b 1 _ _)⟩
      · have t1 : ((l[i].toNat : Int) == 38) = false := byte_ne (k := 38) (fun e => hc (UInt8.toNat_inj.1 e))
        have hxc : x[i] ≠ 38 := by rw [HXI.out i hix hil]; exact hc
        have hrun := HCO.out.run (Nat.le_of_lt hix)
        have hK1 : i < ampEnd x i := by rw [ampEnd_yes hix hxc]; exact ampEnd_ge x (i + 1)
        have hK2 : ampEnd x i ≤ tt := by have := ampEnd_le (Nat.le_of_lt hix); rw [HXL.out] at this; exact this
        have hcutp : (Lib.cut (x.drop i) [38]).1 = (x.drop i).take (ampEnd x i - i) := by
          rw [cut_amp]; unfold ampEnd; congr 1; omega
        obtain ⟨K, hKe⟩ : ∃ K, ampEnd x i = K := ⟨_, rfl⟩
        rw [hKe] at hrun hK1 hK2 hcutp
        obtain ⟨pl, hpl⟩ : ∃ pl, (x.drop i).take (K - i) = pl := ⟨_, rfl⟩
        rw [hpl] at hrun hcutp
        have hplen : pl.length = K - i := by rw [← hpl, List.length_take, List.length_drop, HXL.out]; omega
        have hcut : ∀ w, MaxLen m w → ∃ z1 z2, Calls Tryz.prog 108 #[.string (S ((l.drop i).take (tt - i))), .string ⟨#[38]⟩] w fun e w' => e = .returned (.tuple #[.string (S pl), z1, z2]) ∧ Drawn w w' := fun w hw => by
          rw [← HXD.out i]
          have := Tryz.strings_Cut (S (x.drop i)) (S [38]) m w (by show (x.drop i).toArray.size < _; simp; have := HXL.out; omega) hw
          rw [S_data, S_data, hcutp] at this
          exact ⟨_, _, this⟩
        have hlin : ∀ w, MaxLen m w → Calls Tryz.prog 82 #[.string (S pl)] w fun e w' => e = .returned (.string (S (linesB pl))) ∧ Below w.heap.size w w' := fun w hw => lines_any pl m w hw (by omega)
        have hlnl := linesB_len pl
        have hrepl : ∀ h k c w, Rep w h 0 0 .nilIface (.slice (some ⟨k, 0, none⟩) 4 c) → RepS w k → k ≠ h → Calls Tryz.prog 116 #[.pointer (some ⟨h, 0, none⟩), .string (S (linesB pl))] w fun e w' => e = .returned (.string (S (blanks true (linesB pl)))) ∧ Upd h w w' := fun h k c w h1 h2 h3 => by
          have := replRep_any h k c (linesB pl) w h1 h2 h3 (by omega)
          rw [tabNl_blanks] at this
          exact this
        have hbll := blanks_len v (linesB pl)
        obtain ⟨D, hD⟩ : ∃ D, linesB pl = D := ⟨_, rfl⟩
        rw [hD] at hrun hlin hlnl hrepl hbll
        have hKi : K = i + pl.length := by omega
        have hil2 : i + pl.length ≤ tt := by omega
        have hpl0 : 0 < pl.length := by omega
        subst hKi
        have HCUT := Lib.hid hcut
        have HLIN := Lib.hid hlin
        have HREP := Lib.hid hrepl
        have HRUN := Lib.hid hrun
        have HBLL := Lib.hid hbll
        clear hc hxc hrun hKe hix hpl hplen hcut hlin hcutp hrepl hD hbll hK1 hK2
        have hit' : (i : Int) ≤ tt := by omega
        go_wp2_with fail
        go_quiet (fail)
        go_wp2_with fail
        have hcur2 := HCu.out.drewN nq
        have HBL2 := Lib.hid (HBL.out.upd (drewN_upd b wr nq) hbl)
        have HU2 := Lib.hid (HU.out.trans (drewN_upd b wr nq))
        generalize wr.drewN nq = W1 at *
        clear c0 c1 f1
        have c0 := hcur2.c0
        have c1 := hcur2.c1
        have HC2 := Lib.hid hcur2
        clear hcur2
        obtain ⟨z1, z2, hcut2⟩ := HCUT.out W1.drew (HM.out.upd HC.out HU2.out.drew)
        have HCU2 := Lib.hid hcut2
        clear hcut2
        go_region_held3 (fun x => x.cell? ⟨b, 0, none⟩ = some (.string (S l)) ∧ x.cell? ⟨b, 1, none⟩ = some (.int .i64 i))
          (first | exact ⟨d0, d1⟩ | exact ⟨c0, c1⟩)
          ((go_at_call 108; refine HCU2.out.mono ?_; rintro e W2 ⟨rfl, hdr⟩; have hcur3 := hdr.cur HC2.out.drew; have d0 := hcur3.c0; have d1 := hcur3.c1))
        have HC3 := Lib.hid hcur3
        have HU3 := Lib.hid (HU2.out.drew.trans (hdr.upd b))
        have HBL3 := Lib.hid (HBL2.out.drew.upd (hdr.upd b) hbl)
        clear hcur3 hdr c0 c1 d0 d1 HC2 HU2 HBL2 HCU2 HCUT
        have d1 := HC3.out.c1
        have g1 := HC3.out.free 1
        have HC4 := Lib.hid (HC3.out.move ((i : Int) + pl.length))
        have HU4 := Lib.hid (HU3.out.trans (Upd.set_ b 1 _ (.int .i64 ((i : Int) + pl.length))))
        have HBL4 := Lib.hid (HBL3.out.upd (Upd.set_ b 1 _ (.int .i64 ((i : Int) + pl.length))) hbl)
        have hlen : o.length + D.length ≤ 140737488355328 := by omega
        clear HC3 HU3 HBL3
        go_wp2_with fail
        generalize W2.setCell ⟨b, 1, none⟩ (.int .i64 ((i : Int) + pl.length)) = W3 at *
        clear d1 g1
        refine (HLIN.out W3 (HM.out.upd HC.out HU4.out)).mono ?_
        rintro e W4 ⟨rfl, hb⟩
        have HC5 := Lib.hid (HC4.out.below hb)
        have HU5 := Lib.hid (HU4.out.next hb)
        have HBL5 := Lib.hid (HBL4.out.below hb)
        have hs5 := HU5.out.size
        clear hb
        cases v
        · have hrun := HRUN.out
          rw [blanks_false] at hrun
          have HRU := Lib.hid hrun
          clear hrun
          go_wp2_with fail
          refine (writeString_any w.heap.size w.heap.size o D _ HBL5.out hlen hs5).mono ?_
          rintro e W5 ⟨rfl, hb5, hbel5, _⟩
          have HBL6 := Lib.hid hb5
          have HC6 := Lib.hid (HC5.out.keep (hbel5.block b hbl))
          have HU6 := Lib.hid (HU5.out.more hbel5)
          clear hb5 hbel5
          go_wp2_with fail
          go_roundg (tt - (i + pl.length))
          case measure => rw [HK.out]; omega
          case rel => exact ⟨o ++ D, i + pl.length, by omega, by omega, rfl, by rw [List.length_append]; omega, HRU.out, HBL6.out, by rw [Int.natCast_add]; exact HC6.out, HU6.out⟩
        · have hbll := HBLL.out
          obtain ⟨E, hE⟩ : ∃ E, blanks true D = E := ⟨_, rfl⟩
          have HREP2 := HREP.out
          have HRUN2 := HRUN.out
          rw [hE] at hbll HREP2 HRUN2
          have hlen2 : o.length + E.length ≤ 140737488355328 := by omega
          have hle3 : E.length ≤ pl.length := by omega
          have HREP3 := Lib.hid HREP2
          have HRUN3 := Lib.hid HRUN2
          clear HREP2 HRUN2 hE hbll
          go_wp2_with fail
          refine (newRepl_any W4.heap.size _ (heap_alloc_new W4 _)).mono ?_
          rintro e W5 ⟨h, k, c, rfl, hR, hS, hge, hne, hk, hk2, hb5⟩
          have hge2 : W4.heap.size ≤ h := by simp at hge; omega
          have HCR := Lib.hid (HREP3.out h k c _ hR hS hne)
          have hB1 := ((Below.refl W4.heap.size W4).alloc (Nat.le_refl _) _).trans (hb5.mono (by simp))
          have HB1 := Lib.hid hB1
          clear hR hS hge hk hk2 hb5 hB1
          go_wp2_with fail
          refine HCR.out.mono ?_
          rintro e W6 ⟨rfl, hu6⟩
          have HB2 := Lib.hid (HB1.out.trans (hu6.below hge2 HB1.out.size))
          have HC7 := Lib.hid (HC5.out.below HB2.out)
          have HU7 := Lib.hid (HU5.out.next HB2.out)
          have HBL7 := Lib.hid (HBL5.out.below HB2.out)
          have hs7 := HU7.out.size
          clear hu6
          go_wp2_with fail
          refine (writeString_any w.heap.size w.heap.size o E _ HBL7.out hlen2 hs7).mono ?_
          rintro e W8 ⟨rfl, hb5, hbel5, _⟩
          have HBL8 := Lib.hid hb5
          have HC8 := Lib.hid (HC7.out.keep (hbel5.block b hbl))
          have HU8 := Lib.hid (HU7.out.more hbel5)
          clear hb5 hbel5
          go_wp2_with fail
          go_roundg (tt - (i + pl.length))
          case measure => rw [HK.out]; omega
          case rel => exact ⟨o ++ E, i + pl.length, by omega, by omega, rfl, by rw [List.length_append]; omega, HRUN3.out, HBL8.out, by rw [Int.natCast_add]; exact HC8.out, HU8.out⟩
    · obtain rfl : i = tt := by omega
      have hcc := HCO.out
      rw [← HXL.out] at hcc
      have hend := hcc.end_
      have HE := Lib.hid hend
      have hs3 := hsz
      clear hcc hend
      go_wp2_with fail
      refine (builderString_any w.heap.size w.heap.size o _ HBL.out hs3).mono ?_
      rintro e w2 ⟨rfl, hb2, hbel2, _⟩
      have HC4 := Lib.hid (HCu.out.keep (hbel2.block b hbl))
      have HU4 := Lib.hid (HU.out.more hbel2)
      clear hb2 hbel2
      go_wp2_with fail
      go_ret
      exact ⟨by rw [HE.out]; exact ⟨rfl, HC4.out⟩, HU4.out⟩
end Go.Proofs.YtclhdppppgjgfaaGreatDoor
set_option linter.unusedVariables false
namespace Go.Proofs.YtclhdppppgjgfaaGreatDoor
open Go.RowKit

/-- What is asked of the type. -/
structure TokTy (T TS : TypeId) : Prop where
  info : (Tryz.prog.info? T).map (fun i => (i.zero, i.size, i.bytes)) = some (some (.agg #[.int .i64 0, .string ByteArray.empty, .slice none 0 0, .bool false, .string ByteArray.empty, .int .i64 0]), 6, 80)
  list : Tryz.prog.underlying TS = some (.slice T)
  row : ∃ d, Tryz.prog.underlying T = some d ∧ d.isRow = true

/-- The cells of a token; its attributes lie in blocks that satisfy p. -/
def TokP (w : World) (p : Nat → Prop) (t : Tok) (cs : List Value) : Prop :=
  ∃ va, cs = [.int .i64 t.kind, .string (S t.name), va, .bool t.empty, .string (S t.text), .int .i64 t.pos] ∧ AttsP w p va t.attrs
/-- Tokens one behind the other. -/
def ToksP (w : World) (p : Nat → Prop) (v : Value) (ts : List Tok) : Prop :=
  ∃ A cap, v = .slice A ts.length cap ∧ ts.length ≤ cap ∧ (ts = [] ∨ ∃ b, A = some ⟨b, 0, none⟩ ∧ p b ∧ ∀ (i : Nat) t, ts[i]? = some t → ∃ cs, TokP w p t cs ∧ w.rangeAt b (i * 6) cs)
/-- A slice of tokens that the call has built itself. -/
def TokRow (T : TypeId) (w : World) (base : Nat) (p : Nat → Prop) (v : Value) (ts : List Tok) : Prop :=
  ∃ css : List (List Value), css.length = ts.length ∧ (∀ (i : Nat) t cs, ts[i]? = some t → css[i]? = some cs → TokP w p t cs) ∧ w.ownsRow base T 6 v ts.length css.flatten

section
variable {w w' : World} {base B : Nat} {p p' : Nat → Prop} {v : Value} {T : TypeId}
theorem TokP.len {t : Tok} {cs : List Value} (h : TokP w p t cs) : cs.length = 6 := by
  obtain ⟨va, hcs, _⟩ := h; rw [hcs]; rfl
theorem TokP.one {t : Tok} {cs : List Value} (h : TokP w p t cs) : ∀ u ∈ cs, u.oneCell' = true := by
  obtain ⟨va, hcs, ⟨A, c, ha, _⟩⟩ := h
  subst hcs ha
  simp [Value.oneCell']
theorem TokP.keep {t : Tok} {cs : List Value} (h : TokP w p t cs) (hb : ∀ k, p k → w'.heap[k]? = w.heap[k]?) (hp : ∀ k, p k → p' k) : TokP w' p' t cs := by
  obtain ⟨va, hcs, ha⟩ := h
  exact ⟨va, hcs, ha.keep hb hp⟩
theorem TokP.open_ {t : Tok} {cs : List Value} (h : TokP w p t cs) : ∃ A c, cs = [.int .i64 t.kind, .string (S t.name), .slice A t.attrs.length c, .bool t.empty, .string (S t.text), .int .i64 t.pos] ∧ AttsP w p (.slice A t.attrs.length c) t.attrs ∧ t.attrs.length ≤ c := by
  obtain ⟨va, hcs, ha⟩ := h
  obtain ⟨A, c, rfl, hc⟩ := ha.slice
  exact ⟨A, c, hcs, ha, hc⟩
theorem ToksP.keep {ts : List Tok} (h : ToksP w p v ts) (hb : ∀ k, p k → w'.heap[k]? = w.heap[k]?) (hp : ∀ k, p k → p' k) : ToksP w' p' v ts := by
  obtain ⟨A, cap, hv, hc, h⟩ := h
  refine ⟨A, cap, hv, hc, h.imp id ?_⟩
  rintro ⟨b, hA, hpb, hr⟩
  refine ⟨b, hA, hp b hpb, fun i t hi => ?_⟩
  obtain ⟨cs, h1, h2⟩ := hr i t hi
  exact ⟨cs, h1.keep hb hp, rangeAt_keep h2 (hb b hpb)⟩
theorem ToksP.slice {ts : List Tok} (h : ToksP w p v ts) : ∃ A cap, v = .slice A ts.length cap ∧ ts.length ≤ cap := by
  obtain ⟨A, cap, hv, hc, _⟩ := h; exact ⟨A, cap, hv, hc⟩
theorem ToksP.nil (w : World) (p : Nat → Prop) : ToksP w p (.slice none 0 0) [] := ⟨none, 0, rfl, Nat.le_refl _, .inl rfl⟩
theorem ToksP.at_ {ts : List Tok} {A : Option Addr} {n cap i : Nat} (h : ToksP w p (.slice A n cap) ts) (hi : i < ts.length) :
    ∃ b cs, A = some ⟨b, 0, none⟩ ∧ p b ∧ w.rangeAt b (i * 6) cs ∧ TokP w p ts[i] cs := by
  obtain ⟨A', cap', hv, _, h⟩ := h
  cases hv
  rcases h with h | ⟨b, hA, hpb, hr⟩
  · subst h; simp at hi
  · obtain ⟨cs, h1, h2⟩ := hr i _ (List.getElem?_eq_getElem hi)
    exact ⟨b, cs, hA, hpb, h2, h1⟩
theorem TokRow.nil (T : TypeId) (w : World) (base : Nat) (p : Nat → Prop) : TokRow T w base p (.slice none 0 0) [] := ⟨[], rfl, by simp, World.ownsRow_nil w base _ _⟩
theorem TokRow.below {ts : List Tok} (h : TokRow T w base p v ts) (hb : Below w.heap.size w w') (hp : ∀ k, p k → k < w.heap.size) : TokRow T w' base p v ts := by
  obtain ⟨css, h1, h2, h3⟩ := h
  exact ⟨css, h1, fun i k cs hk hc => (h2 i k cs hk hc).keep (fun j hj => hb.block j (hp j hj)) (fun _ h => h), ownsRow_below h3 hb⟩
theorem TokRow.heap {ts : List Tok} (h : TokRow T w base p v ts) (hb : ∀ k, v.ownBlock = some k → w'.heap[k]? = w.heap[k]?) (hp : ∀ k, p k → w'.heap[k]? = w.heap[k]?) : TokRow T w' base p v ts := by
  obtain ⟨css, h1, h2, h3⟩ := h
  exact ⟨css, h1, fun i k cs hk hc => (h2 i k cs hk hc).keep hp (fun _ h => h), ownsRow_heap h3 hb⟩
theorem TokRow.more {ts : List Tok} (h : TokRow T w base p v ts) (hp : ∀ k, p k → p' k) : TokRow T w base p' v ts := by
  obtain ⟨css, h1, h2, h3⟩ := h
  exact ⟨css, h1, fun i k cs hk hc => (h2 i k cs hk hc).keep (fun _ _ => rfl) hp, h3⟩
theorem TokRow.lt {ts : List Tok} (h : TokRow T w base p v ts) : ∀ k, v.ownBlock = some k → base ≤ k ∧ k < w.heap.size := by
  obtain ⟨css, _, _, h3⟩ := h; exact h3.lt
theorem TokRow.slice {ts : List Tok} (h : TokRow T w base p v ts) : ∃ A cap, v = .slice A ts.length cap ∧ ts.length ≤ cap := by
  obtain ⟨css, _, _, h⟩ := h
  rcases h.2 with ⟨hv, hn⟩ | ⟨g, cap, cur, hv, _, _, hc, _⟩
  · exact ⟨none, 0, by rw [hv, hn], by omega⟩
  · exact ⟨_, cap, hv, hc⟩
theorem TokRow.toksP {ts : List Tok} (h : TokRow T w base p v ts) (hp : ∀ k, p k → p' k) (hr : ∀ k, v.ownBlock = some k → p' k) : ToksP w p' v ts := by
  obtain ⟨css, hl, hin, h⟩ := h
  rcases h.2 with ⟨hv, hn⟩ | ⟨g, cap, cur, hv, hg, hh, hc, _⟩
  · have : ts = [] := List.eq_nil_of_length_eq_zero hn
    subst this
    exact ⟨none, 0, hv, by simp, .inl rfl⟩
  · have hlen : ∀ cs ∈ css, cs.length = 6 := fun cs hcs => by
      obtain ⟨i, hi⟩ := List.getElem?_of_mem hcs
      have hik : i < ts.length := by rw [← hl]; exact (List.getElem?_eq_some_iff.1 hi).1
      exact (hin i _ cs (List.getElem?_eq_getElem hik) hi).len
    refine ⟨_, cap, hv, hc, .inr ⟨g, rfl, hr g (by rw [hv]; rfl), fun i k hi => ?_⟩⟩
    have hik : i < css.length := by rw [hl]; exact (List.getElem?_eq_some_iff.1 hi).1
    refine ⟨css[i], (hin i k _ hi (List.getElem?_eq_getElem hik)).keep (fun _ _ => rfl) hp, fun j u hu => ?_⟩
    have hj : j < 6 := by have := (List.getElem?_eq_some_iff.1 hu).1; rw [hlen _ (List.getElem_mem hik)] at this; exact this
    have hx := flat_at (c := 6) (css := css) hlen (i := i) (j := j) (List.getElem?_eq_getElem hik) hj
    have := h.cells (g := g) (by rw [hv]; rfl) (i * 6 + j) u (by rw [hx]; exact hu)
    rw [add_zero_block] at this
    exact this
end
/-- Appending a token. -/
theorem toks_append {T TS : TypeId} (hT : TokTy T TS) {ops : Array Oper} {rest : List Oper} {o : Oper} {a : Act} {Q : Exit → Act → World → Prop} (hgd : o.guard = none) (s x : Operand)
    (ho : o.op = .call { callee := .builtin .append, args := #[s, x], argTypes := #[TS, TS] })
    (w : World) (base : Nat) (p : Nat → Prop) (v : Value) (ts : List Tok) (hs : a.eval s = v) (h : TokRow T w base p v ts) (t : Tok) (cs : List Value) (H : Nat) (hH : w.heap.size = H) (hx : a.eval x = .slice (some ⟨H, 0, none⟩) 1 1) (ht : TokP w p t cs) (hB : ∀ j, p j → v.ownBlock ≠ some j) (hB2 : ∀ j, p j → j < w.heap.size) (hbase : base ≤ w.heap.size) (hlen : ts.length < 1000000000000)
    (hK : ∀ g cap w', (v.ownBlock = some g ∨ w.heap.size ≤ g) → g < w'.heap.size → TokRow T w' base p (.slice (some ⟨g, 0, none⟩) (ts.length + 1) cap) (ts ++ [t]) → Grew w v (.slice (some ⟨g, 0, none⟩) (ts.length + 1) cap) w' → Below base w w' → wpList Tryz.prog ops Q rest (a.put o.dst (.slice (some ⟨g, 0, none⟩) (ts.length + 1) cap)) w') :
    wpList Tryz.prog ops Q (o :: rest) a (w.alloc (.cells cs.toArray T)) := by
  subst hH
  obtain ⟨i0, hi0, hz0, hz1, hz2⟩ := info_parts hT.info
  obtain ⟨css, hl, hin, hown⟩ := h
  refine wpList_append_lies _ hgd s x TS ho base T i0 _ 6 80 hT.list hi0 hz0 hz1 hz2 rfl (by omega) v ts.length css.flatten hs (ownsRow_below hown ((Below.refl _ _).alloc (Nat.le_refl _) _)) ⟨w.heap.size, 0, none⟩ 1 1 cs hx (by rw [ht.len]) ?_ ht.one (by omega) (by unfold maxLen; omega) (by omega) (by simp; omega) _ rfl ?_
  · intro j u hu
    exact World.news_of_block (heap_alloc_new w (.cells cs.toArray T)) j u (by simpa using hu)
  · intro g cap w' h1 h2 hat hlt'
    have hlt := hown.lt
    have hgrew : Grew w v (.slice (some ⟨g, 0, none⟩) (ts.length + 1) cap) w' := ⟨⟨h2.os, h2.tape, h2.output, by have := h2.size; simp at this; omega, fun j hj hne => (h2.block j (by simp; omega) hne).trans (Below.heap_alloc w _ j hj)⟩, by have := h2.size; simp at this; omega⟩
    have hbelow : Below base w w' := ((Below.refl _ _).alloc hbase _).trans (row_grown h2 (by simp; omega) (fun k hk => by have := hlt k hk; simp; omega))
    have hkeep : ∀ (n : Tok) c, TokP w p n c → TokP w' p n c := fun n c hn => hn.keep (fun j hj => (h2.block j (by simp; have := hB2 j hj; omega) (fun e => hB j hj e.symm)).trans (Below.heap_alloc w _ j (hB2 j hj))) (fun _ h => h)
    refine hK g cap w' (hat.imp id (fun e => by rw [e]; simp)) hlt' ⟨css ++ [cs], by simp [hl], ?_, ?_⟩ hgrew hbelow
    · intro i k' cs' hk' hcs'
      by_cases hi : i < ts.length
      · rw [List.getElem?_append_left hi] at hk'
        rw [List.getElem?_append_left (by omega)] at hcs'
        exact hkeep _ _ (hin i k' cs' hk' hcs')
      · have hi2 : i = ts.length := by
          have := (List.getElem?_eq_some_iff.1 hk').1
          simp at this; omega
        subst hi2
        rw [List.getElem?_append_right (Nat.le_refl _)] at hk'
        rw [List.getElem?_append_right (by omega), hl] at hcs'
        simp at hk' hcs'
        subst hk' hcs'
        exact hkeep _ _ ht
    · rw [List.flatten_append, List.length_append]
      simpa using h1
theorem wp_load_tok {T TS : TypeId} (hT : TokTy T TS) {ops : Array Oper} {rest : List Oper} {o : Oper} {a : Act} {w : World} {Q : Exit → Act → World → Prop} (hgd : o.guard = none) (x : Operand) (ho : o.op = .load T x)
    (b off : Nat) (hx : a.eval x = .pointer (some ⟨b, off, none⟩)) (cs : List Value) (hl : cs.length = 6) (hr : w.rangeAt b off cs)
    (h : wpList Tryz.prog ops Q rest (a.put o.dst (.agg cs.toArray)) w) : wpList Tryz.prog ops Q (o :: rest) a w := by
  obtain ⟨d, hd, hrow⟩ := hT.row
  have hsz : (Tryz.prog.info? T).map (·.size) = some 6 := by
    have := hT.info
    cases hq : Tryz.prog.info? T with
    | none => simp [hq] at this
    | some i => simp [hq] at this ⊢; exact this.2.1
  exact wpList_load_mid hgd T x ho b off hx cs _ hr hd hrow (by rw [hl]; exact hsz) h
end Go.Proofs.YtclhdppppgjgfaaGreatDoor
