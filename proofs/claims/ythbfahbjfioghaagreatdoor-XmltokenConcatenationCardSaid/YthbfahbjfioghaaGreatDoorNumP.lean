/-
  Walk of chapter 5: the program's number.
-/
import Derived.Test.YthbfahbjfioghaaGreatDoorRefU
import Derived.Lib.OthersKept
import Derived.Lib.TrimU
import Derived.Deep.LoopGhost
set_option linter.unusedVariables false
namespace Go.Proofs.YthbfahbjfioghaaGreatDoor
open Go.RowKit

/-- What the program's number returns. -/
def numP (base : Nat) (l : Bytes) : Int × Bool := match valS base 0 l with | none => (0, false) | some v => (((min v 1114112 : Nat) : Int), !l.isEmpty && isChar (min v 1114112 : Nat))
theorem numP_bad {base : Nat} {l : Bytes} (hv : valS base 0 l = none) : numP base l = (0, false) := by
  unfold numP; rw [hv]
theorem numP_ok {base v : Nat} {l : Bytes} (hv : valS base 0 l = some v) : numP base l = (((min v 1114112 : Nat) : Int), !l.isEmpty && isChar (min v 1114112 : Nat)) := by
  unfold numP; rw [hv]
theorem numP_ref (base : Nat) (l : Bytes) : (if (numP base l).2 = true then some (numP base l).1.toNat else none) = numRef base l := by
  unfold numP numRef
  by_cases h : l = []
  · subst h; rfl
  · rw [if_neg h]
    cases hv : valS base 0 l with
    | none => rfl
    | some v =>
      have : l.isEmpty = false := by simpa using h
      simp only [Option.bind_some, isChar_cap, this, Bool.not_false, Bool.true_and]
      split
      · rename_i hc
        rw [isChar_iff] at hc
        rw [Nat.min_eq_left (by omega)]
        rfl
      · rfl
theorem decode_high (s : ByteArray) (i : Nat) (h : 128 ≤ (s.get! i).toNat) : 128 ≤ (Utf8.decode s i).1 := by
  unfold Utf8.decode
  simp only [Nat.add_zero, Utf8.runeError]
  rw [if_neg (by omega)]
  repeat' split
  all_goals first
    | (simp only; done)
    | (rename_i h1; simp only [Bool.and_eq_true, decide_eq_true_eq, ge_iff_le] at h1; omega)
    | (simp only; omega)
theorem ret_pair {k : IntKind} {a : Int} {b : Bool} {r : Int × Bool} (h : r = (a, b)) : Ending.returned (.tuple #[.int k a, .bool b]) = .returned (.tuple #[.int k r.1, .bool r.2]) := by rw [h]
theorem S_get! (l : Bytes) (i : Nat) (h : i < l.length) : (S l).get! i = l[i] := by
  simp [S, ByteArray.get!, h]

set_option maxHeartbeats 2000000 in
theorem number_any (base : Nat) (hbase : base = 10 ∨ base = 16) (l : Bytes) (w : World) (hl : l.length ≤ 4611686018427387904) :
    Calls Tryz.prog 123 #[.string (S l), .int .i32 base] w fun e w' => e = .returned (.tuple #[.int .i32 (numP base l).1, .bool (numP base l).2]) ∧ Below w.heap.size w w' := by
  obtain ⟨r, hr⟩ : ∃ r, numP base l = r := ⟨_, rfl⟩
  rw [hr]
  have HR := Lib.hid hr
  clear hr
  obtain ⟨b, hbb⟩ : ∃ b : Int, (base : Int) = b := ⟨_, rfl⟩
  rw [hbb]
  have hb2 : b = 10 ∨ b = 16 := by omega
  have HBB := Lib.hid hbb
  clear hbb hbase
  rcases hb2 with rfl | rfl
  all_goals
    go_enter Tryz.func123, Tryz.ntmps123
    go_wp2_with fail
    go_loopg [6] l.length (fun gf n6 wx => ∃ pos v : Nat, pos ≤ l.length ∧ l.length ≤ pos + gf ∧ n6 = .int .i32 (min v 1114112 : Nat) ∧ valS base 0 (l.take pos) = some v ∧ wx.heap[w.heap.size]? = some (.stringIter (S l) pos) ∧ Below w.heap.size w wx)
    case atStart => exact ⟨0, 0, Nat.zero_le _, by omega, rfl, rfl, World.iter_heap w _ 0, (Below.refl _ w).alloc (Nat.le_refl _) _⟩
    case round =>
      obtain ⟨pos, v, hpl, hgf, rfl, hv, hit, hbw⟩ := hrel
      have HV := Lib.hid hv
      have HB := Lib.hid hbw
      have HI := Lib.hid hit
      clear hv hbw hit
      obtain ⟨m, hm⟩ : ∃ m, min v 1114112 = m := ⟨_, rfl⟩
      have hm2 : m ≤ 1114112 := by omega
      have HM := Lib.hid hm
      rw [hm]
      clear hm
      by_cases hlt : pos < l.length
      · obtain ⟨g', rfl⟩ : ∃ g', gk = g' + 1 := ⟨gk - 1, by omega⟩
        by_cases hc : l[pos].toNat < 128
        · have hnx : ∀ ty, (Instr.next (.pointer (some ⟨w.heap.size, 0, none⟩)) true ty).run Tryz.prog wr = .ok (.tuple #[.bool true, .int .i64 pos, .int .i32 l[pos].toNat]) (wr.iterAt w.heap.size (S l) (pos + 1)) := fun ty => by
            have := Lib.run_next_ascii_at (P := Tryz.prog) wr w.heap.size (S l) pos ty HI.out (by rw [S_size]; exact hlt) (by rw [S_get]; exact hc)
            rw [S_get] at this
            exact this
          have hit2 := Lib.iterAt_heap wr w.heap.size (S l) pos (pos + 1) HI.out
          have hbw2 := Lib.below_iterAt HB.out (k := w.heap.size) (Nat.le_refl _) (S l) (pos + 1)
          obtain ⟨W, hWd⟩ : ∃ W, wr.iterAt w.heap.size (S l) (pos + 1) = W := ⟨_, rfl⟩
          rw [hWd] at hnx hit2 hbw2
          have HI2 := Lib.hid hit2
          have HB2 := Lib.hid hbw2
          clear hit2 hbw2 hWd
          obtain ⟨c, hcd⟩ : ∃ c : Nat, l[pos].toNat = c := ⟨_, rfl⟩
          rw [hcd] at hnx hc
          have HC := Lib.hid hcd
          clear hcd
          obtain ⟨d, hdd⟩ : ∃ d, hexd l[pos] = d := ⟨_, rfl⟩
          have hdx : (48 ≤ c ∧ c ≤ 57 → d + 48 = c) ∧ (97 ≤ c ∧ c ≤ 102 → d + 87 = c) ∧ (65 ≤ c ∧ c ≤ 70 → d + 55 = c) ∧ (¬ (48 ≤ c ∧ c ≤ 57) → ¬ (97 ≤ c ∧ c ≤ 102) → ¬ (65 ≤ c ∧ c ≤ 70) → d = 16) := by
            rw [← hdd, ← HC.out]
            unfold hexd
            refine ⟨?_, ?_, ?_, ?_⟩ <;> ((repeat' split) <;> omega)
          have HD := Lib.hid hdx
          have HE := Lib.hid hdd
          clear hdx hdd
          go_wp2_with fail
          all_goals first
            | (go_ret2
               exact ⟨ret_pair (HR.out.symm.trans (numP_bad (valS_bad hlt HV.out (by rw [HE.out]; have h1 := HD.out; have h2 := HBB.out; omega)))), HB2.out⟩)
            | (go_roundg g'
               case measure => omega
               case rel =>
                 refine ⟨pos + 1, v * base + d, by omega, by omega, val_int ?_, ?_, HI2.out, HB2.out⟩
                 · have hs := cap_step 1114112 base d v (by have := HBB.out; omega)
                   rw [HM.out] at hs
                   rw [← hs]
                   have h1 := HD.out
                   have h2 := HBB.out
                   have h3 : base = 10 ∨ base = 16 := by omega
                   clear hs
                   rcases h3 with e | e
                   all_goals
                     rw [e] at h2 ⊢
                     omega
                 · have hv2 := valS_step hlt HV.out (by rw [HE.out]; have h1 := HD.out; have h2 := HBB.out; omega)
                   rw [HE.out] at hv2
                   exact hv2)
        · have hge : 128 ≤ ((S l).get! pos).toNat := by rw [S_get! l pos hlt]; omega
          have hRh := decode_high (S l) pos hge
          have hRl := Lib.rune_le (S l) pos
          have hnx : ∀ ty, (Instr.next (.pointer (some ⟨w.heap.size, 0, none⟩)) true ty).run Tryz.prog wr = _ := fun ty => Lib.run_next_any_at wr w.heap.size (S l) pos ty HI.out (by rw [S_size]; exact hlt)
          have hbw2 := Lib.below_iterAt HB.out (k := w.heap.size) (Nat.le_refl _) (S l) (pos + (Utf8.decode (S l) pos).2)
          generalize (Utf8.decode (S l) pos).1 = R at *
          obtain ⟨W, hWd⟩ : ∃ W, wr.iterAt w.heap.size (S l) (pos + (Utf8.decode (S l) pos).2) = W := ⟨_, rfl⟩
          rw [hWd] at hnx hbw2
          have HB2 := Lib.hid hbw2
          have h16 : hexd l[pos] = 16 := by unfold hexd; rw [if_neg (by omega), if_neg (by omega), if_neg (by omega)]
          have HE := Lib.hid h16
          clear hbw2 hWd hge h16
          go_wp2_with fail
          go_ret2
          exact ⟨ret_pair (HR.out.symm.trans (numP_bad (valS_bad hlt HV.out (by rw [HE.out]; have h2 := HBB.out; omega)))), HB2.out⟩
      · have hnx : ∀ ty, (Instr.next (.pointer (some ⟨w.heap.size, 0, none⟩)) true ty).run Tryz.prog wr = _ := fun ty => Lib.run_next_end_at wr w.heap.size (S l) pos ty HI.out (by rw [S_size]; exact hlt)
        obtain rfl : pos = l.length := by omega
        have hfin := HV.out
        rw [List.take_length] at hfin
        have hok := HR.out.symm.trans (numP_ok hfin)
        rw [HM.out] at hok
        have HOK := Lib.hid hok
        clear hfin hok
        go_wp2_with (go_at_call 69; refine (isChar_any _ _).mono ?_; rintro e w' ⟨rfl, rfl⟩)
        all_goals
          go_ret2
          exact ⟨ret_pair (HOK.out.trans (by simp [*])), HB.out⟩
end Go.Proofs.YthbfahbjfioghaaGreatDoor
