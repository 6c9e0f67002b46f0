/-
  Walks of chapter 2, what chapter 4 uses of it: the program's date of a day number, by cycles.
-/
import Derived.Test.YtooabnmmgmmklaaDoorCivP6
import Derived.LoopTactic
import Derived.Deep.DeepCutAuto
import Derived.Deep.QuietTactic
set_option linter.unusedVariables false
namespace Go.Proofs.YtooabnmmgmmklaaDoor
open Go.RowKit

/-- What is left, and the year, ahead of a round of the program's loop. -/
def dateL (l a b c d : Int) : Nat → Int
  | 0 => l
  | 1 => l - 146097 * a
  | 2 => l - 146097 * a - 36524 * b
  | 3 => l - 146097 * a - 36524 * b - 1461 * c
  | _ => l - 146097 * a - 36524 * b - 1461 * c - 365 * d
def dateY (a b c d : Int) : Nat → Int
  | 0 => 1
  | 1 => 1 + 400 * a
  | 2 => 1 + 400 * a + 100 * b
  | 3 => 1 + 400 * a + 100 * b + 4 * c
  | _ => 1 + 400 * a + 100 * b + 4 * c + d
theorem cell_block {w : World} {b : Nat} {cs : Array Value} {t : TypeId} {fr : Nat × Nat} (h : w.heap[b]? = some (.cells cs t fr)) (i : Nat) : w.cell? ⟨b, i, none⟩ = cs[i]? := by rw [Lib.cell_of_heap h]
theorem _root_.Go.RowKit.Below.drewN4 {B : Nat} {a w : World} (h : Below B a w) (n : Nat) : Below B a (w.drewN n) := by
  induction n with
  | zero => exact h
  | succ n ih => exact ih.drew
theorem min_if {x k : Int} : min x k = if k < x then k else x := by
  by_cases h : k < x
  · rw [if_pos h, Int.min_eq_right (by omega)]
  · rw [if_neg h, Int.min_eq_left (by omega)]
theorem wrap_in {x : Int} (h0 : -9223372036854775808 ≤ x) (h1 : x ≤ 9223372036854775807) : IntKind.i64.wrap x = x := IntWalk.i64_in _ ⟨h0, h1⟩
set_option maxHeartbeats 8000000 in
theorem date_any (days y m d : Int) (hd : isDate y m d = true) (he : dayNo y m d = days) (w : World) :
    Calls Tryd.prog 48 #[.int .i64 days] w fun e w' => e = .returned (.tuple #[.int .i64 y, .int .i64 m, .int .i64 d, .int .i64 0]) ∧ Below w.heap.size w w' := by
  have hi := daysIn_any
  have HI := Lib.hid hi
  clear hi
  have hb := dayNo_in hd
  obtain ⟨b1, b2⟩ := hb
  rw [he] at b1 b2
  obtain ⟨l, hl⟩ : ∃ l, days + 719162 = l := ⟨_, rfl⟩
  have l0 : 0 ≤ l := by omega
  have l1 : l ≤ 3652058 := by omega
  obtain ⟨a, ea⟩ : ∃ a, cyc l 146097 25 = a := ⟨_, rfl⟩
  obtain ⟨b, eb⟩ : ∃ b, cyc (l - 146097 * a) 36524 3 = b := ⟨_, rfl⟩
  obtain ⟨c, ec⟩ : ∃ c, cyc (l - 146097 * a - 36524 * b) 1461 24 = c := ⟨_, rfl⟩
  obtain ⟨z, ez⟩ : ∃ z, cyc (l - 146097 * a - 36524 * b - 1461 * c) 365 3 = z := ⟨_, rfl⟩
  have hc := year_cycles l0 l1 ea eb ec ez
  have ca := cyc_le (l := l) (n := 146097) (k := 25) (by decide) (by decide) l0
  rw [ea] at ca
  have cb := cyc_le (l := l - 146097 * a) (n := 36524) (k := 3) (by decide) (by decide) (by omega)
  rw [eb] at cb
  have cc := cyc_le (l := l - 146097 * a - 36524 * b) (n := 1461) (k := 24) (by decide) (by decide) (by omega)
  rw [ec] at cc
  have cz := cyc_le (l := l - 146097 * a - 36524 * b - 1461 * c) (n := 365) (k := 3) (by decide) (by decide) (by omega)
  rw [ez] at cz
  have HC := Lib.hid hc
  have HA := Lib.hid ea
  have HB := Lib.hid eb
  have HCC := Lib.hid ec
  have HZ := Lib.hid ez
  have CA := Lib.hid ca
  have CB := Lib.hid cb
  have CC := Lib.hid cc
  have CZ := Lib.hid cz
  have HD := Lib.hid hd
  have HE := Lib.hid he
  have HL := Lib.hid hl
  clear hc ea eb ec ez ca cb cc cz hd he hl
  go_enter Tryd.func48, Tryd.ntmps48
  go_wp2_with fail
  generalize hW1 : w.alloc (Obj.cells #[Value.int IntKind.i64 146097, Value.int IntKind.i64 400, Value.int IntKind.i64 25, Value.int IntKind.i64 36524, Value.int IntKind.i64 100, Value.int IntKind.i64 3, Value.int IntKind.i64 1461, Value.int IntKind.i64 4, Value.int IntKind.i64 24, Value.int IntKind.i64 365, Value.int IntKind.i64 1, Value.int IntKind.i64 3] 96) = W1
  have hh : W1.heap[w.heap.size]? = some (Obj.cells #[Value.int IntKind.i64 146097, Value.int IntKind.i64 400, Value.int IntKind.i64 25, Value.int IntKind.i64 36524, Value.int IntKind.i64 100, Value.int IntKind.i64 3, Value.int IntKind.i64 1461, Value.int IntKind.i64 4, Value.int IntKind.i64 24, Value.int IntKind.i64 365, Value.int IntKind.i64 1, Value.int IntKind.i64 3] 96) := by rw [← hW1]; exact heap_alloc_new w _
  have hbw : Below w.heap.size w W1 := by rw [← hW1]; exact (Below.refl _ _).alloc (Nat.le_refl _) _
  have hsz : w.heap.size < W1.heap.size := by rw [← hW1]; exact (Array.getElem?_eq_some_iff.1 (heap_alloc_new w _)).1
  have HBW := Lib.hid hbw
  have HH := Lib.hid hh
  have HS := Lib.hid hsz
  clear hW1 hh hbw hsz
  go_loopw [6, 7, 9, 10, 11, 26] (fun s6 s7 _ _ _ s26 wr => ∃ k : Nat, k ≤ 4 ∧ s26 = .int .i64 (k : Int) ∧ s6 = .int .i64 (dateL l a b c z k) ∧ s7 = .int .i64 (dateY a b c z k) ∧ Below W1.heap.size W1 wr) (fun _ _ _ _ _ s26 _ => (4 - intOf s26).toNat)
  case atStart => exact ⟨0, by omega, rfl, valI (by show days + 719162 = l; exact HL.out), rfl, Below.refl _ _⟩
  case round =>
    obtain ⟨k, hk, rfl, rfl, rfl, hb⟩ := hrel
    have hcell : ∀ i, wr.cell? ⟨w.heap.size, i, none⟩ = (#[Value.int IntKind.i64 146097, Value.int IntKind.i64 400, Value.int IntKind.i64 25, Value.int IntKind.i64 36524, Value.int IntKind.i64 100, Value.int IntKind.i64 3, Value.int IntKind.i64 1461, Value.int IntKind.i64 4, Value.int IntKind.i64 24, Value.int IntKind.i64 365, Value.int IntKind.i64 1, Value.int IntKind.i64 3] : Array Value)[i]? := fun i => by rw [hb.cell HS.out, cell_block HH.out]
    have HB0 := Lib.hid hb
    have HCELL := Lib.hid hcell
    clear hb hcell
    obtain rfl | rfl | rfl | rfl | rfl : k = 0 ∨ k = 1 ∨ k = 2 ∨ k = 3 ∨ k = 4 := by omega
    · have f0 : wr.cell? ⟨w.heap.size, 0, none⟩ = some (Value.int IntKind.i64 146097) := HCELL.out 0
      have f1 : wr.cell? ⟨w.heap.size, 1, none⟩ = some (Value.int IntKind.i64 400) := HCELL.out 1
      have f2 : wr.cell? ⟨w.heap.size, 2, none⟩ = some (Value.int IntKind.i64 25) := HCELL.out 2
      have tn : dateL l a b c z 1 = dateL l a b c z 0 - 146097 * a := rfl
      have yn : dateY a b c z 1 = dateY a b c z 0 + 400 * a := by first | rfl | (simp only [dateY]; omega)
      have tb : 0 ≤ dateL l a b c z 0 ∧ dateL l a b c z 0 ≤ 3652058 := by
        have := CA.out; have := CB.out; have := CC.out; have := CZ.out
        simp only [dateL]; omega
      have yb : 1 ≤ dateY a b c z 0 ∧ dateY a b c z 0 ≤ 20000 := by
        have := CA.out; have := CB.out; have := CC.out; have := CZ.out
        simp only [dateY]; omega
      have hm0 : (if 25 < dateL l a b c z 0 / 146097 then 25 else dateL l a b c z 0 / 146097) = a := by rw [← min_if]; exact HA.out
      have vb : 0 ≤ a ∧ a ≤ 25 := ⟨CA.out.1, CA.out.2.1⟩
      have hq : IntKind.i64.wrap ((dateL l a b c z 0).tdiv 146097) = dateL l a b c z 0 / 146097 := by rw [tdiv_pos tb.1]; exact wrap_in (by omega) (by omega)
      have TN := Lib.hid tn
      have YN := Lib.hid yn
      clear tn yn
      generalize dateL l a b c z 0 = t at *
      generalize dateY a b c z 0 = u at *
      generalize t / 146097 = q at *
      have tv : 146097 * a ≤ t ∨ True := .inr trivial
      go_wp2_with fail
      go_quiet (fail)
      go_wp2_with fail
      exact ⟨⟨1, by omega, rfl, valI (by rw [TN.out]; omega), valI (by rw [YN.out]; omega), (HB0.out.alloc HB0.out.size _).drewN4 _⟩, by simp [intOf]⟩
    · have f0 : wr.cell? ⟨w.heap.size, 3, none⟩ = some (Value.int IntKind.i64 36524) := HCELL.out 3
      have f1 : wr.cell? ⟨w.heap.size, 4, none⟩ = some (Value.int IntKind.i64 100) := HCELL.out 4
      have f2 : wr.cell? ⟨w.heap.size, 5, none⟩ = some (Value.int IntKind.i64 3) := HCELL.out 5
      have tn : dateL l a b c z 2 = dateL l a b c z 1 - 36524 * b := rfl
      have yn : dateY a b c z 2 = dateY a b c z 1 + 100 * b := by first | rfl | (simp only [dateY]; omega)
      have tb : 0 ≤ dateL l a b c z 1 ∧ dateL l a b c z 1 ≤ 3652058 := by
        have := CA.out; have := CB.out; have := CC.out; have := CZ.out
        simp only [dateL]; omega
      have yb : 1 ≤ dateY a b c z 1 ∧ dateY a b c z 1 ≤ 20000 := by
        have := CA.out; have := CB.out; have := CC.out; have := CZ.out
        simp only [dateY]; omega
      have hm0 : (if 3 < dateL l a b c z 1 / 36524 then 3 else dateL l a b c z 1 / 36524) = b := by rw [← min_if]; exact HB.out
      have vb : 0 ≤ b ∧ b ≤ 3 := ⟨CB.out.1, CB.out.2.1⟩
      have hq : IntKind.i64.wrap ((dateL l a b c z 1).tdiv 36524) = dateL l a b c z 1 / 36524 := by rw [tdiv_pos tb.1]; exact wrap_in (by omega) (by omega)
      have TN := Lib.hid tn
      have YN := Lib.hid yn
      clear tn yn
      generalize dateL l a b c z 1 = t at *
      generalize dateY a b c z 1 = u at *
      generalize t / 36524 = q at *
      have tv : 36524 * b ≤ t ∨ True := .inr trivial
      go_wp2_with fail
      go_quiet (fail)
      go_wp2_with fail
      exact ⟨⟨2, by omega, rfl, valI (by rw [TN.out]; omega), valI (by rw [YN.out]; omega), (HB0.out.alloc HB0.out.size _).drewN4 _⟩, by simp [intOf]⟩
    · have f0 : wr.cell? ⟨w.heap.size, 6, none⟩ = some (Value.int IntKind.i64 1461) := HCELL.out 6
      have f1 : wr.cell? ⟨w.heap.size, 7, none⟩ = some (Value.int IntKind.i64 4) := HCELL.out 7
      have f2 : wr.cell? ⟨w.heap.size, 8, none⟩ = some (Value.int IntKind.i64 24) := HCELL.out 8
      have tn : dateL l a b c z 3 = dateL l a b c z 2 - 1461 * c := rfl
      have yn : dateY a b c z 3 = dateY a b c z 2 + 4 * c := by first | rfl | (simp only [dateY]; omega)
      have tb : 0 ≤ dateL l a b c z 2 ∧ dateL l a b c z 2 ≤ 3652058 := by
        have := CA.out; have := CB.out; have := CC.out; have := CZ.out
        simp only [dateL]; omega
      have yb : 1 ≤ dateY a b c z 2 ∧ dateY a b c z 2 ≤ 20000 := by
        have := CA.out; have := CB.out; have := CC.out; have := CZ.out
        simp only [dateY]; omega
      have hm0 : (if 24 < dateL l a b c z 2 / 1461 then 24 else dateL l a b c z 2 / 1461) = c := by rw [← min_if]; exact HCC.out
      have vb : 0 ≤ c ∧ c ≤ 24 := ⟨CC.out.1, CC.out.2.1⟩
      have hq : IntKind.i64.wrap ((dateL l a b c z 2).tdiv 1461) = dateL l a b c z 2 / 1461 := by rw [tdiv_pos tb.1]; exact wrap_in (by omega) (by omega)
      have TN := Lib.hid tn
      have YN := Lib.hid yn
      clear tn yn
      generalize dateL l a b c z 2 = t at *
      generalize dateY a b c z 2 = u at *
      generalize t / 1461 = q at *
      have tv : 1461 * c ≤ t ∨ True := .inr trivial
      go_wp2_with fail
      go_quiet (fail)
      go_wp2_with fail
      exact ⟨⟨3, by omega, rfl, valI (by rw [TN.out]; omega), valI (by rw [YN.out]; omega), (HB0.out.alloc HB0.out.size _).drewN4 _⟩, by simp [intOf]⟩
    · have f0 : wr.cell? ⟨w.heap.size, 9, none⟩ = some (Value.int IntKind.i64 365) := HCELL.out 9
      have f1 : wr.cell? ⟨w.heap.size, 10, none⟩ = some (Value.int IntKind.i64 1) := HCELL.out 10
      have f2 : wr.cell? ⟨w.heap.size, 11, none⟩ = some (Value.int IntKind.i64 3) := HCELL.out 11
      have tn : dateL l a b c z 4 = dateL l a b c z 3 - 365 * z := rfl
      have yn : dateY a b c z 4 = dateY a b c z 3 + 1 * z := by first | rfl | (simp only [dateY]; omega)
      have tb : 0 ≤ dateL l a b c z 3 ∧ dateL l a b c z 3 ≤ 3652058 := by
        have := CA.out; have := CB.out; have := CC.out; have := CZ.out
        simp only [dateL]; omega
      have yb : 1 ≤ dateY a b c z 3 ∧ dateY a b c z 3 ≤ 20000 := by
        have := CA.out; have := CB.out; have := CC.out; have := CZ.out
        simp only [dateY]; omega
      have hm0 : (if 3 < dateL l a b c z 3 / 365 then 3 else dateL l a b c z 3 / 365) = z := by rw [← min_if]; exact HZ.out
      have vb : 0 ≤ z ∧ z ≤ 3 := ⟨CZ.out.1, CZ.out.2.1⟩
      have hq : IntKind.i64.wrap ((dateL l a b c z 3).tdiv 365) = dateL l a b c z 3 / 365 := by rw [tdiv_pos tb.1]; exact wrap_in (by omega) (by omega)
      have TN := Lib.hid tn
      have YN := Lib.hid yn
      clear tn yn
      generalize dateL l a b c z 3 = t at *
      generalize dateY a b c z 3 = u at *
      generalize t / 365 = q at *
      have tv : 365 * z ≤ t ∨ True := .inr trivial
      go_wp2_with fail
      go_quiet (fail)
      go_wp2_with fail
      exact ⟨⟨4, by omega, rfl, valI (by rw [TN.out]; omega), valI (by rw [YN.out]; omega), (HB0.out.alloc HB0.out.size _).drewN4 _⟩, by simp [intOf]⟩
    · have hd := HD.out
      have he := HE.out
      obtain ⟨y1, y2, m1, m2, d1, d2⟩ := isDate_in hd
      have hdim := (isDate_iff.1 hd).2
      have hbef := bef_bound y1 y2
      have hn : dayNo y m d = bef y + mon y (m - 1).toNat + d - 1 - 719162 := rfl
      rw [he] at hn
      obtain ⟨j, hj⟩ : ∃ j : Nat, m = (j : Int) + 1 := ⟨(m - 1).toNat, by omega⟩
      subst hj
      have ej : ((j : Int) + 1 - 1).toNat = j := by omega
      rw [ej] at hn
      have hmj := mon_12 y1 y2 (show j ≤ 12 by omega)
      have hnx := mon_next y j
      have hyl : mon y (j + 1) ≤ ylen y := by rw [← mon_year y1 y2]; exact mon_mono (by omega)
      have hyl2 := ylen_pos y
      have hll := HL.out
      obtain ⟨c1, c2, c3, c4, c5⟩ := HC.out
      have ey : dateY a b c z 4 = y := year_unique c1 c2 y1 y2 (by show bef (1 + 400 * a + 100 * b + 4 * c + z) ≤ l; rw [c3]; omega) (by show l < bef (1 + 400 * a + 100 * b + 4 * c + z) + ylen (1 + 400 * a + 100 * b + 4 * c + z); rw [c3]; omega) (show bef y ≤ l by omega) (show l < bef y + ylen y by omega)
      have el : dateL l a b c z 4 = l - bef y := by
        have e2 : bef (1 + 400 * a + 100 * b + 4 * c + z) = bef y := congrArg bef ey
        show l - 146097 * a - 36524 * b - 1461 * c - 365 * z = _
        omega
      rw [ey, el]
      have k3 : mon y j ≤ l - bef y := by omega
      have k4 : l - bef y < mon y (j + 1) := by omega
      have k5 : l - bef y - mon y j + 1 = d := by omega
      have hlb : 0 ≤ l - bef y ∧ l - bef y ≤ 366 := ⟨by omega, by omega⟩
      have HM := Lib.hid (fun (k : Nat) (hk : k ≤ j) (hl : mon y k ≤ l - bef y) => month_step k3 k4 hk hl)
      have K5 := Lib.hid k5
      have HLB := Lib.hid hlb
      have HY1 := Lib.hid y1
      have HY2 := Lib.hid y2
      have HJ := Lib.hid (show j ≤ 11 by omega)
      clear hd he hdim hbef hn ej hmj hnx hyl hyl2 hll c1 c2 c3 c4 c5 ey el k3 k4 k5 hlb d1 d2 m1 m2 y1 y2
      rw [show ((4 : Nat) : Int) = 4 from rfl]
      go_wp2_with fail
      go_loopw [6, 12] (fun s6 s12 wx => ∃ k : Nat, k ≤ j ∧ mon y k ≤ l - bef y ∧ s12 = .int .i64 ((k : Int) + 1) ∧ s6 = .int .i64 (l - bef y - mon y k) ∧ Below W1.heap.size W1 wx) (fun _ s12 _ => ((j : Int) + 1 - intOf s12).toNat)
      case atStart => exact ⟨0, Nat.zero_le _, by have := HLB.out; rw [mon]; omega, rfl, valI (by rw [mon]; omega), HB0.out⟩
      case round =>
        obtain ⟨k, k1, k2, rfl, rfl, hbx⟩ := hrel
        have y1 := HY1.out
        have y2 := HY2.out
        have j11 := HJ.out
        have hlb := HLB.out
        have hmk := mon_12 y1 y2 (show k ≤ 12 by omega)
        have hdk := dimY_le y ((k : Int) + 1)
        have hms := HM.out k k1 k2
        have HMS := Lib.hid hms
        have HBX := Lib.hid hbx
        clear hms hbx
        go_wp2_with (go_at_call 70; refine (HI.out _ _ _).mono ?_; rintro e w2 ⟨rfl, rfl⟩)
        · have hs := HMS.out.1 (by assumption)
          go_roundw
          case rel => exact ⟨k + 1, hs.1, by rw [hs.2]; omega, valI (by omega), valI (by rw [hs.2]; omega), HBX.out⟩
          case measure => simp [intOf]; omega
        · have e2 : k = j := HMS.out.2 (by assumption)
          subst e2
          (try simp only [Exit.inBlock, Exit.then])
          refine bodyPost_ret (results_tmp4 rfl _ _ _) rfl ?_
          exact ⟨ret_4 rfl (by omega) K5.out, HBW.out.trans (HBX.out.mono HBW.out.size)⟩
end Go.Proofs.YtooabnmmgmmklaaDoor
