/-
  Walk of chapter 11's statement Numbers. Made by gen_law11e.py.
-/
import Derived.Test.YthlppbpccldikaaDoorH17
import Derived.Test.YthlppbpccldikaaDoorZDp11
import Derived.Test.YthlppbpccldikaaDoorH19
set_option linter.unusedVariables false
namespace Go.Proofs.YthlppbpccldikaaDoor
open Go.RowKit
/-- The value is a slice of bytes in memory. -/
def ByIn (w : World) (v : Value) (l : List Nat) : Prop :=
  ∃ A cap, v = .slice A l.length cap ∧ (l = [] ∨ ∃ b off, A = some ⟨b, off, none⟩ ∧ b < w.heap.size ∧ ∀ i (h : i < l.length), w.cell? ⟨b, off + i, none⟩ = some (.int .u8 (l[i] : Nat))) ∧ (∀ x ∈ l, x < 256) ∧ l.length ≤ 9223372036854775807
def digB (d : Nat) : UInt8 := UInt8.ofNat (48 + d % 10)
theorem digB_dg (d : Nat) : isDg (digB d) = true := (dig_dg (d % 10) (by omega)).1
theorem digs_take {l : List Nat} {i : Nat} (h : i < l.length) : (l.take (i + 1)).map digB = (l.take i).map digB ++ [digB l[i]] := by
  rw [List.take_succ_eq_append_getElem h, List.map_append, List.map_singleton]
theorem one_conv (W : World) (g z : Nat) (hz : z < 256) (h : W.cell? ⟨g, 0, none⟩ = some (.int .u8 z)) : (convert 34 9 (.slice (some ⟨g, 0, none⟩) 1 1)).run Tryd.prog W = .ok (.string (S [UInt8.ofNat z])) W := by
  refine run_bytes_string W ⟨g, 0, none⟩ [UInt8.ofNat z] 1 (fun j q hj => ?_)
  match j, hj with
  | 0, hj =>
    have hq : UInt8.ofNat z = q := by simpa using hj
    subst hq
    rw [add_zero_block, h]
    congr 2
    simp
    omega
set_option maxHeartbeats 8000000 in
set_option maxRecDepth 100000 in
theorem law11numbers_any (l : List Nat) (v0 : Value) (neg : Bool) (w : World) (hT : Tabs w) (hE : NumE w) (hv : ByIn w v0 l) :
    Calls Tryd.prog 4 #[v0, .bool neg] w fun e w' => e = .returned (.bool true) ∧ Below w.heap.size w w' := by
  obtain ⟨A, cap, rfl, hmem, h256, hmax⟩ := hv
  have hal := fun W => fun (hW : Below w.heap.size w W) => alive11_any W (hT.next hW) (hE.next hW)
  have HAL := Lib.hid hal
  by_cases h30 : 30 < l.length
  · have h30' : (30 : Int) < l.length := by omega
    clear hal hT hE hmem h256
    go_enter Tryd.func4, Tryd.ntmps4
    go_wp2_with (go_at_call 7; refine (HAL.out _ (Below.refl _ _)).mono ?_; rintro e w1 ⟨rfl, hb1⟩)
    go_ret
    exact ⟨rfl, hb1⟩
  have h30' : ¬ (30 : Int) < l.length := by omega
  have hlm : l.length ≤ 30 := by omega
  have HM := Lib.hid hmem
  have H256 := Lib.hid h256
  obtain ⟨T, hTT⟩ : ∃ T, (if neg = true then [45] else []) ++ l.map digB = T := ⟨_, rfl⟩
  have hpar := fun W => fun (hW : Below w.heap.size w W) => parse11_both T W (hT.next hW) (hE.next hW) (by rw [← hTT]; cases neg <;> (simp; omega))
  have hall : ∀ c ∈ T, isDg c = true ∨ c = 45 := by
    intro c hc
    rw [← hTT, List.mem_append, List.mem_map] at hc
    rcases hc with hc | ⟨d, _, rfl⟩
    · cases neg <;> simp at hc
      exact .inr hc
    · exact .inl (digB_dg d)
  have hnum := fun W => refNumber11_any T W (by rw [← hTT]; cases neg <;> (simp; omega))
  have hTl : T.length ≤ 31 := by rw [← hTT]; cases neg <;> (simp; omega)
  have HTT := Lib.hid hTT
  unfold BothJ at hpar
  unfold NumRes at hnum
  clear hal hT hE hmem h256
  by_cases hnil : T = []
  · rw [hnil, parse_nothing] at hpar
    dsimp only [valR, atRJ, erRJ] at hpar
    have HPA := Lib.hid hpar
    clear hpar hnum hall
    cases neg with
    | true => rw [hnil] at hTT; simp at hTT
    | false =>
      have hl0 : l = [] := by rw [hnil] at hTT; simpa using hTT
      subst hl0
      clear hTT
      go_enter Tryd.func4, Tryd.ntmps4
      go_wp2_with fail
      go_loopw [5, 20] (fun s5 i20 wr => s5 = .string (S []) ∧ i20 = .int .i64 0 ∧ wr = w) (fun _ i20 _ => 0)
      case atStart => exact ⟨rfl, rfl, rfl⟩
      case round =>
        obtain ⟨rfl, rfl, rfl⟩ := hrel
        have BB0 : Hid (Below wr.heap.size wr wr) := Lib.hid (Below.refl _ _)
        go_wp2_with fail
        refine (HPA.out _ BB0.out).mono ?_
        rintro e w2 ⟨⟨A1, q1, K1, d1, rfl, hv1⟩, hb2⟩
        have BB2 := Lib.hid (BB0.out.trans ((hb2.alloc hb2.size (valBox zJV A1 q1 K1 d1)).mono BB0.out.size))
        clear hv1 hb2
        go_wp2_with fail
        refine (HAL.out _ BB2.out).mono ?_
        rintro e w4 ⟨rfl, hb4⟩
        go_wp2_with fail
        go_ret
        exact ⟨by simp, BB2.out.trans (hb4.mono BB2.out.size)⟩
  cases hn : numJ T with
  | none =>
    rw [parse_digits hnil hall, hn] at hpar
    rw [hn] at hnum
    dsimp only [valR, atRJ, erRJ] at hpar
    have HPA := Lib.hid hpar
    have HNU := Lib.hid hnum
    have hne : (S T == S []) = false := by
      rw [S_beq, beq_eq_false_iff_ne]; exact hnil
    have hne3 : T.isEmpty = false := by
      cases T with
      | nil => exact absurd rfl hnil
      | cons => rfl
    have hne4 : (T == []) = false := by rw [beq_eq_false_iff_ne]; exact hnil
    clear hpar hnum hall hTT hn hnil
    cases neg with
    | false =>
      go_enter Tryd.func4, Tryd.ntmps4
      go_wp2_with fail
      go_loopw [5, 20] (fun s5 i20 wr => ∃ i : Nat, i ≤ l.length ∧ i20 = .int .i64 i ∧ s5 = .string (S ((l.take i).map digB)) ∧ Below w.heap.size w wr) (fun _ i20 _ => l.length - (intOf i20).toNat)
      case atStart => exact ⟨0, Nat.zero_le _, rfl, rfl, Below.refl _ _⟩
      case round =>
        obtain ⟨i, hi, rfl, rfl, hb⟩ := hrel
        have BB0 := Lib.hid hb
        clear hb
        rcases Nat.lt_or_ge i l.length with hlt | hge
        · have hlt' : (i : Int) < l.length := by omega
          have hnx := digs_take hlt
          have hd := H256.out _ (List.getElem_mem hlt)
          obtain ⟨b, off, rfl, hbl, hcs⟩ : ∃ b off, A = some ⟨b, off, none⟩ ∧ b < w.heap.size ∧ ∀ i (h : i < l.length), w.cell? ⟨b, off + i, none⟩ = some (.int .u8 (l[i] : Nat)) := by
            rcases HM.out with h | h
            · subst h; simp at hlt
            · exact h
          have hc1 : wr.cell? ⟨b, off + i, none⟩ = some (.int .u8 (l[i] : Nat)) := (BB0.out.cell (p := ⟨b, off + i, none⟩) hbl).trans (hcs i hlt)
          have hTl2 : ((l.take i).map digB).length ≤ 30 := by simp; omega
          have hnx2 : ∀ X : Bytes, (S ((l.take i).map digB) = S ((l.take i).map digB)) := fun _ => rfl
          generalize l[i] = d at *
          have z1 : IntKind.u8.wrap (48 + (d : Int).tmod 10) = ((48 + d % 10 : Nat) : Int) := by
            rw [IntKind.wrap_u8, Int.tmod_eq_emod_of_nonneg (by omega)]; omega
          have z2 : IntKind.u8.wrap (48 + (d : Int) % 10) = ((48 + d % 10 : Nat) : Int) := by
            rw [IntKind.wrap_u8]; omega
          have hcv := fun W g => one_conv W g (48 + d % 10) (by omega)
          have hdg : UInt8.ofNat (48 + d % 10) = digB d := rfl
          rw [hdg] at hcv
          have HNX := Lib.hid hnx
          clear hnx hd hcs hnx2 hdg
          generalize (l.take i).map digB = Y at *
          generalize digB d = q at *
          generalize 48 + d % 10 = z at *
          go_wp2_with fail
          go_roundw
          case rel => exact ⟨i + 1, by omega, by go_num, by rw [HNX.out], BB0.out.alloc BB0.out.size _⟩
          case measure => simp [intOf]; omega
        · obtain rfl : i = l.length := by omega
          have hne2 := hne
          have hTT2 := HTT.out
          rw [List.take_length]
          simp at hTT2
          rw [hTT2]
          clear hTT2 hne2
          go_wp2_with fail
          refine (HPA.out _ BB0.out).mono ?_
          rintro e w2 ⟨⟨A1, q1, K1, d1, rfl, hv1⟩, hb2⟩
          have BB2 := Lib.hid (BB0.out.trans ((hb2.alloc hb2.size (valBox zJV A1 q1 K1 d1)).mono BB0.out.size))
          clear hv1 hb2
          go_wp2_with fail
          refine (HNU.out _).mono ?_
          rintro e w3 ⟨⟨x, rfl, hx⟩, rfl⟩
          go_wp2_with fail
          refine (HAL.out _ BB2.out).mono ?_
          rintro e w4 ⟨rfl, hb4⟩
          go_wp2_with fail
          go_ret
          exact ⟨by simp, BB2.out.trans (hb4.mono BB2.out.size)⟩
    | true =>
      go_enter Tryd.func4, Tryd.ntmps4
      go_wp2_with fail
      go_loopw [5, 20] (fun s5 i20 wr => ∃ i : Nat, i ≤ l.length ∧ i20 = .int .i64 i ∧ s5 = .string (S (45 :: (l.take i).map digB)) ∧ Below w.heap.size w wr) (fun _ i20 _ => l.length - (intOf i20).toNat)
      case atStart => exact ⟨0, Nat.zero_le _, rfl, rfl, Below.refl _ _⟩
      case round =>
        obtain ⟨i, hi, rfl, rfl, hb⟩ := hrel
        have BB0 := Lib.hid hb
        clear hb
        rcases Nat.lt_or_ge i l.length with hlt | hge
        · have hlt' : (i : Int) < l.length := by omega
          have hnx := digs_take hlt
          have hd := H256.out _ (List.getElem_mem hlt)
          obtain ⟨b, off, rfl, hbl, hcs⟩ : ∃ b off, A = some ⟨b, off, none⟩ ∧ b < w.heap.size ∧ ∀ i (h : i < l.length), w.cell? ⟨b, off + i, none⟩ = some (.int .u8 (l[i] : Nat)) := by
            rcases HM.out with h | h
            · subst h; simp at hlt
            · exact h
          have hc1 : wr.cell? ⟨b, off + i, none⟩ = some (.int .u8 (l[i] : Nat)) := (BB0.out.cell (p := ⟨b, off + i, none⟩) hbl).trans (hcs i hlt)
          have hTl2 : ((l.take i).map digB).length ≤ 30 := by simp; omega
          have hnx2 : ∀ X : Bytes, (S (45 :: (l.take i).map digB) = S (45 :: (l.take i).map digB)) := fun _ => rfl
          generalize l[i] = d at *
          have z1 : IntKind.u8.wrap (48 + (d : Int).tmod 10) = ((48 + d % 10 : Nat) : Int) := by
            rw [IntKind.wrap_u8, Int.tmod_eq_emod_of_nonneg (by omega)]; omega
          have z2 : IntKind.u8.wrap (48 + (d : Int) % 10) = ((48 + d % 10 : Nat) : Int) := by
            rw [IntKind.wrap_u8]; omega
          have hcv := fun W g => one_conv W g (48 + d % 10) (by omega)
          have hdg : UInt8.ofNat (48 + d % 10) = digB d := rfl
          rw [hdg] at hcv
          have HNX := Lib.hid hnx
          clear hnx hd hcs hnx2 hdg
          generalize (l.take i).map digB = Y at *
          generalize digB d = q at *
          generalize 48 + d % 10 = z at *
          go_wp2_with fail
          go_roundw
          case rel => exact ⟨i + 1, by omega, by go_num, by rw [HNX.out], BB0.out.alloc BB0.out.size _⟩
          case measure => simp [intOf]; omega
        · obtain rfl : i = l.length := by omega
          have hne2 := hne
          have hTT2 := HTT.out
          rw [List.take_length]
          simp at hTT2
          rw [hTT2]
          clear hTT2 hne2
          go_wp2_with fail
          refine (HPA.out _ BB0.out).mono ?_
          rintro e w2 ⟨⟨A1, q1, K1, d1, rfl, hv1⟩, hb2⟩
          have BB2 := Lib.hid (BB0.out.trans ((hb2.alloc hb2.size (valBox zJV A1 q1 K1 d1)).mono BB0.out.size))
          clear hv1 hb2
          go_wp2_with fail
          refine (HNU.out _).mono ?_
          rintro e w3 ⟨⟨x, rfl, hx⟩, rfl⟩
          go_wp2_with fail
          refine (HAL.out _ BB2.out).mono ?_
          rintro e w4 ⟨rfl, hb4⟩
          go_wp2_with fail
          go_ret
          exact ⟨by simp, BB2.out.trans (hb4.mono BB2.out.size)⟩
  | some n =>
    rw [parse_digits hnil hall, hn] at hpar
    rw [hn] at hnum
    dsimp only [valR, atRJ, erRJ] at hpar
    have HPA := Lib.hid hpar
    have HNU := Lib.hid hnum
    have hne : (S T == S []) = false := by
      rw [S_beq, beq_eq_false_iff_ne]; exact hnil
    have hne3 : T.isEmpty = false := by
      cases T with
      | nil => exact absurd rfl hnil
      | cons => rfl
    have hne4 : (T == []) = false := by rw [beq_eq_false_iff_ne]; exact hnil
    clear hpar hnum hall hTT hn hnil
    cases neg with
    | false =>
      go_enter Tryd.func4, Tryd.ntmps4
      go_wp2_with fail
      go_loopw [5, 20] (fun s5 i20 wr => ∃ i : Nat, i ≤ l.length ∧ i20 = .int .i64 i ∧ s5 = .string (S ((l.take i).map digB)) ∧ Below w.heap.size w wr) (fun _ i20 _ => l.length - (intOf i20).toNat)
      case atStart => exact ⟨0, Nat.zero_le _, rfl, rfl, Below.refl _ _⟩
      case round =>
        obtain ⟨i, hi, rfl, rfl, hb⟩ := hrel
        have BB0 := Lib.hid hb
        clear hb
        rcases Nat.lt_or_ge i l.length with hlt | hge
        · have hlt' : (i : Int) < l.length := by omega
          have hnx := digs_take hlt
          have hd := H256.out _ (List.getElem_mem hlt)
          obtain ⟨b, off, rfl, hbl, hcs⟩ : ∃ b off, A = some ⟨b, off, none⟩ ∧ b < w.heap.size ∧ ∀ i (h : i < l.length), w.cell? ⟨b, off + i, none⟩ = some (.int .u8 (l[i] : Nat)) := by
            rcases HM.out with h | h
            · subst h; simp at hlt
            · exact h
          have hc1 : wr.cell? ⟨b, off + i, none⟩ = some (.int .u8 (l[i] : Nat)) := (BB0.out.cell (p := ⟨b, off + i, none⟩) hbl).trans (hcs i hlt)
          have hTl2 : ((l.take i).map digB).length ≤ 30 := by simp; omega
          have hnx2 : ∀ X : Bytes, (S ((l.take i).map digB) = S ((l.take i).map digB)) := fun _ => rfl
          generalize l[i] = d at *
          have z1 : IntKind.u8.wrap (48 + (d : Int).tmod 10) = ((48 + d % 10 : Nat) : Int) := by
            rw [IntKind.wrap_u8, Int.tmod_eq_emod_of_nonneg (by omega)]; omega
          have z2 : IntKind.u8.wrap (48 + (d : Int) % 10) = ((48 + d % 10 : Nat) : Int) := by
            rw [IntKind.wrap_u8]; omega
          have hcv := fun W g => one_conv W g (48 + d % 10) (by omega)
          have hdg : UInt8.ofNat (48 + d % 10) = digB d := rfl
          rw [hdg] at hcv
          have HNX := Lib.hid hnx
          clear hnx hd hcs hnx2 hdg
          generalize (l.take i).map digB = Y at *
          generalize digB d = q at *
          generalize 48 + d % 10 = z at *
          go_wp2_with fail
          go_roundw
          case rel => exact ⟨i + 1, by omega, by go_num, by rw [HNX.out], BB0.out.alloc BB0.out.size _⟩
          case measure => simp [intOf]; omega
        · obtain rfl : i = l.length := by omega
          have hne2 := hne
          have hTT2 := HTT.out
          rw [List.take_length]
          simp at hTT2
          rw [hTT2]
          clear hTT2 hne2
          go_wp2_with fail
          refine (HPA.out _ BB0.out).mono ?_
          rintro e w2 ⟨⟨A1, q1, K1, d1, rfl, hv1⟩, hb2⟩
          have BB2 := Lib.hid (BB0.out.trans ((hb2.alloc hb2.size (valBox (.mk 2 false n [] [] [] 0) A1 q1 K1 d1)).mono BB0.out.size))
          have N2 := Lib.hid (Jbx.new (n := .mk 2 false n [] [] [] 0) hv1)
          clear hv1 hb2
          go_wp2_with fail
          refine (HNU.out _).mono ?_
          rintro e w3 ⟨⟨x, rfl, hx⟩, rfl⟩
          obtain rfl := hx _ rfl
          go_wp2_with fail
          refine (HAL.out _ BB2.out).mono ?_
          rintro e w4 ⟨rfl, hb4⟩
          have N4 := Lib.hid (N2.out.keep hb4)
          obtain ⟨x0, x1, x2, x3, x4, x5, x6⟩ := N4.out.cells
          go_wp2_with fail
          go_ret
          exact ⟨by simp [JV.n], BB2.out.trans (hb4.mono BB2.out.size)⟩
    | true =>
      go_enter Tryd.func4, Tryd.ntmps4
      go_wp2_with fail
      go_loopw [5, 20] (fun s5 i20 wr => ∃ i : Nat, i ≤ l.length ∧ i20 = .int .i64 i ∧ s5 = .string (S (45 :: (l.take i).map digB)) ∧ Below w.heap.size w wr) (fun _ i20 _ => l.length - (intOf i20).toNat)
      case atStart => exact ⟨0, Nat.zero_le _, rfl, rfl, Below.refl _ _⟩
      case round =>
        obtain ⟨i, hi, rfl, rfl, hb⟩ := hrel
        have BB0 := Lib.hid hb
        clear hb
        rcases Nat.lt_or_ge i l.length with hlt | hge
        · have hlt' : (i : Int) < l.length := by omega
          have hnx := digs_take hlt
          have hd := H256.out _ (List.getElem_mem hlt)
          obtain ⟨b, off, rfl, hbl, hcs⟩ : ∃ b off, A = some ⟨b, off, none⟩ ∧ b < w.heap.size ∧ ∀ i (h : i < l.length), w.cell? ⟨b, off + i, none⟩ = some (.int .u8 (l[i] : Nat)) := by
            rcases HM.out with h | h
            · subst h; simp at hlt
            · exact h
          have hc1 : wr.cell? ⟨b, off + i, none⟩ = some (.int .u8 (l[i] : Nat)) := (BB0.out.cell (p := ⟨b, off + i, none⟩) hbl).trans (hcs i hlt)
          have hTl2 : ((l.take i).map digB).length ≤ 30 := by simp; omega
          have hnx2 : ∀ X : Bytes, (S (45 :: (l.take i).map digB) = S (45 :: (l.take i).map digB)) := fun _ => rfl
          generalize l[i] = d at *
          have z1 : IntKind.u8.wrap (48 + (d : Int).tmod 10) = ((48 + d % 10 : Nat) : Int) := by
            rw [IntKind.wrap_u8, Int.tmod_eq_emod_of_nonneg (by omega)]; omega
          have z2 : IntKind.u8.wrap (48 + (d : Int) % 10) = ((48 + d % 10 : Nat) : Int) := by
            rw [IntKind.wrap_u8]; omega
          have hcv := fun W g => one_conv W g (48 + d % 10) (by omega)
          have hdg : UInt8.ofNat (48 + d % 10) = digB d := rfl
          rw [hdg] at hcv
          have HNX := Lib.hid hnx
          clear hnx hd hcs hnx2 hdg
          generalize (l.take i).map digB = Y at *
          generalize digB d = q at *
          generalize 48 + d % 10 = z at *
          go_wp2_with fail
          go_roundw
          case rel => exact ⟨i + 1, by omega, by go_num, by rw [HNX.out], BB0.out.alloc BB0.out.size _⟩
          case measure => simp [intOf]; omega
        · obtain rfl : i = l.length := by omega
          have hne2 := hne
          have hTT2 := HTT.out
          rw [List.take_length]
          simp at hTT2
          rw [hTT2]
          clear hTT2 hne2
          go_wp2_with fail
          refine (HPA.out _ BB0.out).mono ?_
          rintro e w2 ⟨⟨A1, q1, K1, d1, rfl, hv1⟩, hb2⟩
          have BB2 := Lib.hid (BB0.out.trans ((hb2.alloc hb2.size (valBox (.mk 2 false n [] [] [] 0) A1 q1 K1 d1)).mono BB0.out.size))
          have N2 := Lib.hid (Jbx.new (n := .mk 2 false n [] [] [] 0) hv1)
          clear hv1 hb2
          go_wp2_with fail
          refine (HNU.out _).mono ?_
          rintro e w3 ⟨⟨x, rfl, hx⟩, rfl⟩
          obtain rfl := hx _ rfl
          go_wp2_with fail
          refine (HAL.out _ BB2.out).mono ?_
          rintro e w4 ⟨rfl, hb4⟩
          have N4 := Lib.hid (N2.out.keep hb4)
          obtain ⟨x0, x1, x2, x3, x4, x5, x6⟩ := N4.out.cells
          go_wp2_with fail
          go_ret
          exact ⟨by simp [JV.n], BB2.out.trans (hb4.mono BB2.out.size)⟩
end Go.Proofs.YthlppbpccldikaaDoor
