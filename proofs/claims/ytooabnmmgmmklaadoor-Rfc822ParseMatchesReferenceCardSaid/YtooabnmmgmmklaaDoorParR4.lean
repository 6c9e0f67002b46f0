/-
  Walks of chapter 4: Parse (the reference).
-/
import Derived.Test.YtooabnmmgmmklaaDoorParP4
import Derived.Test.YtooabnmmgmmklaaDoorZonR4
import Derived.Test.YtooabnmmgmmklaaDoorFind4
import Derived.Test.YtooabnmmgmmklaaDoorPadR4
import Derived.Deep.DeepCutAuto
set_option linter.unusedVariables false
namespace Go.Proofs.YtooabnmmgmmklaaDoor
open Go.RowKit

theorem slice_tailc (b n c : Nat) (W : World) (h : 2 ≤ n) (hc : n ≤ c) : (Instr.slice 51 (.slice (some ⟨b, 0, none⟩) n c) (some (.int .i64 1)) none none).run Tryd.prog W = .ok (.slice (some ⟨b, 1, none⟩) (n - 1) (c - 1)) W := by
  have hsz : (Tryd.prog.info? 9).map (·.size) = some 1 := by kernel_rfl
  have hadd : (⟨b, 0, none⟩ : Addr).add 1 = ⟨b, 1, none⟩ := by unfold Addr.add; simp
  have h1 : (1 : Int) ≤ (n : Int) := by omega
  have h2 : (n : Int) ≤ (c : Int) := by omega
  have h3 : ¬ (c = 1) := by omega
  cases hq : Tryd.prog.info? 9 with
  | none => simp [hq] at hsz
  | some i =>
    have hi : i.size = 1 := by simpa [hq] using hsz
    simp [Instr.slice, run_underlying Tryd.underlying51, go_sem, Instr.sliceBounds, sizeOf, typeInfo, hq, hi, h3]
    intro h; omega
theorem slice_tailc1 (b c : Nat) (W : World) (hc : 1 ≤ c) : ∃ A, (Instr.slice 51 (.slice (some ⟨b, 0, none⟩) 1 c) (some (.int .i64 1)) none none).run Tryd.prog W = .ok (.slice A 0 (c - 1)) W := by
  have hsz : (Tryd.prog.info? 9).map (·.size) = some 1 := by kernel_rfl
  cases hq : Tryd.prog.info? 9 with
  | none => simp [hq] at hsz
  | some i =>
    have hi : i.size = 1 := by simpa [hq] using hsz
    by_cases h3 : c = 1
    · subst h3
      refine ⟨some ⟨b, 0, none⟩, ?_⟩
      simp [Instr.slice, run_underlying Tryd.underlying51, go_sem, Instr.sliceBounds, sizeOf, typeInfo, hq, hi]
    · have h2 : (1 : Int) ≤ (c : Int) := by omega
      have hadd : (⟨b, 0, none⟩ : Addr).add 1 = ⟨b, 1, none⟩ := by unfold Addr.add; simp
      refine ⟨some ⟨b, 1, none⟩, ?_⟩
      simp [Instr.slice, run_underlying Tryd.underlying51, go_sem, Instr.sliceBounds, sizeOf, typeInfo, hq, hi, h3]
theorem parseR_len {ws : List Bytes} (h : (if isDay (ws.headD []) = true then ws.drop 1 else ws).length ≠ 5) : parseR ws = (0, 20) := by
  unfold parseR
  generalize (if isDay (ws.headD []) = true then ws.drop 1 else ws) = v at *
  match v, h with
  | [], _ => rfl
  | [_], _ => rfl
  | [_, _], _ => rfl
  | [_, _, _], _ => rfl
  | [_, _, _, _], _ => rfl
  | [_, _, _, _, _], h => simp at h
  | _ :: _ :: _ :: _ :: _ :: _ :: _, _ => rfl
theorem parseR_five {ws : List Bytes} {d m y c z : Bytes} (h : (if isDay (ws.headD []) = true then ws.drop 1 else ws) = [d, m, y, c, z]) : parseR ws = words5R d m y c z := by
  unfold parseR
  rw [h]
theorem words5R_zn {d m y c z : Bytes} (h : zoneR z = none) : words5R d m y c z = (0, 20) := by
  unfold words5R
  rw [h]
theorem words5R_c {d m y c z : Bytes} (h : ¬ ((fullC c).length = 8 ∧ (fullC c).getD 2 0 = 58 ∧ (fullC c).getD 5 0 = 58)) : words5R d m y c z = (0, 20) := by
  unfold words5R
  have hc : clockR c = none := by unfold clockR; rw [if_neg h]
  rw [hc]
  cases zoneR z <;> rfl
theorem words5R_ok {d m y c z : Bytes} {zn : Int} {c0 c1 c3 c4 c6 c7 : UInt8} (h : zoneR z = some zn) (hc : fullC c = [c0, c1, 58, c3, c4, 58, c6, c7]) :
    words5R d m y c z = match secOf (yearR y) (monthOf m) (dayR d) (wholeR [c0, c1] 2) (wholeR [c3, c4] 2) (wholeR [c6, c7] 2) with
      | none => (0, 20)
      | some t => if t - 60 * zn < -62135596800 ∨ 253402300799 < t - 60 * zn then (0, 3) else (t - 60 * zn, 0) := by
  unfold words5R
  have hk : clockR c = some (wholeR [c0, c1] 2, wholeR [c3, c4] 2, wholeR [c6, c7] 2) := by unfold clockR; rw [hc]; exact if_pos ⟨rfl, rfl, rfl⟩
  rw [h, hk]
  rfl
theorem zoneR_bound {s : Bytes} {z : Int} (h : zoneR s = some z) : -1500 ≤ z ∧ z ≤ 1500 := zoneOf_bound (by rw [← zone_ref]; exact h)
theorem list8 {l : Bytes} (h : l.length = 8) : ∃ a b c d e f g i, l = [a, b, c, d, e, f, g, i] := by
  match l, h with
  | [a, b, c, d, e, f, g, i], _ => exact ⟨a, b, c, d, e, f, g, i, rfl⟩
theorem list4 {l : Bytes} (h : l.length = 4) : ∃ a b c d, l = [a, b, c, d] := by
  match l, h with
  | [a, b, c, d], _ => exact ⟨a, b, c, d, rfl⟩
theorem row_cell {w : World} {base n c : Nat} {A : Option Addr} {l : List Bytes} (h : ElRow strE w base (fun _ => False) (.slice A n c) l) (hne : 1 ≤ l.length) : ∃ g, A = some ⟨g, 0, none⟩ ∧ base ≤ g ∧ g < w.heap.size ∧ ∀ i x, l[i]? = some x → w.cell? ⟨g, i, none⟩ = some (.string (S x)) := by
  obtain ⟨g, hA, hb, hg⟩ := h.ptr hne
  subst hA
  refine ⟨g, rfl, hb, hg, fun i x hx => ?_⟩
  obtain ⟨hi, he⟩ := List.getElem?_eq_some_iff.1 hx
  obtain ⟨cs, hcs, hr⟩ := h.at_ strE_ok hi
  have hcs' : cs = [.string (S l[i])] := hcs
  subst hcs'
  have := hr 0 _ rfl
  rw [he] at this
  simpa using this
theorem daysFind_any (name : Bytes) (w : World) (hl : name.length ≤ 1000000) :
    Calls Tryd.prog 34 #[.string ⟨#[83, 117, 110, 77, 111, 110, 84, 117, 101, 87, 101, 100, 84, 104, 117, 70, 114, 105, 83, 97, 116]⟩, .string (S name)] w fun e w' => e = .returned (.int .i64 ((findR daysS name 7 0 : Nat) - 1 : Int)) ∧ Below w.heap.size w w' := refFind_any daysS name 7 rfl (by decide) w hl
theorem monsFind_any (name : Bytes) (w : World) (hl : name.length ≤ 1000000) :
    Calls Tryd.prog 34 #[.string ⟨#[74, 97, 110, 70, 101, 98, 77, 97, 114, 65, 112, 114, 77, 97, 121, 74, 117, 110, 74, 117, 108, 65, 117, 103, 83, 101, 112, 79, 99, 116, 78, 111, 118, 68, 101, 99]⟩, .string (S name)] w fun e w' => e = .returned (.int .i64 ((monthOf name : Nat) - 1 : Int)) ∧ Below w.heap.size w w' := by
  have := refFind_any monsS name 12 rfl (by decide) w hl
  rw [months_find] at this
  exact this
theorem whole1 (l : Bytes) (w : World) (hl : l.length ≤ 1000000) : Calls Tryd.prog 35 #[.string (S l), .int .i64 1] w fun e w' => e = .returned (.int .i64 (wholeR l 1)) ∧ w = w' := refWhole_any l 1 (by decide) w hl
theorem whole2 (l : Bytes) (w : World) (hl : l.length ≤ 1000000) : Calls Tryd.prog 35 #[.string (S l), .int .i64 2] w fun e w' => e = .returned (.int .i64 (wholeR l 2)) ∧ w = w' := refWhole_any l 2 (by decide) w hl
set_option maxHeartbeats 16000000 in
set_option maxRecDepth 100000 in
theorem refParse4_any (l : Bytes) (w : World) (hl : l.length ≤ 400000) :
    Calls Tryd.prog 13 #[.string (S l)] w fun e w' => e = .returned (.tuple #[.int .i64 (parse4 l).1, .int .i64 (parse4 l).2]) ∧ Below w.heap.size w w' := by
  obtain ⟨R, hR⟩ : ∃ R, parse4 l = R := ⟨_, rfl⟩
  rw [hR]
  unfold parse4 at hR
  rw [← parse_ref] at hR
  have hcol := refCollapse_any l w (by omega)
  have hcl := collapse_len l
  generalize collapse l = L at *
  have hsp := fun (W : World) => refWords_any L W (by omega)
  have hne := splitW_ne L
  have hpl := splitC_piece 32 L
  rw [← splitW_C] at hpl
  generalize splitW L = ws at *
  have HCOL := Lib.hid hcol
  have HSP := Lib.hid hsp
  have HR := Lib.hid hR
  have HPL := Lib.hid (fun x (hx : x ∈ ws) => Nat.le_trans (hpl x hx) (show L.length ≤ 1000000 by omega))
  clear hcol hsp hR hpl
  obtain ⟨x0, tl, rfl⟩ : ∃ x0 tl, ws = x0 :: tl := by
    cases ws with
    | nil => exact absurd rfl hne
    | cons a b => exact ⟨a, b, rfl⟩
  go_enter Tryd.func13, Tryd.ntmps13
  go_wp2_with (go_at_call 16; refine HCOL.out.mono ?_; rintro e w1 ⟨rfl, hb1⟩)
  refine (HSP.out w1).mono ?_
  rintro e w2 ⟨A, cp, rfl, hrow, hb2⟩
  obtain ⟨_, _, he, hcap⟩ := hrow.slice
  cases he
  obtain ⟨b, rfl, hbb, hlt2, hcells2⟩ := row_cell hrow (by simp)
  have HB02 := Lib.hid (hb1.trans (hb2.mono hb1.size))
  have hz1 := hb1.size
  have HC2 := Lib.hid hcells2
  have h0 := hcells2 0 x0 rfl
  have hx0l := HPL.out x0 (by simp)
  clear hb1 hb2 hrow HCOL HSP hcl hne hcells2
  obtain ⟨n, hn⟩ : ∃ n, (x0 :: tl).length = n := ⟨_, rfl⟩
  have hpos : (0 : Int) < (n : Int) := by rw [← hn]; simp only [List.length_cons]; omega
  rw [hn] at hcap ⊢
  have HN := Lib.hid hn
  have HCAP := Lib.hid hcap
  clear hn hcap
  have hday := isDay_ref x0
  obtain ⟨D, hD⟩ : ∃ D, isDay x0 = D := ⟨_, rfl⟩
  rw [hD] at hday
  have HD := Lib.hid hD
  clear hD
  have HDAY := Lib.hid hday
  clear hday
  go_upto_region 2 with fail
  go_cut [33] (fun s33 wx => s33 = .bool D ∧ Below w2.heap.size w2 wx)
  case first =>
    have hday := HDAY.out
    by_cases hx4 : x0.length = 4
    · obtain ⟨xa, xb, xc, xd, rfl⟩ := list4 hx4
      have e44 : xd = 44 ↔ xd.toNat = 44 := ⟨fun h => by rw [h]; rfl, fun h => UInt8.toNat_inj.1 (by rw [h]; rfl)⟩
      have hd3 : ([xa, xb, xc, xd] : Bytes).getD 3 0 = xd := rfl
      have htk : ([xa, xb, xc, xd] : Bytes).take 3 = [xa, xb, xc] := rfl
      rw [hd3, htk] at hday
      by_cases hcm : xd.toNat = 44
      · have t44 : ((xd.toNat : Int) == 44) = true := by rw [hcm]; rfl
        have hf := fun W => daysFind_any [xa, xb, xc] W (by simp)
        have hDF : D = decide (findR daysS [xa, xb, xc] 7 0 ≠ 0) := by
          rw [Bool.eq_iff_iff, hday, decide_eq_true_iff]
          exact ⟨fun h => h.2.2, fun h => ⟨rfl, e44.2 hcm, h⟩⟩
        generalize findR daysS [xa, xb, xc] 7 0 = F at *
        have HF := Lib.hid hf
        have HDF := Lib.hid hDF
        clear hf hDF hday e44 hd3 htk hcm HDAY HC2 HPL HN HR HD
        by_cases hF : F = 0
        · have hD2 := HDF.out
          rw [decide_eq_false (by omega)] at hD2
          subst hD2
          have hF' : ¬ (0 : Int) ≤ (F : Int) - 1 := by omega
          clear HDF hF
          go_wp2_with (go_at_call 34; refine (HF.out _).mono ?_; rintro e w4 ⟨rfl, hb4⟩)
          go_meet
          exact ⟨val_bool (decide_eq_false (by omega)), hb4⟩
        · have hD2 := HDF.out
          rw [decide_eq_true (by omega)] at hD2
          subst hD2
          have hF' : (0 : Int) ≤ (F : Int) - 1 := by omega
          clear HDF hF
          go_wp2_with (go_at_call 34; refine (HF.out _).mono ?_; rintro e w4 ⟨rfl, hb4⟩)
          go_meet
          exact ⟨val_bool (decide_eq_true (by omega)), hb4⟩
      · have t44 : ((xd.toNat : Int) == 44) = false := by rw [beq_eq_false_iff_ne]; omega
        have hD2 : D = false := by
          cases D with
          | false => rfl
          | true => exact absurd (e44.1 (hday.1 rfl).2.1) hcm
        subst hD2
        clear hday e44 hd3 htk hcm HDAY HC2 HPL HN HR HD
        go_wp2_with fail
        go_meet
        exact ⟨rfl, Below.refl _ _⟩
    · have hD2 : D = false := by
        cases D with
        | false => rfl
        | true => exact absurd (hday.1 rfl).1 hx4
      subst hD2
      have t4 : ((x0.length : Int) == 4) = false := by rw [beq_eq_false_iff_ne]; omega
      clear hday hx4 HDAY HC2 HPL HN HR HD
      go_wp2_with fail
      go_meet
      exact ⟨rfl, Below.refl _ _⟩
  case rest =>
    obtain ⟨rfl, hbc⟩ := hcut
    obtain ⟨w3, hw3⟩ : ∃ w3, w3 = wc := ⟨_, rfl⟩
    subst hw3
    obtain ⟨off, hoff⟩ : ∃ off, off = if D = true then 1 else 0 := ⟨_, rfl⟩
    have hpw : (if isDay ((x0 :: tl).headD []) = true then (x0 :: tl).drop 1 else (x0 :: tl)) = (x0 :: tl).drop off := by
      show (if isDay x0 = true then _ else _) = _
      rw [HD.out, hoff]
      cases D <;> rfl
    have hcells : ∀ i x, ((x0 :: tl).drop off)[i]? = some x → w3.cell? ⟨b, off + i, none⟩ = some (.string (S x)) := by
      intro i x hx
      rw [List.getElem?_drop] at hx
      exact (hbc.cell (p := ⟨b, off + i, none⟩) hlt2).trans (HC2.out _ x hx)
    have hsub : ∀ x ∈ (x0 :: tl).drop off, x.length ≤ 1000000 := fun x hx => HPL.out x (List.mem_of_mem_drop hx)
    have hdl : ((x0 :: tl).drop off).length = n - off := by rw [List.length_drop, HN.out]
    have hR := HR.out
    have hR5 := parseR_len (ws := x0 :: tl)
    rw [hpw] at hR5
    have hR2 := fun d m y c z => parseR_five (ws := x0 :: tl) (d := d) (m := m) (y := y) (c := c) (z := z)
    rw [hpw] at hR2
    rw [hR] at hR5
    simp only [hR] at hR2
    generalize (x0 :: tl).drop off = v at *
    have hlt3 := Nat.lt_of_lt_of_le hlt2 hbc.size
    have HB3 := Lib.hid (HB02.out.trans (hbc.mono HB02.out.size))
    have HR5 := Lib.hid hR5
    have HR2 := Lib.hid hR2
    have HCL := Lib.hid hcells
    have HSUB := Lib.hid hsub
    have HDL := Lib.hid hdl
    have hn1 : 1 ≤ n := by omega
    clear hR5 hR2 hcells hsub hdl hR HR hpw HPL HN HD hbc HC2 HB02 h0 HDAY hlt2
    go_upto_if 33 with fail
    go_cut [4] (fun s4 wx => ∃ A cc, s4 = .slice A (n - off) cc ∧ (2 ≤ n → A = some ⟨b, off, none⟩) ∧ n - off ≤ cc ∧ w3 = wx)
    case first =>
      have HOFF := Lib.hid hoff
      have hcp := HCAP.out
      cases D with
      | false =>
        have ho : off = 0 := HOFF.out
        clear hoff HOFF
        subst ho
        go_wp2_with fail
        go_meet
        exact ⟨_, _, rfl, fun _ => rfl, hcp, rfl⟩
      | true =>
        have ho : off = 1 := HOFF.out
        clear hoff HOFF
        subst ho
        by_cases hn2 : n = 1
        · subst hn2
          obtain ⟨A, hA⟩ := slice_tailc1 b cp w3 (by omega)
          go_wp2_with fail
          go_meet
          exact ⟨_, _, rfl, fun h => by omega, by omega, rfl⟩
        · have hst := slice_tailc b n cp w3 (by omega) hcp
          go_wp2_with fail
          go_meet
          exact ⟨_, _, rfl, fun h => rfl, by omega, rfl⟩
    case rest =>
      obtain ⟨A, cc, rfl, hA, hcc, hwx⟩ := hcut
      subst hwx
      have hoff2 : off ≤ 1 := by rw [hoff]; split <;> omega
      clear hoff
      by_cases h5 : v.length = 5
      case neg =>
        have hRR := HR5.out h5
        subst hRR
        have t5 : (((n - off : Nat) : Int) != 5) = true := by rw [bne_iff_ne]; have := HDL.out; omega
        clear HR5 HR2 h5
        go_wp2_with fail
        go_ret2
        exact ⟨rfl, HB3.out⟩
      case pos =>
        obtain ⟨d, m, y, c, z, rfl⟩ := list5g h5
        have hRR := HR2.out d m y c z rfl
        have hno : n - off = 5 := by have := HDL.out; simp only [List.length_cons, List.length_nil] at this; omega
        have hA2 := hA (by omega)
        subst hA2
        rw [hno] at hcc ⊢
        have HD1 := Lib.hid fun W => whole1 d W (HSUB.out d (by simp))
        have HD2 := Lib.hid fun W => whole2 d W (HSUB.out d (by simp))
        have HM := Lib.hid fun W => monsFind_any m W (HSUB.out m (by simp))
        have HY := Lib.hid fun W => refYear_any y W (HSUB.out y (by simp))
        have HZ := Lib.hid fun W => refZone_any z W (HSUB.out z (by simp))
        have hclen := HSUB.out c (by simp)
        have p0 := HCL.out 0 d rfl
        have p1 := HCL.out 1 m rfl
        have p2 := HCL.out 2 y rfl
        have p3 := HCL.out 3 c rfl
        have p4 := HCL.out 4 z rfl
        have HRR := Lib.hid hRR
        simp only [Nat.add_zero] at p0
        have HP1 := Lib.hid p1
        have HP2 := Lib.hid p2
        clear HR5 HR2 h5 HCL HSUB HDL hRR hA hno hn1 hpos HCAP p1 p2 hoff2
        go_upto_if 44 with (go_at_call 35; refine (HD1.out _).mono ?_; rintro e w2 ⟨rfl, rfl⟩)
        go_cut [5] (fun s5 wx => s5 = .int .i64 (dayR d) ∧ w3 = wx)
        case first =>
          have hdr : dayR d = if wholeR d 1 < 0 then wholeR d 2 else wholeR d 1 := rfl
          generalize dayR d = dr at *
          generalize wholeR d 1 = a1 at *
          generalize wholeR d 2 = a2 at *
          clear HM HY HZ HRR HP1 HP2 p3 p4 HD1
          by_cases ha : a1 < 0
          · rw [if_pos ha] at hdr
            subst hdr
            go_wp2_with (go_at_call 35; refine (HD2.out _).mono ?_; rintro e w4 ⟨rfl, rfl⟩)
            go_meet
            exact ⟨rfl, rfl⟩
          · rw [if_neg ha] at hdr
            subst hdr
            go_wp2_with fail
            go_meet
            exact ⟨rfl, rfl⟩
        case rest =>
          obtain ⟨rfl, hwx⟩ := hcut
          subst hwx
          clear HD1 HD2 p0
          go_upto_if 54 with fail
          go_cut [6] (fun s6 wx => s6 = .string (S (fullC c)) ∧ w3 = wx)
          case first =>
            have hfc : fullC c = if c.length = 5 then c ++ [58, 48, 48] else c := rfl
            generalize fullC c = C at *
            have hcat : ∀ W : World, (Op.stringOp .add (S c) ⟨#[58, 48, 48]⟩).run Tryd.prog W = .ok (.string (S (c ++ [58, 48, 48]))) W := catS4 c [58, 48, 48] _ rfl (by simp only [List.length_cons, List.length_nil]; omega)
            clear HM HY HZ HRR HP1 HP2 p3 p4
            by_cases h5 : c.length = 5
            · rw [if_pos h5] at hfc
              subst hfc
              have t5 : ((c.length : Int) == 5) = true := by rw [h5]; rfl
              go_wp2_with fail
              go_meet
              exact ⟨rfl, rfl⟩
            · rw [if_neg h5] at hfc
              subst hfc
              have t5 : ((C.length : Int) == 5) = false := by rw [beq_eq_false_iff_ne]; omega
              go_wp2_with fail
              go_meet
              exact ⟨rfl, rfl⟩
          case rest =>
            obtain ⟨rfl, hwx⟩ := hcut
            subst hwx
            have hCl : (fullC c).length ≤ 1000003 := by unfold fullC; split <;> (try simp only [List.length_append, List.length_cons, List.length_nil]) <;> omega
            have hwc := words5R_c (d := d) (m := m) (y := y) (c := c) (z := z)
            have hwk := fun zn c0 c1 c3 c4 c6 c7 => words5R_ok (d := d) (m := m) (y := y) (c := c) (z := z) (zn := zn) (c0 := c0) (c1 := c1) (c3 := c3) (c4 := c4) (c6 := c6) (c7 := c7)
            generalize fullC c = C at *
            have HWC := Lib.hid hwc
            have HWK := Lib.hid hwk
            clear hwc hwk p3
            go_upto_region 13 with (go_at_call 36; refine (HZ.out _).mono ?_; rintro e w5 ⟨rfl, hb5⟩)
            have q1 := (hb5.cell (p := ⟨b, off + 1, none⟩) hlt3).trans HP1.out
            have q2 := (hb5.cell (p := ⟨b, off + 2, none⟩) hlt3).trans HP2.out
            have HB5 := Lib.hid (HB3.out.trans (hb5.mono HB3.out.size))
            have hlt5 := Nat.lt_of_lt_of_le hlt3 hb5.size
            clear hb5 p4 HP1 HP2 HZ HB3 hlt3
            cases hz : zoneR z with
            | none =>
              have hq := HRR.out.trans (words5R_zn hz)
              subst hq
              clear HRR HWC HWK hz
              go_wp2_with fail
              go_ret2
              exact ⟨rfl, HB5.out⟩
            | some zn =>
              rw [show zV (some zn) = zn from rfl]
              have hzb := zoneR_bound hz
              by_cases h8 : C.length = 8
              · obtain ⟨c0, c1, c2, c3, c4, c5, c6, c7, rfl⟩ := list8 h8
                have e2 : c2 = 58 ↔ c2.toNat = 58 := ⟨fun h => by rw [h]; rfl, fun h => UInt8.toNat_inj.1 (by rw [h]; rfl)⟩
                have e5 : c5 = 58 ↔ c5.toNat = 58 := ⟨fun h => by rw [h]; rfl, fun h => UInt8.toNat_inj.1 (by rw [h]; rfl)⟩
                by_cases h2 : c2.toNat = 58
                · by_cases h5 : c5.toNat = 58
                  · have hc2 := e2.2 h2
                    have hc5 := e5.2 h5
                    subst hc2 hc5
                    have hq := HWK.out zn c0 c1 c3 c4 c6 c7 hz rfl
                    have HQ := Lib.hid (HRR.out.trans hq)
                    have W1 := Lib.hid fun W => whole2 [c0, c1] W (by simp)
                    have W2 := Lib.hid fun W => whole2 [c3, c4] W (by simp)
                    have W3 := Lib.hid fun W => whole2 [c6, c7] W (by simp)
                    obtain ⟨O, hO⟩ : ∃ O, secOf (yearR y) (monthOf m) (dayR d) (wholeR [c0, c1] 2) (wholeR [c3, c4] 2) (wholeR [c6, c7] 2) = O := ⟨_, rfl⟩
                    have hsc := fun W => refSeconds_any (yearR y) (monthOf m) (dayR d) (wholeR [c0, c1] 2) (wholeR [c3, c4] 2) (wholeR [c6, c7] 2) W
                    rw [hO] at hsc HQ
                    have HSC := Lib.hid hsc
                    have HSD : Hid (∀ W, Calls Tryd.prog 14 #[.int .i64 (yearR y), .int .i64 (IntKind.i64.wrap (monthOf m : Int)), .int .i64 (dayR d), .int .i64 (wholeR [c0, c1] 2), .int .i64 (wholeR [c3, c4] 2), .int .i64 (wholeR [c6, c7] 2)] W fun e w' => e = .returned (.tuple #[.int .i64 (secA O), .int .i64 (secE O)]) ∧ Below W.heap.size W w') := by
                      rw [wrap_in (x := (monthOf m : Int)) (by omega) (by have := monthOf_le m; omega)]; exact hsc
                    have HO := Lib.hid hO
                    obtain ⟨A, hA⟩ : ∃ A, secA O = A := ⟨_, rfl⟩
                    obtain ⟨E, hE⟩ : ∃ E, secE O = E := ⟨_, rfl⟩
                    rw [hA, hE] at HSC HSD
                    have HA := Lib.hid hA
                    have HE := Lib.hid hE
                    clear hq HWC HWK HRR e2 e5 h2 h5 h8 hCl hO hsc hA hE
                    go_wp2_with fail
                    go_region_held3 (fun x => x.cell? ⟨b, off + 1, none⟩ = some (.string (S m)) ∧ x.cell? ⟨b, off + 2, none⟩ = some (.string (S y))) (first | exact ⟨s1, s2⟩ | exact ⟨r1, r2⟩ | exact ⟨q1, q2⟩)
                      (first
                        | ((go_at_call 37; refine (HY.out _).mono ?_; rintro e w6 ⟨rfl, rfl⟩))
                        | ((go_at_call 34; refine (HM.out _).mono ?_; rintro e w6 ⟨rfl, hb6⟩; have r1 := (hb6.cell (p := ⟨b, off + 1, none⟩) (show b < w5.drew.heap.size by simp; omega)).trans q1; have r2 := (hb6.cell (p := ⟨b, off + 2, none⟩) (show b < w5.drew.heap.size by simp; omega)).trans q2))
                        | ((go_at_call 35; (with_reducible refine (W1.out _).mono ?_); rintro e w6 ⟨rfl, rfl⟩))
                        | ((go_at_call 35; (with_reducible refine (W2.out _).mono ?_); rintro e w6 ⟨rfl, rfl⟩))
                        | ((go_at_call 35; (with_reducible refine (W3.out _).mono ?_); rintro e w6 ⟨rfl, rfl⟩))
                        | ((go_at_call 14; (first | (with_reducible refine (HSC.out _).mono ?_) | (with_reducible refine (HSD.out _).mono ?_)); rintro e w7 ⟨rfl, hb7⟩; have s1 := (hb7.cell (p := ⟨b, off + 1, none⟩) (show b < w6.heap.size by have := hb6.size; simp at this; omega)).trans r1; have s2 := (hb7.cell (p := ⟨b, off + 2, none⟩) (show b < w6.heap.size by have := hb6.size; simp at this; omega)).trans r2)))
                    have HB7 := Lib.hid (HB5.out.trans (((show Below w5.heap.size w5 w6 from below_undrew hb6).trans (hb7.mono (show w5.heap.size ≤ w6.heap.size from hb6.size))).mono HB5.out.size))
                    clear s1 s2 r1 r2 q1 q2 hb6 hb7 hlt5 HM HY W1 W2 W3 HSC HSD hx0l hclen hcc
                    cases O with
                    | none =>
                      have hq := HQ.out
                      simp only [] at hq
                      subst hq
                      have ha : 0 = A := HA.out
                      have he : 3 = E := HE.out
                      subst ha he
                      clear HQ HA HE HO
                      go_wp2_with fail
                      go_ret2
                      exact ⟨rfl, HB7.out⟩
                    | some tt =>
                      have hq := HQ.out
                      simp only [] at hq
                      have ha : tt = A := HA.out
                      have he : 0 = E := HE.out
                      subst ha he
                      obtain ⟨s1, s2⟩ := secOf_bound HO.out
                      obtain ⟨z1, z2⟩ := hzb
                      have HQQ := Lib.hid hq
                      clear HQ HA HE HO hq hz
                      by_cases k1 : tt - 60 * zn < -62135596800
                      · have hq3 := HQQ.out
                        rw [if_pos (.inl k1)] at hq3
                        subst hq3
                        go_wp2_with fail
                        all_goals first | (exfalso; omega) | skip
                        all_goals go_ret2
                        all_goals exact ⟨rfl, HB7.out⟩
                      · by_cases k2 : 253402300799 < tt - 60 * zn
                        · have hq3 := HQQ.out
                          rw [if_pos (.inr k2)] at hq3
                          subst hq3
                          go_wp2_with fail
                          all_goals first | (exfalso; omega) | skip
                          all_goals go_ret2
                          all_goals exact ⟨rfl, HB7.out⟩
                        · have hq3 := HQQ.out
                          rw [if_neg (by omega)] at hq3
                          subst hq3
                          go_wp2_with fail
                          all_goals first | (exfalso; omega) | skip
                          all_goals go_ret2
                          all_goals exact ⟨ret_II (by omega) rfl, HB7.out⟩
                  · have hq := HRR.out.trans (HWC.out (fun h => h5 (e5.1 h.2.2)))
                    subst hq
                    have t2 : ((c2.toNat : Int) != 58) = false := by rw [h2]; rfl
                    have t5 : ((c5.toNat : Int) != 58) = true := by rw [bne_iff_ne]; omega
                    clear HRR HWC HWK hz e2 e5 h2 h5
                    go_wp2_with fail
                    go_ret2
                    exact ⟨rfl, HB5.out⟩
                · have hq := HRR.out.trans (HWC.out (fun h => h2 (e2.1 h.2.1)))
                  subst hq
                  have t2 : ((c2.toNat : Int) != 58) = true := by rw [bne_iff_ne]; omega
                  clear HRR HWC HWK hz e2 e5 h2
                  go_wp2_with fail
                  go_ret2
                  exact ⟨rfl, HB5.out⟩
              · have hq := HRR.out.trans (HWC.out (fun h => h8 h.1))
                subst hq
                have t8 : ((C.length : Int) != 8) = true := by rw [bne_iff_ne]; omega
                clear HRR HWC HWK hz h8
                go_wp2_with fail
                go_ret2
                exact ⟨rfl, HB5.out⟩
end Go.Proofs.YtooabnmmgmmklaaDoor
