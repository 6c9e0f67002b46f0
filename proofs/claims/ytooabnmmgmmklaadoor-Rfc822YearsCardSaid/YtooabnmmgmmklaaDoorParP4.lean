/-
  Walks of chapter 4: Parse (the program).
-/
import Derived.Test.YtooabnmmgmmklaaDoorClkP4
import Derived.Test.YtooabnmmgmmklaaDoorZonP4
import Derived.Test.YtooabnmmgmmklaaDoorCol4
import Derived.Test.YtooabnmmgmmklaaDoorYrs4
set_option linter.unusedVariables false
namespace Go.Proofs.YtooabnmmgmmklaaDoor
open Go.RowKit

theorem words5_some {d m y c z : Bytes} {dn yn h mi s : Nat} {zn t : Int} (h1 : num 1 2 d = some dn) (h2 : yearOf y = some yn) (h3 : clockOf c = some (h, mi, s)) (h4 : zoneOf z = some zn) (h5 : monthOf m ≠ 0) (h6 : secOf yn (monthOf m) dn h mi s = some t) :
    words5 d m y c z = if t - 60 * zn < -62135596800 ∨ 253402300799 < t - 60 * zn then (0, 3) else (t - 60 * zn, 0) := by
  unfold words5
  simp only [h1, h2, h3, h4, h6]
  rw [if_neg h5]
theorem words5_no {d m y c z : Bytes} (hh : (num 1 2 d).isSome = false ∨ monthOf m = 0 ∨ (yearOf y).isSome = false ∨ (clockOf c).isSome = false ∨ (zoneOf z).isSome = false) : words5 d m y c z = (0, 20) := by
  unfold words5
  cases h1 : num 1 2 d with
  | none => rfl
  | some dn =>
    cases h2 : yearOf y with
    | none => rfl
    | some yn =>
      cases h3 : clockOf c with
      | none => rfl
      | some p =>
        obtain ⟨h, mi, s⟩ := p
        cases h4 : zoneOf z with
        | none => rfl
        | some zn =>
          simp only []
          rw [if_pos]
          simpa [h1, h2, h3, h4] using hh
theorem words5_none {d m y c z : Bytes} {dn yn h mi s : Nat} {zn : Int} (h1 : num 1 2 d = some dn) (h2 : yearOf y = some yn) (h3 : clockOf c = some (h, mi, s)) (h4 : zoneOf z = some zn) (h5 : monthOf m ≠ 0) (h6 : secOf yn (monthOf m) dn h mi s = none) :
    words5 d m y c z = (0, 20) := by
  unfold words5
  simp only [h1, h2, h3, h4, h6]
  rw [if_neg h5]
theorem zoneOf_bound {s : Bytes} {z : Int} (h : zoneOf s = some z) : -1500 ≤ z ∧ z ≤ 1500 := by
  unfold zoneOf at h
  split at h
  · rename_i x hx
    obtain ⟨a, b⟩ := zoneTab_small hx
    simp only [Option.some.injEq] at h
    omega
  · split at h
    · split at h
      · cases h
      · split at h
        · cases h
        · simp only [Option.some.injEq] at h
          split at h <;> omega
    · cases h
theorem secOf_bound {y m d h mi s t : Int} (h1 : secOf y m d h mi s = some t) : -100000000000 ≤ t ∧ t ≤ 400000000000 := by
  unfold secOf at h1
  split at h1
  · rename_i hc
    have := dayNo_in hc.1
    simp only [Option.some.injEq] at h1
    omega
  · cases h1
theorem findW_le (s : Bytes) : ∀ (l : List Bytes) (i : Nat), findW s i l ≤ i + l.length
  | [], i => by simp [findW]
  | x :: l, i => by
    rw [findW, List.length_cons]
    have := findW_le s l (i + 1)
    split <;> omega
theorem monthOf_le (s : Bytes) : monthOf s ≤ 12 := by
  have := findW_le (lowS s) monTab 0
  exact this
theorem collapse_len (l : Bytes) : (collapse l).length ≤ 2 * l.length := by
  have := colG_len false [] l
  simpa [collapse] using this
theorem list5g {α : Type} {l : List α} (h : l.length = 5) : ∃ a b c d f, l = [a, b, c, d, f] := by
  match l, h with
  | [a, b, c, d, f], _ => exact ⟨a, b, c, d, f, rfl⟩
theorem number12 (l : Bytes) (w : World) (hl : l.length ≤ 1000000) : Calls Tryd.prog 21 #[.string (S l), .int .i64 1, .int .i64 2] w fun e w' => e = .returned (.tuple #[.int .i64 (numV (num 1 2 l)), .bool (num 1 2 l).isSome]) ∧ Below w.heap.size w w' := number_any l 1 2 (by decide) (by decide) w hl

theorem ret_pair {a b : Int} {p : Int × Int} (h : p = (a, b)) : Ending.returned (.tuple #[.int .i64 a, .int .i64 b]) = .returned (.tuple #[.int .i64 p.1, .int .i64 p.2]) := by rw [h]
theorem slice_tail (b n : Nat) (W : World) (h : 2 ≤ n) : (Instr.slice 51 (.slice (some ⟨b, 0, none⟩) n n) (some (.int .i64 1)) none none).run Tryd.prog W = .ok (.slice (some ⟨b, 1, none⟩) (n - 1) (n - 1)) W := by
  have hsz : (Tryd.prog.info? 9).map (·.size) = some 1 := by kernel_rfl
  have hadd : (⟨b, 0, none⟩ : Addr).add 1 = ⟨b, 1, none⟩ := by unfold Addr.add; simp
  have h1 : (1 : Int) ≤ (n : Int) := by omega
  have h3 : ¬ (n = 1) := by omega
  cases hq : Tryd.prog.info? 9 with
  | none => simp [hq] at hsz
  | some i =>
    have hi : i.size = 1 := by simpa [hq] using hsz
    simp [Instr.slice, run_underlying Tryd.underlying51, go_sem, Instr.sliceBounds, sizeOf, typeInfo, hq, hi, h3]
    intro h; omega
theorem slice_tail1 (b : Nat) (W : World) : (Instr.slice 51 (.slice (some ⟨b, 0, none⟩) 1 1) (some (.int .i64 1)) none none).run Tryd.prog W = .ok (.slice (some ⟨b, 0, none⟩) 0 0) W := by
  have hsz : (Tryd.prog.info? 9).map (·.size) = some 1 := by kernel_rfl
  cases hq : Tryd.prog.info? 9 with
  | none => simp [hq] at hsz
  | some i =>
    have hi : i.size = 1 := by simpa [hq] using hsz
    simp [Instr.slice, run_underlying Tryd.underlying51, go_sem, Instr.sliceBounds, sizeOf, typeInfo, hq, hi]
/-- What the clock hands back reads, and which numbers. -/
theorem parse_len {ws : List Bytes} (h : (if isDay (ws.headD []) = true then ws.drop 1 else ws).length ≠ 5) : parseW ws = (0, 20) := by
  unfold parseW
  generalize (if isDay (ws.headD []) = true then ws.drop 1 else ws) = v at *
  match v, h with
  | [], _ => rfl
  | [_], _ => rfl
  | [_, _], _ => rfl
  | [_, _, _], _ => rfl
  | [_, _, _, _], _ => rfl
  | [_, _, _, _, _], h => simp at h
  | _ :: _ :: _ :: _ :: _ :: _ :: _, _ => rfl
theorem parse_five {ws : List Bytes} {d m y c z : Bytes} (h : (if isDay (ws.headD []) = true then ws.drop 1 else ws) = [d, m, y, c, z]) : parseW ws = words5 d m y c z := by
  unfold parseW
  rw [h]
set_option maxHeartbeats 8000000 in
set_option maxRecDepth 100000 in
theorem parse4_any (l : Bytes) (w : World) (hT : Tab4 w) (hl : l.length ≤ 400000) :
    Calls Tryd.prog 12 #[.string (S l)] w fun e w' => e = .returned (.tuple #[.int .i64 (parse4 l).1, .int .i64 (parse4 l).2]) ∧ Below w.heap.size w w' := by
  obtain ⟨R, hR⟩ : ∃ R, parse4 l = R := ⟨_, rfl⟩
  rw [hR]
  unfold parse4 at hR
  have hcol := collapse_any l w (by omega)
  have hcl := collapse_len l
  generalize collapse l = L at *
  have hsp := fun (W : World) (h : Tab4 W) => split_any L 32 W h (by omega)
  rw [splitW_C] at hR
  have hne := splitC_ne 32 L
  have hpl := splitC_piece 32 L
  have hln := splitC_len 32 L
  generalize splitC 32 L = ws at *
  have HCOL := Lib.hid hcol
  have HSP := Lib.hid hsp
  have HT := Lib.hid hT
  have HR := Lib.hid hR
  have HPL := Lib.hid (fun x (hx : x ∈ ws) => Nat.le_trans (hpl x hx) (show L.length ≤ 1000000 by omega))
  clear hcol hsp hT hR hpl
  obtain ⟨x0, tl, rfl⟩ : ∃ x0 tl, ws = x0 :: tl := by
    cases ws with
    | nil => exact absurd rfl hne
    | cons a b => exact ⟨a, b, rfl⟩
  go_enter Tryd.func12, Tryd.ntmps12
  go_wp2_with (go_at_call 26; refine HCOL.out.mono ?_; rintro e w1 ⟨rfl, hb1⟩)
  have hT1 := HT.out.next hb1
  refine (HSP.out w1 hT1).mono ?_
  rintro e w2 ⟨rfl, hw2⟩
  have hx2 : w2.heap[w1.heap.size]? = some (.cells (strVs (x0 :: tl)) 9 (0, 0)) := by rw [hw2]; exact heap_alloc_new _ _
  have hb2 : Below w1.heap.size w1 w2 := by rw [hw2]; exact (Below.refl _ _).alloc (Nat.le_refl _) _
  clear hw2 HSP HCOL
  have hT2 := hT1.next hb2
  have hb02 := hb1.trans (hb2.mono hb1.size)
  have hwd := weekday4_any x0 w2 hT2 (HPL.out x0 (by simp))
  have h0 : w2.cell? ⟨w1.heap.size, 0, none⟩ = some (.string (S x0)) := by rw [cell_block hx2]; rfl
  have hlt2 := heap_lt hx2
  have HWD := Lib.hid hwd
  have HX2 := Lib.hid hx2
  have HT2 := Lib.hid hT2
  have HB02 := Lib.hid hb02
  have hpos : (0 : Int) < ((x0 :: tl).length : Int) := by simp only [List.length_cons]; omega
  have hz1 := hb1.size
  clear hwd hx2 hT2 hb02 hb1 hb2 hT1 HT hcl hne
  obtain ⟨n, hn⟩ : ∃ n, (x0 :: tl).length = n := ⟨_, rfl⟩
  rw [hn] at hpos hln
  have HN := Lib.hid hn
  rw [hn]
  have hst := fun W (h : 2 ≤ n) => slice_tail w1.heap.size n W h
  have hst1 := slice_tail1 w1.heap.size
  generalize w1.heap.size = b at *
  clear hn
  go_wp2_with fail
  refine HWD.out.mono ?_
  rintro e w3 ⟨rfl, hb3⟩
  have HX3 := Lib.hid ((hb3.block b hlt2).trans HX2.out)
  have HT3 := Lib.hid (HT2.out.next hb3)
  have HB3 := Lib.hid (HB02.out.trans (hb3.mono HB02.out.size))
  have hlt3 := Nat.lt_of_lt_of_le hlt2 hb3.size
  clear hb3 HWD HX2 HT2 HB02 hlt2 h0
  obtain ⟨D, hD⟩ : ∃ D, isDay x0 = D := ⟨_, rfl⟩
  rw [hD]
  obtain ⟨off, hoff⟩ : ∃ off, off = if D = true then 1 else 0 := ⟨_, rfl⟩
  have hpw : (if isDay ((x0 :: tl).headD []) = true then (x0 :: tl).drop 1 else (x0 :: tl)) = (x0 :: tl).drop off := by
    show (if isDay x0 = true then _ else _) = _
    rw [hD, hoff]
    cases D <;> rfl
  have hcells : ∀ i x, ((x0 :: tl).drop off)[i]? = some x → w3.cell? ⟨b, off + i, none⟩ = some (.string (S x)) := by
    intro i x hx
    rw [cell_block HX3.out]
    rw [List.getElem?_drop] at hx
    exact strVs_at hx
  have hsub : ∀ x ∈ (x0 :: tl).drop off, x.length ≤ 1000000 := fun x hx => HPL.out x (List.mem_of_mem_drop hx)
  have hdl : ((x0 :: tl).drop off).length = n - off := by rw [List.length_drop, HN.out]
  have hR := HR.out
  have hR5 := parse_len (ws := x0 :: tl)
  rw [hpw] at hR5
  have hR2 := fun d m y c z => parse_five (ws := x0 :: tl) (d := d) (m := m) (y := y) (c := c) (z := z)
  rw [hpw] at hR2
  rw [hR] at hR5
  simp only [hR] at hR2
  generalize (x0 :: tl).drop off = v at *
  have HR5 := Lib.hid hR5
  have HR2 := Lib.hid hR2
  have HCL := Lib.hid hcells
  have HSUB := Lib.hid hsub
  have HDL := Lib.hid hdl
  clear hR5 hR2 hcells hsub hdl hR HR hpw HPL HN hD
  by_cases h5 : v.length = 5
  case neg =>
    have hRR := HR5.out h5
    subst hRR
    have hoff2 : off ≤ 1 := by rw [hoff]; split <;> omega
    have hne5 : n - off ≠ 5 := by rw [← HDL.out]; exact h5
    clear HR5 HR2 h5
    cases D with
    | false =>
      have ho : off = 0 := hoff
      clear hoff hoff2 hst hst1
      subst ho
      have t5 : ((n : Int) != 5) = true := by rw [bne_iff_ne]; omega
      go_wp2_with fail
      go_ret2
      exact ⟨rfl, HB3.out⟩
    | true =>
      have ho : off = 1 := hoff
      clear hoff hoff2
      subst ho
      by_cases hn1 : n = 1
      · have hst2 := hst1 w3
        clear hst hst1
        subst hn1
        go_wp2_with fail
        go_ret2
        exact ⟨rfl, HB3.out⟩
      · have hst2 := hst w3 (by omega)
        clear hst hst1
        have t5 : (((n - 1 : Nat) : Int) != 5) = true := by rw [bne_iff_ne]; omega
        go_wp2_with fail
        go_ret2
        exact ⟨rfl, HB3.out⟩
  case pos =>
    obtain ⟨d, m, y, c, z, rfl⟩ := list5g h5
    have hRR := HR2.out d m y c z rfl
    have hno : n = 5 + off := by have := HDL.out; simp only [List.length_cons, List.length_nil] at this; omega
    have HD := Lib.hid fun W => number12 d W (HSUB.out d (by simp))
    have hm1 := fun W hW => month_any m W hW (HSUB.out m (by simp))
    obtain ⟨MB, hMB⟩ : ∃ MB, decide (monthOf m ≠ 0) = MB := ⟨_, rfl⟩
    rw [hMB] at hm1
    have HM := Lib.hid hm1
    have HMB := Lib.hid hMB
    clear hm1 hMB
    have HY := Lib.hid fun W => year4_any y W (HSUB.out y (by simp))
    have HC := Lib.hid fun W hW => clock_any c W hW (HSUB.out c (by simp))
    have HZ := Lib.hid fun W => zone_any z W (HSUB.out z (by simp))
    have p0 := HCL.out 0 d rfl
    have p1 := HCL.out 1 m rfl
    have p2 := HCL.out 2 y rfl
    have p3 := HCL.out 3 c rfl
    have p4 := HCL.out 4 z rfl
    have HRR := Lib.hid hRR
    clear HR5 HR2 h5 HCL HSUB HDL hRR
    cases D
    · have ho : off = 0 := hoff
      clear hoff hst hst1
      subst ho
      subst hno
      simp only [Nat.zero_add] at p0 p1 p2 p3 p4
      have HP1 := Lib.hid p1
      have HP2 := Lib.hid p2
      have HP3 := Lib.hid p3
      have HP4 := Lib.hid p4
      clear p1 p2 p3 p4 hpos hln
      go_wp2_with (first
        | (go_at_call 21; refine (HD.out _).mono ?_; rintro e w4 ⟨rfl, hb4⟩; have hT4 := Lib.hid (HT3.out.next hb4); have c1 := (hb4.cell (p := ⟨b, 1, none⟩) hlt3).trans HP1.out; have B34 := Lib.hid hb4; clear hb4)
        | (go_at_call 28; refine (HM.out _ hT4.out).mono ?_; rintro e w5 ⟨rfl, hb5⟩; have B35 := Lib.hid (B34.out.trans (hb5.mono B34.out.size)); have c2 := (B35.out.cell (p := ⟨b, 2, none⟩) hlt3).trans HP2.out; clear hb5 c1)
        | (go_at_call 29; refine (HY.out _).mono ?_; rintro e w6 ⟨rfl, hb6⟩; have B36 := Lib.hid (B35.out.trans (hb6.mono B35.out.size)); have hT6 := Lib.hid (HT3.out.next B36.out); have c3 := (B36.out.cell (p := ⟨b, 3, none⟩) hlt3).trans HP3.out; clear hb6 c2))
      refine (HC.out _ hT6.out).mono ?_
      rintro e w7 ⟨⟨x, yy, zz, rfl, hcr⟩, hb7⟩
      have HCR := Lib.hid hcr
      have B37 := Lib.hid (B36.out.trans (hb7.mono B36.out.size))
      have c4 : (w7.alloc (.cells #[.int .i64 x, .int .i64 yy, .int .i64 zz] 54)).cell? ⟨b, 4, none⟩ = some (.string (S z)) := by
        rw [World.cell?_alloc_past _ _ _ (Nat.lt_of_lt_of_le hlt3 B37.out.size)]
        exact (B37.out.cell (p := ⟨b, 4, none⟩) hlt3).trans HP4.out
      have X8 := Lib.hid (heap_alloc_new w7 (.cells #[.int .i64 x, .int .i64 yy, .int .i64 zz] 54))
      have B38 := Lib.hid (B37.out.alloc B37.out.size (.cells #[.int .i64 x, .int .i64 yy, .int .i64 zz] 54))
      clear hb7 hcr c3
      go_wp2_with (go_at_call 31; refine (HZ.out _).mono ?_; rintro e w8 ⟨rfl, hb8⟩; have Y8 := (hb8.block w7.heap.size (by simp)).trans X8.out; have l0 : w8.cell? ⟨w7.heap.size, 0, none⟩ = some (.int .i64 x) := (by rw [cell_block Y8]; rfl); have l1 : w8.cell? ⟨w7.heap.size, 1, none⟩ = some (.int .i64 yy) := (by rw [cell_block Y8]; rfl); have l2 : w8.cell? ⟨w7.heap.size, 2, none⟩ = some (.int .i64 zz) := (by rw [cell_block Y8]; rfl); have B39 := Lib.hid (B38.out.trans (hb8.mono B38.out.size)); clear hb8 Y8 c4)
      refine (seconds_any _ _ _ _ _ _ _).mono ?_
      rintro e w9 ⟨rfl, hb9⟩
      have HE := Lib.hid (HB3.out.trans ((B39.out.trans (hb9.mono B39.out.size)).mono HB3.out.size))
      clear hb9 l0 l1 l2 hlt3 hz1
      cases ha : num 1 2 d with
      | none =>
        have hq : words5 d m y c z = (0, 20) := words5_no (.inl (by rw [ha]; rfl))
        have hq2 := HRR.out.trans hq
        subst hq2
        clear hq ha HRR
        go_wp2_with fail
        go_ret2
        exact ⟨rfl, HE.out⟩
      | some dn =>
        cases MB with
        | false =>
          have hm : monthOf m = 0 := Classical.byContradiction fun h => by have := HMB.out; rw [decide_eq_true h] at this; cases this
          have hq : words5 d m y c z = (0, 20) := words5_no (.inr (.inl hm))
          have hq2 := HRR.out.trans hq
          subst hq2
          clear hq ha HRR hm
          go_wp2_with fail
          go_ret2
          exact ⟨rfl, HE.out⟩
        | true =>
          have hm : monthOf m ≠ 0 := of_decide_eq_true HMB.out
          cases hy : yearOf y with
          | none =>
            have hq : words5 d m y c z = (0, 20) := words5_no (.inr (.inr (.inl (by rw [hy]; rfl))))
            have hq2 := HRR.out.trans hq
            subst hq2
            clear hq ha HRR hm hy
            go_wp2_with fail
            go_ret2
            exact ⟨rfl, HE.out⟩
          | some yn =>
            cases hc : clockOf c with
            | none =>
              have hq : words5 d m y c z = (0, 20) := words5_no (.inr (.inr (.inr (.inl (by rw [hc]; rfl)))))
              have hq2 := HRR.out.trans hq
              subst hq2
              clear hq ha HRR hm hy hc
              go_wp2_with fail
              go_ret2
              exact ⟨rfl, HE.out⟩
            | some p =>
              obtain ⟨h, mi, s⟩ := p
              obtain ⟨e1, e2, e3⟩ := HCR.out h mi s hc
              subst e1 e2 e3
              cases hz : zoneOf z with
              | none =>
                have hq : words5 d m y c z = (0, 20) := words5_no (.inr (.inr (.inr (.inr (by rw [hz]; rfl)))))
                have hq2 := HRR.out.trans hq
                subst hq2
                clear hq ha HRR hm hy hc hz
                go_wp2_with fail
                go_ret2
                exact ⟨rfl, HE.out⟩
              | some zn =>
                have hzb := zoneOf_bound hz
                rw [show numV (some yn) = (yn : Int) from rfl, show numV (some dn) = (dn : Int) from rfl, show zV (some zn) = zn from rfl]
                cases hs : secOf yn (monthOf m) dn h mi s with
                | none =>
                  have hq : words5 d m y c z = (0, 20) := words5_none ha hy hc hz hm hs
                  have hq2 := HRR.out.trans hq
                  subst hq2
                  rw [show secA none = 0 from rfl, show secE none = 3 from rfl]
                  clear hq ha HRR hm hy hc hz hs
                  go_wp2_with fail
                  go_ret2
                  exact ⟨rfl, HE.out⟩
                | some tt =>
                  have hq := words5_some ha hy hc hz hm hs
                  have hsb := secOf_bound hs
                  have hq2 := HRR.out.trans hq
                  rw [show secA (some tt) = tt from rfl, show secE (some tt) = 0 from rfl]
                  obtain ⟨z1, z2⟩ := hzb
                  obtain ⟨s1, s2⟩ := hsb
                  have HQ := Lib.hid hq2
                  clear hq ha HRR hm hy hc hz hs hq2 HCR
                  by_cases k1 : tt - 60 * zn < -62135596800
                  · have hq3 := HQ.out
                    rw [if_pos (.inl k1)] at hq3
                    subst hq3
                    go_wp2_with fail
                    go_ret2
                    exact ⟨rfl, HE.out⟩
                  · by_cases k2 : 253402300799 < tt - 60 * zn
                    · have hq3 := HQ.out
                      rw [if_pos (.inr k2)] at hq3
                      subst hq3
                      go_wp2_with fail
                      go_ret2
                      exact ⟨rfl, HE.out⟩
                    · have hq3 := HQ.out
                      rw [if_neg (by omega)] at hq3
                      subst hq3
                      go_wp2_with fail
                      go_ret2
                      exact ⟨rfl, HE.out⟩
    · have ho : off = 1 := hoff
      have hst2 := hst w3 (by omega)
      clear hoff hst hst1
      subst ho
      subst hno
      simp only [Nat.reduceAdd] at p0 p1 p2 p3 p4 hst2
      simp only [Nat.reduceSub] at hst2
      have HP1 := Lib.hid p1
      have HP2 := Lib.hid p2
      have HP3 := Lib.hid p3
      have HP4 := Lib.hid p4
      clear p1 p2 p3 p4 hpos hln
      go_wp2_with (first
        | (go_at_call 21; refine (HD.out _).mono ?_; rintro e w4 ⟨rfl, hb4⟩; have hT4 := Lib.hid (HT3.out.next hb4); have c1 := (hb4.cell (p := ⟨b, 2, none⟩) hlt3).trans HP1.out; have B34 := Lib.hid hb4; clear hb4)
        | (go_at_call 28; refine (HM.out _ hT4.out).mono ?_; rintro e w5 ⟨rfl, hb5⟩; have B35 := Lib.hid (B34.out.trans (hb5.mono B34.out.size)); have c2 := (B35.out.cell (p := ⟨b, 3, none⟩) hlt3).trans HP2.out; clear hb5 c1)
        | (go_at_call 29; refine (HY.out _).mono ?_; rintro e w6 ⟨rfl, hb6⟩; have B36 := Lib.hid (B35.out.trans (hb6.mono B35.out.size)); have hT6 := Lib.hid (HT3.out.next B36.out); have c3 := (B36.out.cell (p := ⟨b, 4, none⟩) hlt3).trans HP3.out; clear hb6 c2))
      refine (HC.out _ hT6.out).mono ?_
      rintro e w7 ⟨⟨x, yy, zz, rfl, hcr⟩, hb7⟩
      have HCR := Lib.hid hcr
      have B37 := Lib.hid (B36.out.trans (hb7.mono B36.out.size))
      have c4 : (w7.alloc (.cells #[.int .i64 x, .int .i64 yy, .int .i64 zz] 54)).cell? ⟨b, 5, none⟩ = some (.string (S z)) := by
        rw [World.cell?_alloc_past _ _ _ (Nat.lt_of_lt_of_le hlt3 B37.out.size)]
        exact (B37.out.cell (p := ⟨b, 5, none⟩) hlt3).trans HP4.out
      have X8 := Lib.hid (heap_alloc_new w7 (.cells #[.int .i64 x, .int .i64 yy, .int .i64 zz] 54))
      have B38 := Lib.hid (B37.out.alloc B37.out.size (.cells #[.int .i64 x, .int .i64 yy, .int .i64 zz] 54))
      clear hb7 hcr c3
      go_wp2_with (go_at_call 31; refine (HZ.out _).mono ?_; rintro e w8 ⟨rfl, hb8⟩; have Y8 := (hb8.block w7.heap.size (by simp)).trans X8.out; have l0 : w8.cell? ⟨w7.heap.size, 0, none⟩ = some (.int .i64 x) := (by rw [cell_block Y8]; rfl); have l1 : w8.cell? ⟨w7.heap.size, 1, none⟩ = some (.int .i64 yy) := (by rw [cell_block Y8]; rfl); have l2 : w8.cell? ⟨w7.heap.size, 2, none⟩ = some (.int .i64 zz) := (by rw [cell_block Y8]; rfl); have B39 := Lib.hid (B38.out.trans (hb8.mono B38.out.size)); clear hb8 Y8 c4)
      refine (seconds_any _ _ _ _ _ _ _).mono ?_
      rintro e w9 ⟨rfl, hb9⟩
      have HE := Lib.hid (HB3.out.trans ((B39.out.trans (hb9.mono B39.out.size)).mono HB3.out.size))
      clear hb9 l0 l1 l2 hlt3 hz1
      cases ha : num 1 2 d with
      | none =>
        have hq : words5 d m y c z = (0, 20) := words5_no (.inl (by rw [ha]; rfl))
        have hq2 := HRR.out.trans hq
        subst hq2
        clear hq ha HRR
        go_wp2_with fail
        go_ret2
        exact ⟨rfl, HE.out⟩
      | some dn =>
        cases MB with
        | false =>
          have hm : monthOf m = 0 := Classical.byContradiction fun h => by have := HMB.out; rw [decide_eq_true h] at this; cases this
          have hq : words5 d m y c z = (0, 20) := words5_no (.inr (.inl hm))
          have hq2 := HRR.out.trans hq
          subst hq2
          clear hq ha HRR hm
          go_wp2_with fail
          go_ret2
          exact ⟨rfl, HE.out⟩
        | true =>
          have hm : monthOf m ≠ 0 := of_decide_eq_true HMB.out
          cases hy : yearOf y with
          | none =>
            have hq : words5 d m y c z = (0, 20) := words5_no (.inr (.inr (.inl (by rw [hy]; rfl))))
            have hq2 := HRR.out.trans hq
            subst hq2
            clear hq ha HRR hm hy
            go_wp2_with fail
            go_ret2
            exact ⟨rfl, HE.out⟩
          | some yn =>
            cases hc : clockOf c with
            | none =>
              have hq : words5 d m y c z = (0, 20) := words5_no (.inr (.inr (.inr (.inl (by rw [hc]; rfl)))))
              have hq2 := HRR.out.trans hq
              subst hq2
              clear hq ha HRR hm hy hc
              go_wp2_with fail
              go_ret2
              exact ⟨rfl, HE.out⟩
            | some p =>
              obtain ⟨h, mi, s⟩ := p
              obtain ⟨e1, e2, e3⟩ := HCR.out h mi s hc
              subst e1 e2 e3
              cases hz : zoneOf z with
              | none =>
                have hq : words5 d m y c z = (0, 20) := words5_no (.inr (.inr (.inr (.inr (by rw [hz]; rfl)))))
                have hq2 := HRR.out.trans hq
                subst hq2
                clear hq ha HRR hm hy hc hz
                go_wp2_with fail
                go_ret2
                exact ⟨rfl, HE.out⟩
              | some zn =>
                have hzb := zoneOf_bound hz
                rw [show numV (some yn) = (yn : Int) from rfl, show numV (some dn) = (dn : Int) from rfl, show zV (some zn) = zn from rfl]
                cases hs : secOf yn (monthOf m) dn h mi s with
                | none =>
                  have hq : words5 d m y c z = (0, 20) := words5_none ha hy hc hz hm hs
                  have hq2 := HRR.out.trans hq
                  subst hq2
                  rw [show secA none = 0 from rfl, show secE none = 3 from rfl]
                  clear hq ha HRR hm hy hc hz hs
                  go_wp2_with fail
                  go_ret2
                  exact ⟨rfl, HE.out⟩
                | some tt =>
                  have hq := words5_some ha hy hc hz hm hs
                  have hsb := secOf_bound hs
                  have hq2 := HRR.out.trans hq
                  rw [show secA (some tt) = tt from rfl, show secE (some tt) = 0 from rfl]
                  obtain ⟨z1, z2⟩ := hzb
                  obtain ⟨s1, s2⟩ := hsb
                  have HQ := Lib.hid hq2
                  clear hq ha HRR hm hy hc hz hs hq2 HCR
                  by_cases k1 : tt - 60 * zn < -62135596800
                  · have hq3 := HQ.out
                    rw [if_pos (.inl k1)] at hq3
                    subst hq3
                    go_wp2_with fail
                    go_ret2
                    exact ⟨rfl, HE.out⟩
                  · by_cases k2 : 253402300799 < tt - 60 * zn
                    · have hq3 := HQ.out
                      rw [if_pos (.inr k2)] at hq3
                      subst hq3
                      go_wp2_with fail
                      go_ret2
                      exact ⟨rfl, HE.out⟩
                    · have hq3 := HQ.out
                      rw [if_neg (by omega)] at hq3
                      subst hq3
                      go_wp2_with fail
                      go_ret2
                      exact ⟨rfl, HE.out⟩
end Go.Proofs.YtooabnmmgmmklaaDoor
