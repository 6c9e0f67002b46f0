/-
  Walk of chapter 6's statement Values.
-/
import Derived.Test.YthbfahbjfioghaaGreatDoorZLaw6e
import Derived.Test.YthbfahbjfioghaaGreatDoorG3
set_option linter.unusedVariables false
namespace Go.Proofs.YthbfahbjfioghaaGreatDoor
open Go.RowKit

theorem contains_find (s t : Bytes) : Lib.contains s t = (findS t s).isSome := by
  unfold Lib.contains
  rw [index_find]
  cases findS t s <;> simp [optI]

set_option maxHeartbeats 2000000 in
set_option maxRecDepth 100000 in
theorem law6values_any (l : Bytes) (m : Int) (w : World) (hT : Tabs w) (hM : MaxLen m w) (hl : l.length ≤ 9223372036854775807) :
    Calls Tryz.prog 6 #[.string (S l)] w fun e w' => e = .returned (.bool true) ∧ Below w.heap.size w w' := by
  have hal := fun W => fun (hW : Below w.heap.size w W) => alive6_any m W (hT.next hW) (hM.below hW)
  have HAL := Lib.hid hal
  by_cases h1 : 1000 < (l.length : Int)
  · clear hT hM hal
    go_enter Tryz.func6, Tryz.ntmps6
    go_wp2_with (go_at_call 14; refine (HAL.out _ (Below.refl _ _)).mono ?_; rintro e w1 ⟨rfl, hb1⟩)
    go_ret
    exact ⟨rfl, hb1⟩
  have h5 : l.length ≤ 1000 := by omega
  by_cases h0 : l = []
  · subst h0
    clear hT hM hal
    go_enter Tryz.func6, Tryz.ntmps6
    go_wp2_with (go_at_call 14; refine (HAL.out _ (Below.refl _ _)).mono ?_; rintro e w1 ⟨rfl, hb1⟩)
    go_ret
    exact ⟨rfl, hb1⟩
  have e0 : (l == []) = false := by simpa using h0
  have hck := refCheck_any l w (by omega)
  by_cases hc : (check l).2 = 0
  · have t6 : (((check l).2 : Int) == 0) = true := by rw [hc]; rfl
    have t7 : (((check l).2 : Int) != 0) = false := by rw [bne, t6]; rfl
    have s1 := esc_len true l
    have s2 := esc_len false l
    have hx1 := fun W => refEscape_any true l W (by omega)
    have hx2 := fun W => refEscape_any false l W (by omega)
    have hvl : (valDoc l).length ≤ 20000 := by simp [valDoc]; omega
    have htk := fun W (hW : Below w.heap.size w W) => tokens_any (valDoc l) m W (hT.next hW) (hM.below hW) (by omega)
    obtain ⟨p, q, hv⟩ := toks_values h0 hc
    rw [hv] at htk
    have hk1 := fun W (hW : Below w.heap.size w W) => Tryz.strings_Contains (S (l ++ [93, 93])) (S [93, 93, 62]) m W (by rw [S_size, List.length_append]; simp; omega) (hM.below hW)
    rw [S_data, S_data, contains_find] at hk1
    have hk2 := fun W (hW : Below w.heap.size w W) => Tryz.strings_Contains (S l) (S [93, 93, 62]) m W (by rw [S_size]; omega) (hM.below hW)
    rw [S_data, S_data, contains_find] at hk2
    have hln := fun W => refLines_any l W (by omega)
    have hcl : (cdDoc l).length ≤ 2000 := by simp [cdDoc, sCd, sCdEnd]; omega
    have htm := fun W (hW : Below w.heap.size w W) => tokens_any (cdDoc l) m W (hT.next hW) (hM.below hW) (by omega)
    have hcd := toks_cdata h0 hc
    rw [show valDoc l = 60 :: 97 :: 32 :: 98 :: 61 :: 34 :: (esc true l ++ 34 :: 62 :: (esc false l ++ [60, 47, 97, 62])) by simp [valDoc]] at htk
    rw [show cdDoc l = 60 :: 33 :: 91 :: 67 :: 68 :: 65 :: 84 :: 65 :: 91 :: (l ++ [93, 93, 62]) by simp [cdDoc, sCd, sCdEnd]] at htm hcd
    have CK := Lib.hid hck
    have HX1 := Lib.hid hx1
    have HX2 := Lib.hid hx2
    have HTK := Lib.hid htk
    have HLN := Lib.hid hln
    have el : (l == l) = true := by simp
    have eL : (linesB l == linesB l) = true := by simp
    rw [show sCdEnd = [93, 93, 62] from rfl] at hcd
    clear hck hx1 hx2 htk hln hT hM hal hv hc
    generalize (check l).2 = Y at *
    generalize (check l).1 = X at *
    cases hf : findS [93, 93, 62] (l ++ [93, 93]) with
    | some j =>
      rw [hf] at hk1
      have HK1 := Lib.hid hk1
      clear hk1 hk2 htm hcd hf
      go_enter Tryz.func6, Tryz.ntmps6
      go_wp2_with (first
        | (go_at_call 20; refine CK.out.mono ?_; rintro e w1 ⟨rfl, hb1⟩; have B1 := Lib.hid hb1; clear hb1)
        | fail)
      refine (HX1.out _).mono ?_
      rintro e w2 ⟨rfl, hb2⟩
      have B2 := Lib.hid (B1.out.trans (hb2.mono B1.out.size))
      clear hb2
      go_wp2_with fail
      refine (HX2.out _).mono ?_
      rintro e w3 ⟨rfl, hb3⟩
      have B3 := Lib.hid (B2.out.trans (hb3.mono B2.out.size))
      clear hb3
      go_wp2_with fail
      have htk := HTK.out _ B3.out
      refine htk.mono ?_
      clear htk
      rintro e w4 ⟨⟨v4, rfl, hr4⟩, hb4⟩
      have p1 := hr4.toksP (p' := fun k => k < w4.heap.size) (fun k hk => hk.2.1) (fun k hk => (hr4.lt k hk).2)
      obtain ⟨A1, c1, rfl, _⟩ := p1.slice
      obtain ⟨b, cs, rfl, hb, hr, ht⟩ := p1.at_ (i := 0) (by simp)
      obtain ⟨b', cs', hbb, _, hr', ht'⟩ := p1.at_ (i := 1) (by simp)
      obtain rfl : b = b' := by injection hbb with h1; injection h1
      obtain ⟨A2, c2, rfl, ha2, _⟩ := ht.open_
      obtain ⟨A3, c3, rfl, _, _⟩ := ht'.open_
      obtain ⟨ab, off, rfl, _, har⟩ := atts_at6 ha2 (i := 0) (by simp)
      have x2 : w4.cell? ⟨b, 2, none⟩ = some (.slice (some ⟨ab, off, none⟩) 1 c2) := hr 2 _ rfl
      have y4 : w4.cell? ⟨b, 10, none⟩ = some (.string (S l)) := hr' 4 _ rfl
      have z2 : w4.cell? ⟨ab, off + 2, none⟩ = some (.string (S l)) := har 2 _ rfl
      have B4 := Lib.hid (B3.out.trans (hb4.mono B3.out.size))
      clear hr4 p1 hr ht hr' ht' ha2 har hb hb4 hbb
      go_wp2_with fail
      refine (HK1.out _ B4.out).mono ?_
      rintro e w5 ⟨rfl, rfl⟩
      go_wp2_with (go_at_call 14; refine (HAL.out _ B4.out).mono ?_; rintro e w5 ⟨rfl, hb5⟩)
      go_ret
      exact ⟨rfl, B4.out.trans (hb5.mono B4.out.size)⟩
    | none =>
      rw [hf] at hk1
      have hcd := hcd hf
      have hf2 : findS [93, 93, 62] l = none := by
        cases h : findS [93, 93, 62] l with
        | none => rfl
        | some j => rw [findS_app [93, 93] h] at hf; cases hf
      rw [hf2] at hk2
      rw [hcd] at htm
      have HTM := Lib.hid htm
      have HK1 := Lib.hid hk1
      have HK2 := Lib.hid hk2
      clear hk1 hk2 htm hcd hf hf2
      generalize linesB l = L at *
      go_enter Tryz.func6, Tryz.ntmps6
      go_wp2_with (first
        | (go_at_call 20; refine CK.out.mono ?_; rintro e w1 ⟨rfl, hb1⟩; have B1 := Lib.hid hb1; clear hb1)
        | fail)
      refine (HX1.out _).mono ?_
      rintro e w2 ⟨rfl, hb2⟩
      have B2 := Lib.hid (B1.out.trans (hb2.mono B1.out.size))
      clear hb2
      go_wp2_with fail
      refine (HX2.out _).mono ?_
      rintro e w3 ⟨rfl, hb3⟩
      have B3 := Lib.hid (B2.out.trans (hb3.mono B2.out.size))
      clear hb3
      go_wp2_with fail
      have htk := HTK.out _ B3.out
      refine htk.mono ?_
      clear htk
      rintro e w4 ⟨⟨v4, rfl, hr4⟩, hb4⟩
      have p1 := hr4.toksP (p' := fun k => k < w4.heap.size) (fun k hk => hk.2.1) (fun k hk => (hr4.lt k hk).2)
      obtain ⟨A1, c1, rfl, _⟩ := p1.slice
      obtain ⟨b, cs, rfl, hb, hr, ht⟩ := p1.at_ (i := 0) (by simp)
      obtain ⟨b', cs', hbb, _, hr', ht'⟩ := p1.at_ (i := 1) (by simp)
      obtain rfl : b = b' := by injection hbb with h1; injection h1
      obtain ⟨A2, c2, rfl, ha2, _⟩ := ht.open_
      obtain ⟨A3, c3, rfl, _, _⟩ := ht'.open_
      obtain ⟨ab, off, rfl, _, har⟩ := atts_at6 ha2 (i := 0) (by simp)
      have x2 : w4.cell? ⟨b, 2, none⟩ = some (.slice (some ⟨ab, off, none⟩) 1 c2) := hr 2 _ rfl
      have y4 : w4.cell? ⟨b, 10, none⟩ = some (.string (S l)) := hr' 4 _ rfl
      have z2 : w4.cell? ⟨ab, off + 2, none⟩ = some (.string (S l)) := har 2 _ rfl
      have B4 := Lib.hid (B3.out.trans (hb4.mono B3.out.size))
      clear hr4 p1 hr ht hr' ht' ha2 har hb hb4 hbb
      go_wp2_with fail
      refine (HK1.out _ B4.out).mono ?_
      rintro e w5 ⟨rfl, rfl⟩
      go_wp2_with fail
      have htm := HTM.out _ B4.out
      refine htm.mono ?_
      clear htm
      rintro e w6 ⟨⟨v6, rfl, hr6⟩, hb6⟩
      have p6 := hr6.toksP (p' := fun k => k < w6.heap.size) (fun k hk => hk.2.1) (fun k hk => (hr6.lt k hk).2)
      obtain ⟨A6, c6, rfl, _⟩ := p6.slice
      obtain ⟨b', cs6, rfl, hb', hr', ht'⟩ := p6.at_ (i := 0) (by simp)
      obtain ⟨A7, c7, rfl, _, _⟩ := ht'.open_
      have FM := Lib.hid (fun W (hW : Below w6.heap.size w6 W) => (show W.cell? ⟨b', 4, none⟩ = some (.string (S L)) from by
          have h := rangeAt_keep hr' (hW.block b' hb')
          exact h 4 _ rfl))
      have B6 := Lib.hid (B4.out.trans (hb6.mono B4.out.size))
      clear hr6 p6 hr' ht' hb' hb6 x2 y4 z2
      go_wp2_with fail
      refine wp_region_held_drew (S := fun x => x.cell? ⟨b', 4, none⟩ = some (.string (S L))) (by kernel_rfl) ?_ (fun hHeld => ?_)
      · (try dsimp only); exact FM.out _ (Below.refl _ _).drew
      refine wpAnyH_ready (rs := [0]) (by kernel_rfl) (by simp) ?_
      refine AllReadyH.cons (o := (⟨some 88, _, _, _, _, _⟩ : Oper)) rfl (fun K hK => ?_) ?_
      rotate_left
      · exact AllReadyH.nil
      go_simp
      (go_at_call 14; (with_reducible refine (HAL.out _ B6.out.drew).mono ?_); rintro e w7 ⟨rfl, hb7⟩; have R := Lib.hid ((Below.refl w6.heap.size w6).drew.trans hb7); clear hb7)
      refine hK.out _ _ ?_ (fun hHeld => ?_)
      · (try dsimp only); exact FM.out _ R.out
      clear hK K
      try simp only [Act.put, List.setIfInBounds_toArray, List.set_cons_zero, List.set_cons_succ]
      refine wpAnyH_take (i := 1) (oi := (⟨some 89, _, _, _, _, _⟩ : Oper)) (v := ?_) rfl (by kernel_rfl) (by kernel_rfl) (by kernel_rfl) (fun _ _ _ h => h) (Or.inl ⟨by rfl, ?_⟩) (by assumption) ?_
      rotate_left
      · intro wS hSw; (try dsimp only at hSw); go_simp <;> with_reducible rfl
      simp only [Act.put, List.setIfInBounds_toArray, List.set_cons_zero, List.set_cons_succ]
      refine wpAnyH_take (i := 2) (oi := (⟨some 90, _, _, _, _, _⟩ : Oper)) (v := ?_) rfl (by kernel_rfl) (by kernel_rfl) (by kernel_rfl) (fun _ _ _ h => h) (Or.inl ⟨by rfl, ?_⟩) (by assumption) ?_
      rotate_left
      · intro wS hSw; (try dsimp only at hSw); go_simp <;> with_reducible rfl
      simp only [Act.put, List.setIfInBounds_toArray, List.set_cons_zero, List.set_cons_succ]
      refine wpAnyH_ready (rs := [3]) (by kernel_rfl) (by simp) ?_
      refine AllReadyH.cons (o := (⟨some 91, _, _, _, _, _⟩ : Oper)) rfl (fun K hK => ?_) ?_
      rotate_left
      · exact AllReadyH.nil
      go_simp
      (go_at_call 23; refine (HK2.out _ (B6.out.trans (R.out.mono B6.out.size))).mono ?_; rintro e w8 ⟨rfl, rfl⟩)
      refine hK.out _ _ ?_ (fun hHeld => ?_)
      · (try dsimp only); exact FM.out _ R.out
      clear hK K
      try simp only [Act.put, List.setIfInBounds_toArray, List.set_cons_zero, List.set_cons_succ]
      refine wpAnyH_take (i := 4) (oi := (⟨some 92, _, _, _, _, _⟩ : Oper)) (v := ?_) rfl (by kernel_rfl) (by kernel_rfl) (by kernel_rfl) (fun _ _ _ h => h) (Or.inl ⟨by rfl, ?_⟩) (by assumption) ?_
      rotate_left
      · intro wS hSw; (try dsimp only at hSw); go_simp <;> with_reducible rfl
      simp only [Act.put, List.setIfInBounds_toArray, List.set_cons_zero, List.set_cons_succ]
      refine wpAnyH_take (i := 5) (oi := (⟨some 93, _, _, _, _, _⟩ : Oper)) (v := ?_) rfl (by kernel_rfl) (by kernel_rfl) (by kernel_rfl) (fun _ _ _ h => h) (Or.inl ⟨by rfl, ?_⟩) (by assumption) ?_
      rotate_left
      · intro wS hSw; (try dsimp only at hSw); go_simp <;> with_reducible rfl
      simp only [Act.put, List.setIfInBounds_toArray, List.set_cons_zero, List.set_cons_succ]
      refine wpAnyH_take (i := 6) (oi := (⟨some 94, _, _, _, _, _⟩ : Oper)) (v := ?_) rfl (by kernel_rfl) (by kernel_rfl) (by kernel_rfl) (fun _ _ _ h => h) (Or.inl ⟨by rfl, ?_⟩) (by assumption) ?_
      rotate_left
      · intro wS hSw; (try dsimp only at hSw); go_simp <;> with_reducible rfl
      simp only [Act.put, List.setIfInBounds_toArray, List.set_cons_zero, List.set_cons_succ]
      refine wpAnyH_take (i := 7) (oi := (⟨some 95, _, _, _, _, _⟩ : Oper)) (v := ?_) rfl (by kernel_rfl) (by kernel_rfl) (by kernel_rfl) (fun _ _ _ h => h) (Or.inl ⟨by rfl, ?_⟩) (by assumption) ?_
      rotate_left
      · intro wS hSw; (try dsimp only at hSw); go_simp <;> with_reducible rfl
      simp only [Act.put, List.setIfInBounds_toArray, List.set_cons_zero, List.set_cons_succ]
      refine wpAnyH_take (i := 8) (oi := (⟨some 96, _, _, _, _, _⟩ : Oper)) (v := ?_) rfl (by kernel_rfl) (by kernel_rfl) (by kernel_rfl) (fun _ _ _ h => h) (Or.inl ⟨by rfl, ?_⟩) (by assumption) ?_
      rotate_left
      · intro wS hSw; (try dsimp only at hSw); go_simp <;> with_reducible rfl
      simp only [Act.put, List.setIfInBounds_toArray, List.set_cons_zero, List.set_cons_succ]
      refine wpAnyH_take (i := 9) (oi := (⟨some 97, _, _, _, _, _⟩ : Oper)) (v := ?_) rfl (by kernel_rfl) (by kernel_rfl) (by kernel_rfl) (fun _ _ _ h => h) (Or.inl ⟨by rfl, ?_⟩) (by assumption) ?_
      rotate_left
      · intro wS hSw; (try dsimp only at hSw); go_simp <;> with_reducible rfl
      simp only [Act.put, List.setIfInBounds_toArray, List.set_cons_zero, List.set_cons_succ]
      refine wpAnyH_take (i := 10) (oi := (⟨some 98, _, _, _, _, _⟩ : Oper)) (v := ?_) rfl (by kernel_rfl) (by kernel_rfl) (by kernel_rfl) (fun _ _ _ h => h) (Or.inl ⟨by rfl, ?_⟩) (by assumption) ?_
      rotate_left
      · intro wS hSw; (try dsimp only at hSw); go_simp <;> with_reducible rfl
      simp only [Act.put, List.setIfInBounds_toArray, List.set_cons_zero, List.set_cons_succ]
      refine wpAnyH_take (i := 11) (oi := (⟨some 99, _, _, _, _, _⟩ : Oper)) (v := ?_) rfl (by kernel_rfl) (by kernel_rfl) (by kernel_rfl) (fun _ _ _ h => h) (Or.inl ⟨by rfl, ?_⟩) (by assumption) ?_
      rotate_left
      · intro wS hSw; (try dsimp only at hSw); go_simp <;> with_reducible rfl
      simp only [Act.put, List.setIfInBounds_toArray, List.set_cons_zero, List.set_cons_succ]
      refine wpAnyH_take (i := 12) (oi := (⟨some 100, _, _, _, _, _⟩ : Oper)) (v := ?_) rfl (by kernel_rfl) (by kernel_rfl) (by kernel_rfl) (fun _ _ _ h => h) (Or.inl ⟨by rfl, ?_⟩) (by assumption) ?_
      rotate_left
      · intro wS hSw; (try dsimp only at hSw); go_simp <;> with_reducible rfl
      simp only [Act.put, List.setIfInBounds_toArray, List.set_cons_zero, List.set_cons_succ]
      refine wpAnyH_take (i := 13) (oi := (⟨some 101, _, _, _, _, _⟩ : Oper)) (v := ?_) rfl (by kernel_rfl) (by kernel_rfl) (by kernel_rfl) (fun _ _ _ h => h) (Or.inl ⟨by rfl, ?_⟩) (by assumption) ?_
      rotate_left
      · intro wS hSw; (try dsimp only at hSw); go_simp <;> with_reducible rfl
      simp only [Act.put, List.setIfInBounds_toArray, List.set_cons_zero, List.set_cons_succ]
      refine wpAnyH_take (i := 14) (oi := (⟨some 102, _, _, _, _, _⟩ : Oper)) (v := ?_) rfl (by kernel_rfl) (by kernel_rfl) (by kernel_rfl) (fun _ _ _ h => h) (Or.inl ⟨by rfl, ?_⟩) (by assumption) ?_
      rotate_left
      · intro wS hSw; (try dsimp only at hSw); go_simp <;> with_reducible rfl
      simp only [Act.put, List.setIfInBounds_toArray, List.set_cons_zero, List.set_cons_succ]
      refine wpAnyH_take (i := 15) (oi := (⟨some 103, _, _, _, _, _⟩ : Oper)) (v := ?_) rfl (by kernel_rfl) (by kernel_rfl) (by kernel_rfl) (fun _ _ _ h => h) (Or.inl ⟨by rfl, ?_⟩) (by assumption) ?_
      rotate_left
      · intro wS hSw; (try dsimp only at hSw); go_simp <;> with_reducible rfl
      simp only [Act.put, List.setIfInBounds_toArray, List.set_cons_zero, List.set_cons_succ]
      refine wpAnyH_take (i := 16) (oi := (⟨some 104, _, _, _, _, _⟩ : Oper)) (v := ?_) rfl (by kernel_rfl) (by kernel_rfl) (by kernel_rfl) (fun _ _ _ h => h) (Or.inl ⟨by rfl, ?_⟩) (by assumption) ?_
      rotate_left
      · intro wS hSw; (try dsimp only at hSw); go_simp <;> with_reducible rfl
      simp only [Act.put, List.setIfInBounds_toArray, List.set_cons_zero, List.set_cons_succ]
      refine wpAnyH_take (i := 17) (oi := (⟨some 105, _, _, _, _, _⟩ : Oper)) (v := ?_) rfl (by kernel_rfl) (by kernel_rfl) (by kernel_rfl) (fun _ _ _ h => h) (Or.inl ⟨by rfl, ?_⟩) (by assumption) ?_
      rotate_left
      · intro wS hSw; (try dsimp only at hSw); go_simp <;> with_reducible rfl
      simp only [Act.put, List.setIfInBounds_toArray, List.set_cons_zero, List.set_cons_succ]
      refine wpAnyH_ready (rs := [18]) (by kernel_rfl) (by simp) ?_
      refine AllReadyH.cons (o := (⟨some 106, _, _, _, _, _⟩ : Oper)) rfl (fun K hK => ?_) ?_
      rotate_left
      · exact AllReadyH.nil
      go_simp
      (go_at_call 21; (with_reducible refine (HLN.out _).mono ?_); rintro e w9 ⟨rfl, hb9⟩; have R0 := R; clear R; have R := Lib.hid (R0.out.trans (hb9.mono R0.out.size)); clear hb9 R0)
      refine hK.out _ _ ?_ (fun hHeld => ?_)
      · (try dsimp only); exact FM.out _ R.out
      clear hK K
      try simp only [Act.put, List.setIfInBounds_toArray, List.set_cons_zero, List.set_cons_succ]
      refine wpAnyH_take (i := 19) (oi := (⟨some 107, _, _, _, _, _⟩ : Oper)) (v := ?_) rfl (by kernel_rfl) (by kernel_rfl) (by kernel_rfl) (fun _ _ _ h => h) (Or.inl ⟨by rfl, ?_⟩) (by assumption) ?_
      rotate_left
      · intro wS hSw; (try dsimp only at hSw); go_simp <;> with_reducible rfl
      simp only [Act.put, List.setIfInBounds_toArray, List.set_cons_zero, List.set_cons_succ]
      refine wpAnyH_take (i := 20) (oi := (⟨some 108, _, _, _, _, _⟩ : Oper)) (v := ?_) rfl (by kernel_rfl) (by kernel_rfl) (by kernel_rfl) (fun _ _ _ h => h) (Or.inl ⟨by rfl, ?_⟩) (by assumption) ?_
      rotate_left
      · intro wS hSw; (try dsimp only at hSw); go_simp <;> with_reducible rfl
      simp only [Act.put, List.setIfInBounds_toArray, List.set_cons_zero, List.set_cons_succ]
      refine wpAnyH_take (i := 21) (oi := (⟨some 109, _, _, _, _, _⟩ : Oper)) (v := ?_) rfl (by kernel_rfl) (by kernel_rfl) (by kernel_rfl) (fun _ _ _ h => h) (Or.inl ⟨by rfl, ?_⟩) (by assumption) ?_
      rotate_left
      · intro wS hSw; (try dsimp only at hSw); go_simp <;> with_reducible rfl
      simp only [Act.put, List.setIfInBounds_toArray, List.set_cons_zero, List.set_cons_succ]
      refine wpAnyH_take (i := 22) (oi := (⟨some 110, _, _, _, _, _⟩ : Oper)) (v := ?_) rfl (by kernel_rfl) (by kernel_rfl) (by kernel_rfl) (fun _ _ _ h => h) (Or.inl ⟨by rfl, ?_⟩) (by assumption) ?_
      rotate_left
      · intro wS hSw; (try dsimp only at hSw); go_simp <;> with_reducible rfl
      simp only [Act.put, List.setIfInBounds_toArray, List.set_cons_zero, List.set_cons_succ]
      refine wpAnyH_take (i := 23) (oi := (⟨some 2, _, _, _, _, _⟩ : Oper)) (v := ?_) rfl (by kernel_rfl) (by kernel_rfl) (by kernel_rfl) (fun _ _ _ h => h) (Or.inl ⟨by rfl, ?_⟩) (by assumption) ?_
      rotate_left
      · intro wS hSw; (try dsimp only at hSw); go_simp <;> with_reducible rfl
      simp only [Act.put, List.setIfInBounds_toArray, List.set_cons_zero, List.set_cons_succ]
      refine wpAnyH_done (by kernel_rfl) ?_ _
      go_wp2_with fail
      go_ret
      exact ⟨rfl, B6.out.trans (R.out.mono B6.out.size)⟩
  · have t6 : (((check l).2 : Int) == 0) = false := by simp; omega
    have t7 : (((check l).2 : Int) != 0) = true := by rw [bne, t6]; rfl
    generalize (check l).2 = Y at *
    generalize (check l).1 = X at *
    have CK := Lib.hid hck
    clear hck hc hT hM hal
    go_enter Tryz.func6, Tryz.ntmps6
    go_wp2_with (first
      | (go_at_call 20; refine CK.out.mono ?_; rintro e w1 ⟨rfl, hb1⟩)
      | (go_at_call 14; refine (HAL.out _ hb1).mono ?_; rintro e w2 ⟨rfl, hb2⟩))
    go_ret
    exact ⟨rfl, hb1.trans (hb2.mono hb1.size)⟩
end Go.Proofs.YthbfahbjfioghaaGreatDoor
