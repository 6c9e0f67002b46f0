/-
  Walk of chapter 6's statement Text.
-/
import Derived.Test.YthbfahbjfioghaaGreatDoorG1
import Derived.Test.YthbfahbjfioghaaGreatDoorTokR7
import Derived.Test.YthbfahbjfioghaaGreatDoorG3
set_option linter.unusedVariables false
namespace Go.Proofs.YthbfahbjfioghaaGreatDoor
open Go.RowKit

theorem indexB (c : UInt8) (y : Bytes) : Lib.indexByte y c = optI (findS [c] y) := by
  rw [indexByte_upto, findS_upto]
  cases upto c y <;> rfl
theorem findS_mem {c : UInt8} : ∀ {x : Bytes}, findS [c] x = none → ∀ b ∈ x, b ≠ c
  | [], _, b, hb => by cases hb
  | a :: x, h, b, hb => by
    rw [findS] at h
    split at h
    · cases h
    · rename_i e
      have h2 : findS [c] x = none := by
        cases hf : findS [c] x with
        | none => rfl
        | some j => rw [hf] at h; cases h
      rcases List.mem_cons.1 hb with h3 | h3
      · rintro rfl
        apply e
        rw [h3]; simp
      · exact findS_mem h2 b h3
theorem index_no {c : UInt8} {y : Bytes} (h : ¬ 0 ≤ Lib.indexByte y c) : ∀ b ∈ y, b ≠ c := by
  rw [indexB] at h
  refine findS_mem ?_
  cases hf : findS [c] y with
  | none => rfl
  | some j => rw [hf] at h; exact absurd (by simp [optI]) h

set_option maxHeartbeats 2000000 in
set_option maxRecDepth 100000 in
theorem law6text_any (l : Bytes) (m : Int) (w : World) (hT : Tabs w) (hM : MaxLen m w) (hl : l.length ≤ 9223372036854775807) :
    Calls Tryz.prog 5 #[.string (S l)] w fun e w' => e = .returned (.bool true) ∧ Below w.heap.size w w' := by
  have hal := fun W => fun (hW : Below w.heap.size w W) => alive6_any m W (hT.next hW) (hM.below hW)
  have HAL := Lib.hid hal
  have i1 := fun W => Tryz.strings_IndexByte (S l) 60 W
  have i2 := fun W => Tryz.strings_IndexByte (S l) 38 W
  have i3 := fun W => Tryz.strings_HasPrefix (S l) (S [239, 187, 191]) W
  rw [S_data] at i1 i2 i3
  rw [S_data] at i3
  have k1 := fun h => index_no (c := 60) (y := l) h
  have k2 := fun h => index_no (c := 38) (y := l) h
  have k3 : Lib.hasPrefix l [239, 187, 191] = hasAt l 0 sBom := rfl
  rw [k3] at i3
  clear k3
  rw [show (60 : Int).toNat.toUInt8 = 60 from rfl] at i1
  rw [show (38 : Int).toNat.toUInt8 = 38 from rfl] at i2
  generalize Lib.indexByte l 60 = A at *
  generalize Lib.indexByte l 38 = B at *
  have hck := fun (h : l.length ≤ 3000) => refCheck_any l w (by omega)
  have hln := fun (h : l.length ≤ 3000) W => refLines_any l W (by omega)
  have htk := fun (h : l.length ≤ 3000) W (hW : Below w.heap.size w W) => tokens_any l m W (hT.next hW) (hM.below hW) (by omega)
  have hpl := fun h60 h38 hb hc => toks_plain (l := l) h60 h38 hb hc
  generalize hH : hasAt l 0 sBom = H at *
  have I1 := Lib.hid i1
  have I2 := Lib.hid i2
  have I3 := Lib.hid i3
  have K1 := Lib.hid k1
  have K2 := Lib.hid k2
  have HCK := Lib.hid hck
  have HLN := Lib.hid hln
  have HTK := Lib.hid htk
  have HPL := Lib.hid hpl
  clear i1 i2 i3 k1 k2 hck hln htk hpl hal hH hT hM
  have hcase : (3000 < (l.length : Int)) ∨ (¬ 3000 < (l.length : Int) ∧ 0 ≤ A) ∨ (¬ 3000 < (l.length : Int) ∧ ¬ 0 ≤ A ∧ 0 ≤ B) ∨ (¬ 3000 < (l.length : Int) ∧ ¬ 0 ≤ A ∧ ¬ 0 ≤ B ∧ H = true) ∨ (¬ 3000 < (l.length : Int) ∧ ¬ 0 ≤ A ∧ ¬ 0 ≤ B ∧ H = false) := by
    cases H <;> simp <;> omega
  rcases hcase with h1 | ⟨h1, h2⟩ | ⟨h1, h2, h3⟩ | ⟨h1, h2, h3, rfl⟩ | ⟨h1, h2, h3, rfl⟩
  · go_enter Tryz.func5, Tryz.ntmps5
    go_wp2_with (go_at_call 14; refine (HAL.out _ (Below.refl _ _)).mono ?_; rintro e w1 ⟨rfl, hb1⟩)
    go_ret
    exact ⟨rfl, hb1⟩
  · go_enter Tryz.func5, Tryz.ntmps5
    go_wp2_with (first
      | (with_reducible refine (I1.out _).mono ?_; rintro e w1 ⟨rfl, rfl⟩)
      | (go_at_call 14; refine (HAL.out _ (Below.refl _ _)).mono ?_; rintro e w1 ⟨rfl, hb1⟩))
    go_ret
    exact ⟨rfl, hb1⟩
  · go_enter Tryz.func5, Tryz.ntmps5
    go_wp2_with (first
      | (with_reducible refine (I1.out _).mono ?_; rintro e w1 ⟨rfl, rfl⟩)
      | (with_reducible refine (I2.out _).mono ?_; rintro e w1 ⟨rfl, rfl⟩)
      | (go_at_call 14; refine (HAL.out _ (Below.refl _ _)).mono ?_; rintro e w1 ⟨rfl, hb1⟩))
    go_ret
    exact ⟨rfl, hb1⟩
  · go_enter Tryz.func5, Tryz.ntmps5
    go_wp2_with (first
      | (with_reducible refine (I1.out _).mono ?_; rintro e w1 ⟨rfl, rfl⟩)
      | (with_reducible refine (I2.out _).mono ?_; rintro e w1 ⟨rfl, rfl⟩)
      | (go_at_call 19; refine (I3.out _).mono ?_; rintro e w1 ⟨rfl, rfl⟩)
      | (go_at_call 14; refine (HAL.out _ (Below.refl _ _)).mono ?_; rintro e w1 ⟨rfl, hb1⟩))
    go_ret
    exact ⟨rfl, hb1⟩
  · have h5 : l.length ≤ 3000 := by omega
    have hck := HCK.out h5
    have htk := HTK.out h5
    have hln := HLN.out h5
    clear HCK HTK HLN
    by_cases hc : (check l).2 = 0
    · have hpl := HPL.out (K1.out h2) (K2.out h3) rfl hc
      rw [hpl] at htk
      have t6 : (((check l).2 : Int) == 0) = true := by rw [hc]; rfl
      have t7 : (((check l).2 : Int) != 0) = false := by rw [bne, t6]; rfl
      have e1 : ((l.length : Int) == (l.length : Int)) = true := by simp
      generalize (check l).2 = Y at *
      generalize (check l).1 = X at *
      have CK := Lib.hid hck
      have HTK := Lib.hid htk
      have HLN := Lib.hid hln
      clear hck htk hln HPL hc hpl
      by_cases h0 : l = []
      · subst h0
        go_enter Tryz.func5, Tryz.ntmps5
        go_wp2_with (first
          | (with_reducible refine (I1.out _).mono ?_; rintro e w1 ⟨rfl, rfl⟩)
          | (with_reducible refine (I2.out _).mono ?_; rintro e w1 ⟨rfl, rfl⟩)
          | (go_at_call 19; refine (I3.out _).mono ?_; rintro e w1 ⟨rfl, rfl⟩)
          | (go_at_call 20; refine CK.out.mono ?_; rintro e w1 ⟨rfl, hb1⟩)
          | (go_at_call 15; refine (HTK.out _ hb1).mono ?_; rintro e w2 ⟨⟨v2, rfl, hr2⟩, hb2⟩; obtain ⟨A2, c2, rfl, _⟩ := (hr2.toksP (p' := fun k => True) (fun _ _ => trivial) (fun _ _ => trivial)).slice)
          | (go_at_call 14; refine (HAL.out _ (hb1.trans (hb2.mono hb1.size))).mono ?_; rintro e w3 ⟨rfl, hb3⟩))
        go_ret
        exact ⟨rfl, (hb1.trans (hb2.mono hb1.size)).trans (hb3.mono (hb1.trans (hb2.mono hb1.size)).size)⟩
      · have e0 : (l == []) = false := by simpa using h0
        rw [if_neg h0] at HTK
        have hLT : (linesB l == linesB l) = true := by simp
        generalize linesB l = L at *
        go_enter Tryz.func5, Tryz.ntmps5
        go_wp2_with (first
          | (with_reducible refine (I1.out _).mono ?_; rintro e w1 ⟨rfl, rfl⟩)
          | (with_reducible refine (I2.out _).mono ?_; rintro e w1 ⟨rfl, rfl⟩)
          | (go_at_call 19; refine (I3.out _).mono ?_; rintro e w1 ⟨rfl, rfl⟩)
          | (go_at_call 20; refine CK.out.mono ?_; rintro e w1 ⟨rfl, hb1⟩)
          | fail)
        refine (HTK.out _ hb1).mono ?_
        rintro e w2 ⟨⟨v2, rfl, hr2⟩, hb2⟩
        have p1 := hr2.toksP (p' := fun k => k < w2.heap.size) (fun k hk => hk.2.1) (fun k hk => (hr2.lt k hk).2)
        obtain ⟨A1, c1, rfl, _⟩ := p1.slice
        obtain ⟨b, cs, rfl, hb, hr, ht⟩ := p1.at_ (i := 0) (by simp)
        obtain ⟨A2, c2, rfl, _, _⟩ := ht.open_
        have F := Lib.hid (fun W (hW : Below w2.heap.size w2 W) => (show W.cell? ⟨b, 0, none⟩ = some (.int .i64 3) ∧ W.cell? ⟨b, 4, none⟩ = some (.string (S L)) ∧ W.cell? ⟨b, 5, none⟩ = some (.int .i64 0) from by
          have h := rangeAt_keep hr (hW.block b hb)
          exact ⟨h 0 _ rfl, h 4 _ rfl, h 5 _ rfl⟩))
        have B2 := Lib.hid (hb1.trans (hb2.mono hb1.size))
        clear hr2 p1 hr ht hb hb1 hb2
        go_wp2_with fail
        refine wp_region_held_drew (S := fun x => x.cell? ⟨b, 0, none⟩ = some (.int .i64 3) ∧ x.cell? ⟨b, 4, none⟩ = some (.string (S L)) ∧ x.cell? ⟨b, 5, none⟩ = some (.int .i64 0)) (by kernel_rfl) ?_ (fun hHeld => ?_)
        · (try dsimp only); exact F.out _ (Below.refl _ _).drew
        refine wpAnyH_ready (rs := [0]) (by kernel_rfl) (by simp) ?_
        refine AllReadyH.cons (o := (⟨some 56, _, _, _, _, _⟩ : Oper)) rfl (fun K hK => ?_) ?_
        rotate_left
        · exact AllReadyH.nil
        go_simp
        (go_at_call 14; (with_reducible refine (HAL.out _ B2.out.drew).mono ?_); rintro e w3 ⟨rfl, hb3⟩; have R := Lib.hid ((Below.refl w2.heap.size w2).drew.trans hb3); clear hb3)
        refine hK.out _ _ ?_ (fun hHeld => ?_)
        · (try dsimp only); exact F.out _ R.out
        clear hK K
        try simp only [Act.put, List.setIfInBounds_toArray, List.set_cons_zero, List.set_cons_succ]
        refine wpAnyH_take (i := 1) (oi := (⟨some 57, _, _, _, _, _⟩ : Oper)) (v := ?_) rfl (by kernel_rfl) (by kernel_rfl) (by kernel_rfl) (fun _ _ _ h => h) (Or.inl ⟨by rfl, ?_⟩) (by assumption) ?_
        rotate_left
        · intro wS hSw; (try dsimp only at hSw); go_simp <;> with_reducible rfl
        simp only [Act.put, List.setIfInBounds_toArray, List.set_cons_zero, List.set_cons_succ]
        refine wpAnyH_take (i := 2) (oi := (⟨some 58, _, _, _, _, _⟩ : Oper)) (v := ?_) rfl (by kernel_rfl) (by kernel_rfl) (by kernel_rfl) (fun _ _ _ h => h) (Or.inl ⟨by rfl, ?_⟩) (by assumption) ?_
        rotate_left
        · intro wS hSw; (try dsimp only at hSw); go_simp <;> with_reducible rfl
        simp only [Act.put, List.setIfInBounds_toArray, List.set_cons_zero, List.set_cons_succ]
        refine wpAnyH_take (i := 3) (oi := (⟨some 59, _, _, _, _, _⟩ : Oper)) (v := ?_) rfl (by kernel_rfl) (by kernel_rfl) (by kernel_rfl) (fun _ _ _ h => h) (Or.inl ⟨by rfl, ?_⟩) (by assumption) ?_
        rotate_left
        · intro wS hSw; (try dsimp only at hSw); go_simp <;> with_reducible rfl
        simp only [Act.put, List.setIfInBounds_toArray, List.set_cons_zero, List.set_cons_succ]
        refine wpAnyH_take (i := 4) (oi := (⟨some 60, _, _, _, _, _⟩ : Oper)) (v := ?_) rfl (by kernel_rfl) (by kernel_rfl) (by kernel_rfl) (fun _ _ _ h => h) (Or.inl ⟨by rfl, ?_⟩) (by assumption) ?_
        rotate_left
        · intro wS hSw; (try dsimp only at hSw); go_simp <;> with_reducible rfl
        simp only [Act.put, List.setIfInBounds_toArray, List.set_cons_zero, List.set_cons_succ]
        refine wpAnyH_take (i := 5) (oi := (⟨some 61, _, _, _, _, _⟩ : Oper)) (v := ?_) rfl (by kernel_rfl) (by kernel_rfl) (by kernel_rfl) (fun _ _ _ h => h) (Or.inl ⟨by rfl, ?_⟩) (by assumption) ?_
        rotate_left
        · intro wS hSw; (try dsimp only at hSw); go_simp <;> with_reducible rfl
        simp only [Act.put, List.setIfInBounds_toArray, List.set_cons_zero, List.set_cons_succ]
        refine wpAnyH_take (i := 6) (oi := (⟨some 62, _, _, _, _, _⟩ : Oper)) (v := ?_) rfl (by kernel_rfl) (by kernel_rfl) (by kernel_rfl) (fun _ _ _ h => h) (Or.inl ⟨by rfl, ?_⟩) (by assumption) ?_
        rotate_left
        · intro wS hSw; (try dsimp only at hSw); go_simp <;> with_reducible rfl
        simp only [Act.put, List.setIfInBounds_toArray, List.set_cons_zero, List.set_cons_succ]
        refine wpAnyH_take (i := 7) (oi := (⟨some 63, _, _, _, _, _⟩ : Oper)) (v := ?_) rfl (by kernel_rfl) (by kernel_rfl) (by kernel_rfl) (fun _ _ _ h => h) (Or.inl ⟨by rfl, ?_⟩) (by assumption) ?_
        rotate_left
        · intro wS hSw; (try dsimp only at hSw); go_simp <;> with_reducible rfl
        simp only [Act.put, List.setIfInBounds_toArray, List.set_cons_zero, List.set_cons_succ]
        refine wpAnyH_take (i := 8) (oi := (⟨some 64, _, _, _, _, _⟩ : Oper)) (v := ?_) rfl (by kernel_rfl) (by kernel_rfl) (by kernel_rfl) (fun _ _ _ h => h) (Or.inl ⟨by rfl, ?_⟩) (by assumption) ?_
        rotate_left
        · intro wS hSw; (try dsimp only at hSw); go_simp <;> with_reducible rfl
        simp only [Act.put, List.setIfInBounds_toArray, List.set_cons_zero, List.set_cons_succ]
        refine wpAnyH_take (i := 9) (oi := (⟨some 65, _, _, _, _, _⟩ : Oper)) (v := ?_) rfl (by kernel_rfl) (by kernel_rfl) (by kernel_rfl) (fun _ _ _ h => h) (Or.inl ⟨by rfl, ?_⟩) (by assumption) ?_
        rotate_left
        · intro wS hSw; (try dsimp only at hSw); go_simp <;> with_reducible rfl
        simp only [Act.put, List.setIfInBounds_toArray, List.set_cons_zero, List.set_cons_succ]
        refine wpAnyH_take (i := 10) (oi := (⟨some 66, _, _, _, _, _⟩ : Oper)) (v := ?_) rfl (by kernel_rfl) (by kernel_rfl) (by kernel_rfl) (fun _ _ _ h => h) (Or.inl ⟨by rfl, ?_⟩) (by assumption) ?_
        rotate_left
        · intro wS hSw; (try dsimp only at hSw); go_simp <;> with_reducible rfl
        simp only [Act.put, List.setIfInBounds_toArray, List.set_cons_zero, List.set_cons_succ]
        refine wpAnyH_take (i := 11) (oi := (⟨some 67, _, _, _, _, _⟩ : Oper)) (v := ?_) rfl (by kernel_rfl) (by kernel_rfl) (by kernel_rfl) (fun _ _ _ h => h) (Or.inl ⟨by rfl, ?_⟩) (by assumption) ?_
        rotate_left
        · intro wS hSw; (try dsimp only at hSw); go_simp <;> with_reducible rfl
        simp only [Act.put, List.setIfInBounds_toArray, List.set_cons_zero, List.set_cons_succ]
        refine wpAnyH_take (i := 12) (oi := (⟨some 68, _, _, _, _, _⟩ : Oper)) (v := ?_) rfl (by kernel_rfl) (by kernel_rfl) (by kernel_rfl) (fun _ _ _ h => h) (Or.inl ⟨by rfl, ?_⟩) (by assumption) ?_
        rotate_left
        · intro wS hSw; (try dsimp only at hSw); go_simp <;> with_reducible rfl
        simp only [Act.put, List.setIfInBounds_toArray, List.set_cons_zero, List.set_cons_succ]
        refine wpAnyH_take (i := 13) (oi := (⟨some 69, _, _, _, _, _⟩ : Oper)) (v := ?_) rfl (by kernel_rfl) (by kernel_rfl) (by kernel_rfl) (fun _ _ _ h => h) (Or.inl ⟨by rfl, ?_⟩) (by assumption) ?_
        rotate_left
        · intro wS hSw; (try dsimp only at hSw); go_simp <;> with_reducible rfl
        simp only [Act.put, List.setIfInBounds_toArray, List.set_cons_zero, List.set_cons_succ]
        refine wpAnyH_take (i := 14) (oi := (⟨some 70, _, _, _, _, _⟩ : Oper)) (v := ?_) rfl (by kernel_rfl) (by kernel_rfl) (by kernel_rfl) (fun _ _ _ h => h) (Or.inl ⟨by rfl, ?_⟩) (by assumption) ?_
        rotate_left
        · intro wS hSw; (try dsimp only at hSw); go_simp <;> with_reducible rfl
        simp only [Act.put, List.setIfInBounds_toArray, List.set_cons_zero, List.set_cons_succ]
        refine wpAnyH_take (i := 15) (oi := (⟨some 71, _, _, _, _, _⟩ : Oper)) (v := ?_) rfl (by kernel_rfl) (by kernel_rfl) (by kernel_rfl) (fun _ _ _ h => h) (Or.inl ⟨by rfl, ?_⟩) (by assumption) ?_
        rotate_left
        · intro wS hSw; (try dsimp only at hSw); go_simp <;> with_reducible rfl
        simp only [Act.put, List.setIfInBounds_toArray, List.set_cons_zero, List.set_cons_succ]
        refine wpAnyH_take (i := 16) (oi := (⟨some 72, _, _, _, _, _⟩ : Oper)) (v := ?_) rfl (by kernel_rfl) (by kernel_rfl) (by kernel_rfl) (fun _ _ _ h => h) (Or.inl ⟨by rfl, ?_⟩) (by assumption) ?_
        rotate_left
        · intro wS hSw; (try dsimp only at hSw); go_simp <;> with_reducible rfl
        simp only [Act.put, List.setIfInBounds_toArray, List.set_cons_zero, List.set_cons_succ]
        refine wpAnyH_take (i := 17) (oi := (⟨some 73, _, _, _, _, _⟩ : Oper)) (v := ?_) rfl (by kernel_rfl) (by kernel_rfl) (by kernel_rfl) (fun _ _ _ h => h) (Or.inl ⟨by rfl, ?_⟩) (by assumption) ?_
        rotate_left
        · intro wS hSw; (try dsimp only at hSw); go_simp <;> with_reducible rfl
        simp only [Act.put, List.setIfInBounds_toArray, List.set_cons_zero, List.set_cons_succ]
        refine wpAnyH_take (i := 18) (oi := (⟨some 74, _, _, _, _, _⟩ : Oper)) (v := ?_) rfl (by kernel_rfl) (by kernel_rfl) (by kernel_rfl) (fun _ _ _ h => h) (Or.inl ⟨by rfl, ?_⟩) (by assumption) ?_
        rotate_left
        · intro wS hSw; (try dsimp only at hSw); go_simp <;> with_reducible rfl
        simp only [Act.put, List.setIfInBounds_toArray, List.set_cons_zero, List.set_cons_succ]
        refine wpAnyH_take (i := 19) (oi := (⟨some 75, _, _, _, _, _⟩ : Oper)) (v := ?_) rfl (by kernel_rfl) (by kernel_rfl) (by kernel_rfl) (fun _ _ _ h => h) (Or.inl ⟨by rfl, ?_⟩) (by assumption) ?_
        rotate_left
        · intro wS hSw; (try dsimp only at hSw); go_simp <;> with_reducible rfl
        simp only [Act.put, List.setIfInBounds_toArray, List.set_cons_zero, List.set_cons_succ]
        refine wpAnyH_take (i := 20) (oi := (⟨some 76, _, _, _, _, _⟩ : Oper)) (v := ?_) rfl (by kernel_rfl) (by kernel_rfl) (by kernel_rfl) (fun _ _ _ h => h) (Or.inl ⟨by rfl, ?_⟩) (by assumption) ?_
        rotate_left
        · intro wS hSw; (try dsimp only at hSw); go_simp <;> with_reducible rfl
        simp only [Act.put, List.setIfInBounds_toArray, List.set_cons_zero, List.set_cons_succ]
        refine wpAnyH_take (i := 21) (oi := (⟨some 77, _, _, _, _, _⟩ : Oper)) (v := ?_) rfl (by kernel_rfl) (by kernel_rfl) (by kernel_rfl) (fun _ _ _ h => h) (Or.inl ⟨by rfl, ?_⟩) (by assumption) ?_
        rotate_left
        · intro wS hSw; (try dsimp only at hSw); go_simp <;> with_reducible rfl
        simp only [Act.put, List.setIfInBounds_toArray, List.set_cons_zero, List.set_cons_succ]
        refine wpAnyH_take (i := 22) (oi := (⟨some 78, _, _, _, _, _⟩ : Oper)) (v := ?_) rfl (by kernel_rfl) (by kernel_rfl) (by kernel_rfl) (fun _ _ _ h => h) (Or.inl ⟨by rfl, ?_⟩) (by assumption) ?_
        rotate_left
        · intro wS hSw; (try dsimp only at hSw); go_simp <;> with_reducible rfl
        simp only [Act.put, List.setIfInBounds_toArray, List.set_cons_zero, List.set_cons_succ]
        refine wpAnyH_take (i := 23) (oi := (⟨some 79, _, _, _, _, _⟩ : Oper)) (v := ?_) rfl (by kernel_rfl) (by kernel_rfl) (by kernel_rfl) (fun _ _ _ h => h) (Or.inl ⟨by rfl, ?_⟩) (by assumption) ?_
        rotate_left
        · intro wS hSw; (try dsimp only at hSw); go_simp <;> with_reducible rfl
        simp only [Act.put, List.setIfInBounds_toArray, List.set_cons_zero, List.set_cons_succ]
        refine wpAnyH_take (i := 24) (oi := (⟨some 80, _, _, _, _, _⟩ : Oper)) (v := ?_) rfl (by kernel_rfl) (by kernel_rfl) (by kernel_rfl) (fun _ _ _ h => h) (Or.inl ⟨by rfl, ?_⟩) (by assumption) ?_
        rotate_left
        · intro wS hSw; (try dsimp only at hSw); go_simp <;> with_reducible rfl
        simp only [Act.put, List.setIfInBounds_toArray, List.set_cons_zero, List.set_cons_succ]
        refine wpAnyH_take (i := 25) (oi := (⟨some 81, _, _, _, _, _⟩ : Oper)) (v := ?_) rfl (by kernel_rfl) (by kernel_rfl) (by kernel_rfl) (fun _ _ _ h => h) (Or.inl ⟨by rfl, ?_⟩) (by assumption) ?_
        rotate_left
        · intro wS hSw; (try dsimp only at hSw); go_simp <;> with_reducible rfl
        simp only [Act.put, List.setIfInBounds_toArray, List.set_cons_zero, List.set_cons_succ]
        refine wpAnyH_ready (rs := [26]) (by kernel_rfl) (by simp) ?_
        refine AllReadyH.cons (o := (⟨some 82, _, _, _, _, _⟩ : Oper)) rfl (fun K hK => ?_) ?_
        rotate_left
        · exact AllReadyH.nil
        go_simp
        (go_at_call 21; (with_reducible refine (HLN.out _).mono ?_); rintro e w4 ⟨rfl, hb4⟩; have R0 := R; clear R; have R := Lib.hid (R0.out.trans (hb4.mono R0.out.size)); clear hb4 R0)
        refine hK.out _ _ ?_ (fun hHeld => ?_)
        · (try dsimp only); exact F.out _ R.out
        clear hK K
        try simp only [Act.put, List.setIfInBounds_toArray, List.set_cons_zero, List.set_cons_succ]
        refine wpAnyH_take (i := 27) (oi := (⟨some 83, _, _, _, _, _⟩ : Oper)) (v := ?_) rfl (by kernel_rfl) (by kernel_rfl) (by kernel_rfl) (fun _ _ _ h => h) (Or.inl ⟨by rfl, ?_⟩) (by assumption) ?_
        rotate_left
        · intro wS hSw; (try dsimp only at hSw); go_simp <;> with_reducible rfl
        simp only [Act.put, List.setIfInBounds_toArray, List.set_cons_zero, List.set_cons_succ]
        refine wpAnyH_take (i := 28) (oi := (⟨some 84, _, _, _, _, _⟩ : Oper)) (v := ?_) rfl (by kernel_rfl) (by kernel_rfl) (by kernel_rfl) (fun _ _ _ h => h) (Or.inl ⟨by rfl, ?_⟩) (by assumption) ?_
        rotate_left
        · intro wS hSw; (try dsimp only at hSw); go_simp <;> with_reducible rfl
        simp only [Act.put, List.setIfInBounds_toArray, List.set_cons_zero, List.set_cons_succ]
        refine wpAnyH_take (i := 29) (oi := (⟨some 2, _, _, _, _, _⟩ : Oper)) (v := ?_) rfl (by kernel_rfl) (by kernel_rfl) (by kernel_rfl) (fun _ _ _ h => h) (Or.inl ⟨by rfl, ?_⟩) (by assumption) ?_
        rotate_left
        · intro wS hSw; (try dsimp only at hSw); go_simp <;> with_reducible rfl
        simp only [Act.put, List.setIfInBounds_toArray, List.set_cons_zero, List.set_cons_succ]
        refine wpAnyH_done (by kernel_rfl) ?_ _
        go_wp2_with fail
        go_ret
        exact ⟨rfl, B2.out.trans (R.out.mono B2.out.size)⟩
    · have t6 : (((check l).2 : Int) == 0) = false := by simp; omega
      have t7 : (((check l).2 : Int) != 0) = true := by rw [bne, t6]; rfl
      generalize (check l).2 = Y at *
      generalize (check l).1 = X at *
      have CK := Lib.hid hck
      clear hck htk hln HPL hc
      go_enter Tryz.func5, Tryz.ntmps5
      go_wp2_with (first
        | (with_reducible refine (I1.out _).mono ?_; rintro e w1 ⟨rfl, rfl⟩)
        | (with_reducible refine (I2.out _).mono ?_; rintro e w1 ⟨rfl, rfl⟩)
        | (go_at_call 19; refine (I3.out _).mono ?_; rintro e w1 ⟨rfl, rfl⟩)
        | (go_at_call 20; refine CK.out.mono ?_; rintro e w1 ⟨rfl, hb1⟩)
        | (go_at_call 14; refine (HAL.out _ hb1).mono ?_; rintro e w2 ⟨rfl, hb2⟩))
      go_ret
      exact ⟨rfl, hb1.trans (hb2.mono hb1.size)⟩
end Go.Proofs.YthbfahbjfioghaaGreatDoor
