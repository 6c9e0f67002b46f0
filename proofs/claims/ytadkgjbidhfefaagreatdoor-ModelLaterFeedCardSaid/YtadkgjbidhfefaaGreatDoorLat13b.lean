/-
  Walks of chapter 13: LaterEntry (the program).
-/
import Derived.Test.YtadkgjbidhfefaaGreatDoorLat13
set_option linter.unusedVariables false
namespace Go.Proofs.YtadkgjbidhfefaaGreatDoor
open Go.RowKit

set_option maxHeartbeats 1000000 in
theorem updOf_any (e : En) (w : World) : Calls Tryz.prog 43 #[entV e] w fun x w' => x = .returned (.int .i64 e.upd) ∧ Below w.heap.size w w' := by
  go_enter Tryz.func43, Tryz.ntmps43
  go_wp2
  go_ret
  exact ⟨rfl, (Below.refl _ _).alloc (Nat.le_refl _) _⟩

set_option maxHeartbeats 8000000 in
set_option maxRecDepth 100000 in
theorem laterE_any (a b : En) (w : World) (hT : TabJ w) (hf : EFit a) (hg : EFit b) (hs : a.id.length + a.title.length + a.link.length + a.content.length ≤ 100000) (ht : b.id.length + b.title.length + b.link.length + b.content.length ≤ 100000) :
    Calls Tryz.prog 42 #[entV a, entV b, .func (.func 43) #[] #[], .func (.func 13) #[] #[]] w fun x w' => x = .returned (entV (lat3 cmpK a b)) ∧ Below w.heap.size w w' := by
  have E0 := Lib.hid (Ent3.new w a b)
  have F3 : Hid (Below w.heap.size w (((w.alloc (entBox a)).alloc (entBox b)).alloc zEntO)) := (((Below.refl _ _).alloc (Nat.le_refl _) _).alloc (by simp) _).alloc (by simp; omega) _
  have hka := fun W => fun (hW : Below w.heap.size w W) => entryKey_any a W (hT.next hW) hf hs
  have hkb := fun W => fun (hW : Below w.heap.size w W) => entryKey_any b W (hT.next hW) hg ht
  rw [show keyOf (entVal a) = kE a from rfl] at hka
  rw [show keyOf (entVal b) = kE b from rfl] at hkb
  have hua := fun W => updOf_any a W
  have hub := fun W => updOf_any b W
  have hc := fun W => cmpInt_any a.upd b.upd W
  have HKA := Lib.hid hka
  have HKB := Lib.hid hkb
  have HUA := Lib.hid hua
  have HUB := Lib.hid hub
  have KEEP : Hid (∀ W, Below (w.heap.size + 3) (((w.alloc (entBox a)).alloc (entBox b)).alloc zEntO) W → Ent3 W w.heap.size a b) := fun W hW => E0.out.next (by simpa using hW)
  clear hka hkb hua hub hT hf hg hs ht
  have hways : (cmpI a.upd b.upd = -1 ∧ lat3 cmpK a b = b) ∨ (cmpI a.upd b.upd = 1 ∧ lat3 cmpK a b = a) ∨ (cmpI a.upd b.upd = 0 ∧ lat3 cmpK a b = if cmpB (kE a) (kE b) = -1 then b else a) := by
    rcases ordI.rng a.upd b.upd with h | h | h
    · exact .inl ⟨h, by unfold lat3 cmpK lex3; simp [h]⟩
    · exact .inr (.inr ⟨h, by unfold lat3 cmpK lex3; simp [h]⟩)
    · exact .inr (.inl ⟨h, by unfold lat3 cmpK lex3; simp [h]⟩)
  generalize cmpI a.upd b.upd = c at *
  generalize lat3 cmpK a b = L at *
  have HC := Lib.hid hc
  clear hc
  obtain ⟨⟨a0, a1, a2, a3, a4⟩, b0, b1, b2, b3, b4⟩ := E0.out.cells
  go_enter Tryz.func42, Tryz.ntmps42
  go_wp2_with fail
  clear a0 a1 a2 a3 a4 b0 b1 b2 b3 b4
  go_region_held3 (fun x => (x.cell? ⟨w.heap.size, 0, none⟩ = some (.string (S a.id)) ∧ x.cell? ⟨w.heap.size, 1, none⟩ = some (.string (S a.title)) ∧ x.cell? ⟨w.heap.size, 2, none⟩ = some (.string (S a.link)) ∧ x.cell? ⟨w.heap.size, 3, none⟩ = some (.string (S a.content)) ∧ x.cell? ⟨w.heap.size, 4, none⟩ = some (.int .i64 a.upd)) ∧
      (x.cell? ⟨w.heap.size + 1, 0, none⟩ = some (.string (S b.id)) ∧ x.cell? ⟨w.heap.size + 1, 1, none⟩ = some (.string (S b.title)) ∧ x.cell? ⟨w.heap.size + 1, 2, none⟩ = some (.string (S b.link)) ∧ x.cell? ⟨w.heap.size + 1, 3, none⟩ = some (.string (S b.content)) ∧ x.cell? ⟨w.heap.size + 1, 4, none⟩ = some (.int .i64 b.upd)))
    (first | exact (KEEP.out _ r2).cells | exact (KEEP.out _ r1).cells | exact (KEEP.out _ (Below.refl _ _).drew).cells)
    (first
      | ((go_at_call 43; (with_reducible refine (HUA.out _).mono ?_); rintro x w2 ⟨rfl, hb2⟩; have r2 := r1.trans (hb2.mono hz1); have hz2 : w.heap.size + 3 ≤ w2.heap.size := (by have := r2.size; simpa using this); clear hb2))
      | ((go_at_call 43; (with_reducible refine (HUB.out _).mono ?_); rintro x w2 ⟨rfl, hb2⟩; have r2 := r1.trans (hb2.mono hz1); have hz2 : w.heap.size + 3 ≤ w2.heap.size := (by have := r2.size; simpa using this); clear hb2))
      | ((go_at_call 43; (with_reducible refine (HUA.out _).mono ?_); rintro x w1 ⟨rfl, hb1⟩; have r1 := (Below.refl (w.heap.size + 3) (((w.alloc (entBox a)).alloc (entBox b)).alloc zEntO)).drew.trans (hb1.mono (by simp)); have hz1 : w.heap.size + 3 ≤ w1.heap.size := (by have := r1.size; simpa using this); clear hb1))
      | ((go_at_call 43; (with_reducible refine (HUB.out _).mono ?_); rintro x w1 ⟨rfl, hb1⟩; have r1 := (Below.refl (w.heap.size + 3) (((w.alloc (entBox a)).alloc (entBox b)).alloc zEntO)).drew.trans (hb1.mono (by simp)); have hz1 : w.heap.size + 3 ≤ w1.heap.size := (by have := r1.size; simpa using this); clear hb1))
      | ((go_at_call 29; (with_reducible refine (HC.out _).mono ?_); rintro x wq ⟨rfl, rfl⟩)))
  all_goals
    have HR2 := Lib.hid r2
    have hE2 := (KEEP.out _ r2).cells
    obtain ⟨⟨a0, a1, a2, a3, a4⟩, b0, b1, b2, b3, b4⟩ := hE2
    clear r1 r2
    rcases hways with ⟨hcc, hLL⟩ | ⟨hcc, hLL⟩ | ⟨hcc, hLL⟩
    · subst hcc hLL
      go_wp2_with fail
      go_quiet (fail)
      have R1 := (KEEP.out _ (HR2.out.trans ((below_drewN13 wq nq).mono hz2))).res
      go_wp2_with (with_reducible refine gate ?_; refine wp_store_ent rfl _ _ rfl (w.heap.size + 1 + 1) _ _ _ _ _ _ rfl rfl R1 rfl ?_; intro w4 hw4 hu4)
      refine bodyPost_ret (v := .agg _) (res_whole Tryz.results42 _ _ (w.heap.size + 1 + 1) rfl _ _ hw4 Tryz.underlying39 rfl entSize) rfl ⟨rfl, ?_⟩
      exact (F3.out.trans ((HR2.out.trans ((below_drewN13 wq nq).mono hz2)).mono (by omega))).trans (hu4.below (by omega) (by simp; omega))
    · subst hcc hLL
      go_wp2_with fail
      go_quiet (fail)
      have R1 := (KEEP.out _ (HR2.out.trans ((below_drewN13 wq nq).mono hz2))).res
      go_wp2_with (with_reducible refine gate ?_; refine wp_store_ent rfl _ _ rfl (w.heap.size + 1 + 1) _ _ _ _ _ _ rfl rfl R1 rfl ?_; intro w4 hw4 hu4)
      refine bodyPost_ret (v := .agg _) (res_whole Tryz.results42 _ _ (w.heap.size + 1 + 1) rfl _ _ hw4 Tryz.underlying39 rfl entSize) rfl ⟨rfl, ?_⟩
      exact (F3.out.trans ((HR2.out.trans ((below_drewN13 wq nq).mono hz2)).mono (by omega))).trans (hu4.below (by omega) (by simp; omega))
    · have hway : ∃ X : Bool, Op.bytesLess (kE a) (kE b) = X ∧ L = if X = true then b else a := by
        by_cases h : cmpB (kE a) (kE b) = -1
        · exact ⟨true, less_yes h, by rw [hLL, if_pos h]; rfl⟩
        · exact ⟨false, less_no h, by rw [hLL, if_neg h]; rfl⟩
      obtain ⟨X, hX, hr⟩ := hway
      subst hcc
      clear hLL a0 a1 a2 a3 a4 b0 b1 b2 b3 b4
      generalize kE a = ka at *
      generalize kE b = kb at *
      have hw0 : Below w.heap.size w wq := F3.out.trans (HR2.out.mono (by omega))
      have HW0 := Lib.hid hw0
      clear hw0
      cases X
      all_goals
        have HRL := Lib.hid hr
        clear hr
        go_wp2_with fail
        go_region_held3 (fun x => (x.cell? ⟨w.heap.size, 0, none⟩ = some (.string (S a.id)) ∧ x.cell? ⟨w.heap.size, 1, none⟩ = some (.string (S a.title)) ∧ x.cell? ⟨w.heap.size, 2, none⟩ = some (.string (S a.link)) ∧ x.cell? ⟨w.heap.size, 3, none⟩ = some (.string (S a.content)) ∧ x.cell? ⟨w.heap.size, 4, none⟩ = some (.int .i64 a.upd)) ∧
          (x.cell? ⟨w.heap.size + 1, 0, none⟩ = some (.string (S b.id)) ∧ x.cell? ⟨w.heap.size + 1, 1, none⟩ = some (.string (S b.title)) ∧ x.cell? ⟨w.heap.size + 1, 2, none⟩ = some (.string (S b.link)) ∧ x.cell? ⟨w.heap.size + 1, 3, none⟩ = some (.string (S b.content)) ∧ x.cell? ⟨w.heap.size + 1, 4, none⟩ = some (.int .i64 b.upd)))
          (first | exact (KEEP.out _ r4).cells | exact (KEEP.out _ r3).cells | exact (KEEP.out _ HR2.out.drew).cells)
          (first
            | ((go_at_call 13; (with_reducible refine (HKA.out _ (F3.out.trans (r3.mono (by omega)))).mono ?_); rintro x w4 ⟨rfl, hb4⟩; have r4 := r3.trans (hb4.mono hz3); have hz4 : w.heap.size + 3 ≤ w4.heap.size := (by have := r4.size; simpa using this); clear hb4))
            | ((go_at_call 13; (with_reducible refine (HKB.out _ (F3.out.trans (r3.mono (by omega)))).mono ?_); rintro x w4 ⟨rfl, hb4⟩; have r4 := r3.trans (hb4.mono hz3); have hz4 : w.heap.size + 3 ≤ w4.heap.size := (by have := r4.size; simpa using this); clear hb4))
            | ((go_at_call 13; (with_reducible refine (HKA.out _ HW0.out.drew).mono ?_); rintro x w3 ⟨rfl, hb3⟩; have r3 := HR2.out.drew.trans (hb3.mono (by simpa using hz2)); have hz3 : w.heap.size + 3 ≤ w3.heap.size := (by have := r3.size; simpa using this); clear hb3))
            | ((go_at_call 13; (with_reducible refine (HKB.out _ HW0.out.drew).mono ?_); rintro x w3 ⟨rfl, hb3⟩; have r3 := HR2.out.drew.trans (hb3.mono (by simpa using hz2)); have hz3 : w.heap.size + 3 ≤ w3.heap.size := (by have := r3.size; simpa using this); clear hb3)))
        all_goals
          have R4 := (KEEP.out _ r4).res
          have HR4 := Lib.hid r4
          clear r3 r4
          go_wp2_with (with_reducible refine gate ?_; refine wp_store_ent rfl _ _ rfl (w.heap.size + 1 + 1) _ _ _ _ _ _ rfl rfl R4 rfl ?_; intro w5 hw5 hu5)
          refine bodyPost_ret (v := .agg _) (res_whole Tryz.results42 _ _ (w.heap.size + 1 + 1) rfl _ _ hw5 Tryz.underlying39 rfl entSize) rfl ⟨by rw [HRL.out]; rfl, ?_⟩
          exact (F3.out.trans (HR4.out.mono (by omega))).trans (hu5.below (by omega) (by omega))
end Go.Proofs.YtadkgjbidhfefaaGreatDoor
