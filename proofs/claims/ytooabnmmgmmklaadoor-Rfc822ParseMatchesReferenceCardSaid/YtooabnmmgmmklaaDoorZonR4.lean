/-
  Walks of chapter 4: zones (the reference).
-/
import Derived.Test.YtooabnmmgmmklaaDoorZonP4
import Derived.Test.YtooabnmmgmmklaaDoorCivP7
import Derived.Deep.RegionHeld3
set_option linter.unusedVariables false
namespace Go.Proofs.YtooabnmmgmmklaaDoor
open Go.RowKit

def zNames : Array Value := #[.string ⟨#[117, 116]⟩, .string ⟨#[117, 116, 99]⟩, .string ⟨#[103, 109, 116]⟩, .string ⟨#[122]⟩, .string ⟨#[101, 115, 116]⟩, .string ⟨#[101, 100, 116]⟩, .string ⟨#[99, 115, 116]⟩, .string ⟨#[99, 100, 116]⟩, .string ⟨#[109, 115, 116]⟩, .string ⟨#[109, 100, 116]⟩, .string ⟨#[112, 115, 116]⟩, .string ⟨#[112, 100, 116]⟩]
def zHours : Array Value := #[.int .i64 0, .int .i64 0, .int .i64 0, .int .i64 0, .int .i64 (-5), .int .i64 (-4), .int .i64 (-6), .int .i64 (-5), .int .i64 (-7), .int .i64 (-6), .int .i64 (-8), .int .i64 (-7)]
theorem zn_at (k : Nat) (hk : k < 12) : ∃ x n, zoneTab[k]? = some (x, n) ∧ zNames[k]? = some (.string (S x)) ∧ zHours[k]? = some (.int .i64 n) ∧ -8 ≤ n ∧ n ≤ 0 := by
  match k, hk with
  | 0, _ => exact ⟨_, _, rfl, rfl, rfl, by decide, by decide⟩
  | 1, _ => exact ⟨_, _, rfl, rfl, rfl, by decide, by decide⟩
  | 2, _ => exact ⟨_, _, rfl, rfl, rfl, by decide, by decide⟩
  | 3, _ => exact ⟨_, _, rfl, rfl, rfl, by decide, by decide⟩
  | 4, _ => exact ⟨_, _, rfl, rfl, rfl, by decide, by decide⟩
  | 5, _ => exact ⟨_, _, rfl, rfl, rfl, by decide, by decide⟩
  | 6, _ => exact ⟨_, _, rfl, rfl, rfl, by decide, by decide⟩
  | 7, _ => exact ⟨_, _, rfl, rfl, rfl, by decide, by decide⟩
  | 8, _ => exact ⟨_, _, rfl, rfl, rfl, by decide, by decide⟩
  | 9, _ => exact ⟨_, _, rfl, rfl, rfl, by decide, by decide⟩
  | 10, _ => exact ⟨_, _, rfl, rfl, rfl, by decide, by decide⟩
  | 11, _ => exact ⟨_, _, rfl, rfl, rfl, by decide, by decide⟩
theorem list5 {l : Bytes} (h : l.length = 5) : ∃ a b c d f, l = [a, b, c, d, f] := by
  match l, h with
  | [a, b, c, d, f], _ => exact ⟨a, b, c, d, f, rfl⟩
theorem find_at {s : Bytes} {k : Nat} {x : Bytes} {n : Int} (h : zoneTab[k]? = some (x, n)) : (zoneTab.drop k).find? (fun y => y.1 == s) = if x == s then some (x, n) else (zoneTab.drop (k + 1)).find? (fun y => y.1 == s) := by
  obtain ⟨hk, he⟩ := List.getElem?_eq_some_iff.1 h
  rw [List.drop_eq_getElem_cons hk, List.find?_cons, he]
  cases x == s <;> rfl
theorem numR_bound (l : Bytes) (a : Nat) : -1 ≤ numR l a 2 ∧ numR l a 2 < 100 := by
  unfold numR
  split
  · rename_i h
    have hv := valD_bound _ 0 h.2
    have hlen : ((l.drop a).take 2).length ≤ 2 := by rw [List.length_take]; omega
    have hle : 10 ^ ((l.drop a).take 2).length ≤ 10 ^ 2 := Nat.pow_le_pow_right (by decide) hlen
    omega
  · omega

set_option maxHeartbeats 4000000 in
set_option maxRecDepth 100000 in
theorem refZone_any (l : Bytes) (w : World) (hl : l.length ≤ 1000000) :
    Calls Tryd.prog 36 #[.string (S l)] w fun e w' => e = .returned (.tuple #[.int .i64 (zV (zoneR l)), .bool (zoneR l).isSome]) ∧ Below w.heap.size w w' := by
  obtain ⟨Z, hZ⟩ : ∃ Z, zoneR l = Z := ⟨_, rfl⟩
  rw [hZ]
  unfold zoneR at hZ
  have hc := fun W => refLower_any l W (by omega)
  generalize hf : zoneTab.find? (fun x => x.1 == lowS l) = F at *
  generalize lowS l = D at *
  have HC := Lib.hid hc
  have hn1 := fun W => refNumber_any l 1 2 (by decide) (by decide) W hl
  have hn3 := fun W => refNumber_any l 3 2 (by decide) (by decide) W hl
  have hb1 := numR_bound l 1
  have hb3 := numR_bound l 3
  generalize numR l 1 2 = hh at *
  generalize numR l 3 2 = mm at *
  have HN1 := Lib.hid (show ∀ W, Calls Tryd.prog 24 #[.string (S l), .int .i64 1, .int .i64 2] W fun e w' => e = .returned (.int .i64 hh) ∧ W = w' from hn1)
  have HN3 := Lib.hid (show ∀ W, Calls Tryd.prog 24 #[.string (S l), .int .i64 3, .int .i64 2] W fun e w' => e = .returned (.int .i64 mm) ∧ W = w' from hn3)
  have HZ := Lib.hid hZ
  have HF := Lib.hid hf
  clear hc hZ hf hn1 hn3
  go_enter Tryd.func36, Tryd.ntmps36
  go_wp2_with fail
  obtain ⟨W1, hW1⟩ : ∃ W1, W1 = (w.alloc (.cells zNames 49)).alloc (.cells zHours 87) := ⟨_, rfl⟩
  have hx0 : W1.heap[w.heap.size]? = some (.cells zNames 49 (0, 0)) := by rw [hW1]; exact alloc_old (heap_alloc_new w _)
  have hx1 : W1.heap[w.heap.size + 1]? = some (.cells zHours 87 (0, 0)) := by rw [hW1]; exact alloc_at (by simp)
  have hbw : Below w.heap.size w W1 := by rw [hW1]; exact ((Below.refl _ _).alloc (Nat.le_refl _) _).alloc (by simp) _
  have hsz1 := heap_lt hx1
  have HX0 := Lib.hid hx0
  have HX1 := Lib.hid hx1
  have HBW := Lib.hid hbw
  clear hx0 hx1 hbw
  unfold zNames zHours at hW1
  rw [← hW1]
  clear hW1
  go_loopw [6] (fun s6 wr => ∃ k : Nat, k ≤ 12 ∧ s6 = .int .i64 (k : Int) ∧ (zoneTab.drop k).find? (fun y => y.1 == D) = F ∧ Below W1.heap.size W1 wr) (fun s6 _ => 12 - (intOf s6).toNat)
  case atStart => exact ⟨0, by omega, rfl, HF.out, Below.refl _ _⟩
  case round =>
    obtain ⟨k, hk, rfl, hfd, hb⟩ := hrel
    have HB := Lib.hid hb
    have hsz := hb.size
    clear hb
    by_cases hlt : k < 12
    · have hlt' : (k : Int) < 12 := by omega
      obtain ⟨x, n, hxn, hxa, hxh, x1, x2⟩ := zn_at k hlt
      rw [find_at hxn] at hfd
      have hc1 : wr.cell? ⟨w.heap.size, k, none⟩ = some (.string (S x)) := by rw [cell_block ((HB.out.block _ (by omega)).trans HX0.out)]; exact hxa
      cases ht : D == x with
      | true =>
        have hxd : (x == D) = true := by rw [eq_of_beq ht]; simp
        rw [hxd, if_pos rfl] at hfd
        subst hfd
        have hz := HZ.out
        simp only [] at hz
        subst hz
        clear hxd hxn hxa HZ HF
        go_wp2_with fail
        go_region_held3 (fun y => y.cell? ⟨w.heap.size, k, none⟩ = some (.string (S x))) (first | exact hc1 | exact hc2)
          (first
            | ((go_at_call 58; refine (HC.out _).mono ?_; rintro e w2 ⟨rfl, hb2⟩; have hc2 := (hb2.cell (p := ⟨w.heap.size, k, none⟩) (show w.heap.size < wr.drew.heap.size by simp; omega)).trans hc1)))
        have c3 : w2.cell? ⟨w.heap.size + 1, k, none⟩ = some (.int .i64 n) := by
          rw [cell_block ((hb2.block _ (show w.heap.size + 1 < wr.drew.heap.size by simp; omega)).trans ((HB.out.block _ hsz1).trans HX1.out))]; exact hxh
        have HB2 := Lib.hid (show Below wr.heap.size wr w2 from below_undrew hb2)
        clear hb2 hc2 hxh
        go_wp2_with fail
        go_ret2
        exact ⟨rfl, HBW.out.trans ((HB.out.mono (by omega)).trans (HB2.out.mono (by omega)))⟩
      | false =>
        have hxd : (x == D) = false := by
          rw [beq_eq_false_iff_ne]; intro e; rw [e] at ht; simp at ht
        rw [hxd, if_neg (by decide)] at hfd
        have HFD := Lib.hid hfd
        clear hxd hxn hxa hfd
        go_wp2_with fail
        go_region_held3 (fun y => y.cell? ⟨w.heap.size, k, none⟩ = some (.string (S x))) (first | exact hc1 | exact hc2)
          (first
            | ((go_at_call 58; refine (HC.out _).mono ?_; rintro e w2 ⟨rfl, hb2⟩; have hc2 := (hb2.cell (p := ⟨w.heap.size, k, none⟩) (show w.heap.size < wr.drew.heap.size by simp; omega)).trans hc1)))
        have HB2 := Lib.hid (show Below wr.heap.size wr w2 from below_undrew hb2)
        clear hb2 hc2 hxh
        go_wp2_with fail
        go_roundw
        case rel => exact ⟨k + 1, by omega, by go_num, HFD.out, HB.out.trans (HB2.out.mono (by omega))⟩
        case measure => simp [intOf]; omega
    · obtain rfl : k = 12 := by omega
      have hF0 : none = F := hfd
      subst hF0
      have hz := HZ.out
      simp only [] at hz
      have HBB := Lib.hid (HBW.out.trans (HB.out.mono (by omega)))
      obtain ⟨b1, b2⟩ := hb1
      obtain ⟨b3, b4⟩ := hb3
      clear HZ HF hfd HC
      by_cases h5 : l.length = 5
      · obtain ⟨a, b, c, d, f, rfl⟩ := list5 h5
        have hdum : True := trivial
        · have ha0 : ([a, b, c, d, f] : Bytes).getD 0 0 = a := rfl
          rw [ha0] at hz
          have hb8 := u8_lt a
          have e43 : a = 43 ↔ a.toNat = 43 := ⟨fun h => by rw [h]; rfl, fun h => UInt8.toNat_inj.1 (by rw [h]; rfl)⟩
          have e45 : a = 45 ↔ a.toNat = 45 := ⟨fun h => by rw [h]; rfl, fun h => UInt8.toNat_inj.1 (by rw [h]; rfl)⟩
          by_cases hs : a.toNat = 43 ∨ a.toNat = 45
          · have hsg : (((a.toNat : Int) != 43) = false) ∨ (((a.toNat : Int) != 43) = true ∧ ((a.toNat : Int) != 45) = false) := by
              rcases hs with h | h
              · exact .inl (by rw [h]; rfl)
              · exact .inr ⟨by rw [h]; rfl, by rw [h]; rfl⟩
            by_cases hbig : hh < 0 ∨ 23 < hh ∨ mm < 0 ∨ 59 < mm
            · rw [if_pos (.inr (.inr hbig))] at hz
              subst hz
              have hbig' : hh < 0 ∨ (¬ hh < 0 ∧ 23 < hh) ∨ (¬ hh < 0 ∧ ¬ 23 < hh ∧ mm < 0) ∨ (¬ hh < 0 ∧ ¬ 23 < hh ∧ ¬ mm < 0 ∧ 59 < mm) := by omega
              clear ha0 e43 e45 hs hbig
              rcases hsg with t1 | ⟨t1, t2⟩
              all_goals
                rcases hbig' with k1 | ⟨k1, k2⟩ | ⟨k1, k2, k3⟩ | ⟨k1, k2, k3, k4⟩
                all_goals
                  go_wp2_with (first | (go_at_call 24; (with_reducible refine (HN1.out _).mono ?_); rintro e w2 ⟨rfl, rfl⟩) | (go_at_call 24; (with_reducible refine (HN3.out _).mono ?_); rintro e w2 ⟨rfl, rfl⟩))
                  go_ret2
                  exact ⟨rfl, HBB.out⟩
            · rw [if_neg (by
                rintro (h | h | h)
                · exact h rfl
                · rw [Ne, e43, Ne, e45] at h; exact hs.elim h.1 h.2
                · exact hbig h)] at hz
              have k1 : ¬ hh < 0 := by omega
              have k2 : ¬ 23 < hh := by omega
              have k3 : ¬ mm < 0 := by omega
              have k4 : ¬ 59 < mm := by omega
              by_cases hm : a.toNat = 45
              · have t4 : ((a.toNat : Int) == 45) = true := by rw [hm]; rfl
                rw [if_pos (e45.2 hm)] at hz
                subst hz
                clear ha0 e43 e45 hs hbig hm
                rcases hsg with t1 | ⟨t1, t2⟩
                all_goals
                  go_wp2_with (first | (go_at_call 24; (with_reducible refine (HN1.out _).mono ?_); rintro e w2 ⟨rfl, rfl⟩) | (go_at_call 24; (with_reducible refine (HN3.out _).mono ?_); rintro e w2 ⟨rfl, rfl⟩))
                  go_ret2
                  exact ⟨ret_IB (by simp [zV]) rfl, HBB.out⟩
              · have t4 : ((a.toNat : Int) == 45) = false := by rw [beq_eq_false_iff_ne]; omega
                rw [if_neg (fun h => hm (e45.1 h))] at hz
                subst hz
                clear ha0 e43 e45 hs hbig hm
                rcases hsg with t1 | ⟨t1, t2⟩
                all_goals
                  go_wp2_with (first | (go_at_call 24; (with_reducible refine (HN1.out _).mono ?_); rintro e w2 ⟨rfl, rfl⟩) | (go_at_call 24; (with_reducible refine (HN3.out _).mono ?_); rintro e w2 ⟨rfl, rfl⟩))
                  go_ret2
                  exact ⟨ret_IB (by simp [zV]) rfl, HBB.out⟩
          · rw [if_pos (.inr (.inl ⟨fun h => hs (.inl (e43.1 h)), fun h => hs (.inr (e45.1 h))⟩))] at hz
            subst hz
            have t1 : ((a.toNat : Int) != 43) = true := by rw [bne_iff_ne]; omega
            have t2 : ((a.toNat : Int) != 45) = true := by rw [bne_iff_ne]; omega
            clear ha0 e43 e45 hs
            go_wp2_with (first | (go_at_call 24; (with_reducible refine (HN1.out _).mono ?_); rintro e w2 ⟨rfl, rfl⟩) | (go_at_call 24; (with_reducible refine (HN3.out _).mono ?_); rintro e w2 ⟨rfl, rfl⟩))
            go_ret2
            exact ⟨rfl, HBB.out⟩
      · rw [if_pos (.inl h5)] at hz
        subst hz
        have t5 : ((l.length : Int) != 5) = true := by rw [bne_iff_ne]; omega
        go_wp2_with (first | (go_at_call 24; (with_reducible refine (HN1.out _).mono ?_); rintro e w2 ⟨rfl, rfl⟩) | (go_at_call 24; (with_reducible refine (HN3.out _).mono ?_); rintro e w2 ⟨rfl, rfl⟩))
        go_ret2
        exact ⟨rfl, HBB.out⟩
end Go.Proofs.YtooabnmmgmmklaaDoor
