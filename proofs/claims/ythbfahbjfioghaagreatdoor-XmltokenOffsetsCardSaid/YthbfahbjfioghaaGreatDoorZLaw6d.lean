/-
  Walk of chapter 6's statement Offsets.
-/
import Derived.Test.YthbfahbjfioghaaGreatDoorG1
import Derived.Test.YthbfahbjfioghaaGreatDoorTok4
set_option linter.unusedVariables false
namespace Go.Proofs.YthbfahbjfioghaaGreatDoor
open Go.RowKit

set_option maxHeartbeats 2000000 in
set_option maxRecDepth 100000 in
theorem law6offsets_any (l : Bytes) (m : Int) (w : World) (hT : Tabs w) (hM : MaxLen m w) (hl : l.length ≤ 9223372036854775807) :
    Calls Tryz.prog 4 #[.string (S l)] w fun e w' => e = .returned (.bool true) ∧ Below w.heap.size w w' := by
  have hal := fun W => fun (hW : Below w.heap.size w W) => alive6_any m W (hT.next hW) (hM.below hW)
  have HAL := Lib.hid hal
  by_cases h5 : 3000 < l.length
  · have h5' : (3000 : Int) < l.length := by omega
    clear hal hT hM
    go_enter Tryz.func4, Tryz.ntmps4
    go_wp2_with (go_at_call 14; refine (HAL.out _ (Below.refl _ _)).mono ?_; rintro e w1 ⟨rfl, hb1⟩)
    go_ret
    exact ⟨rfl, hb1⟩
  · have h5' : ¬ (3000 : Int) < l.length := by omega
    have h1 := tokens_any l m w hT hM (by omega)
    have hn := (toks_all l).1
    have hf := toks_facts l
    generalize toks l = R at *
    obtain ⟨ts, x, y⟩ := R
    obtain ⟨hoff, hat, hx, hok, her⟩ := hf
    simp only at hoff hat hx hok her hn h1
    have H1 := Lib.hid h1
    have HO := Lib.hid hoff
    have HK := Lib.hid hok
    have HE := Lib.hid her
    have HN := Lib.hid hn
    clear hal hT hM h1 hoff hat hok her hn
    go_enter Tryz.func4, Tryz.ntmps4
    go_wp2_with fail
    refine H1.out.mono ?_
    rintro e w1 ⟨⟨v1, rfl, hr1⟩, hb1⟩
    have p1 := hr1.toksP (p' := fun k => k < w1.heap.size) (fun k hk => hk.2.1) (fun k hk => (hr1.lt k hk).2)
    obtain ⟨A1, c1, rfl, _⟩ := p1.slice
    have P1 := Lib.hid p1
    have B1 := Lib.hid hb1
    clear hr1 hb1 p1
    go_wp2_with fail
    go_loopw [6, 21] (fun i6 i21 wr => ∃ i : Nat, i ≤ ts.length ∧ i21 = .int .i64 i ∧ i6 = .int .i64 (prevP ts i) ∧ Below w1.heap.size w1 wr) (fun _ i21 _ => ts.length - (intOf i21).toNat)
    case atStart => exact ⟨0, Nat.zero_le _, rfl, rfl, Below.refl _ _⟩
    case round =>
      obtain ⟨i, hi, rfl, rfl, hB⟩ := hrel
      have HB := Lib.hid hB
      have hsz := hB.size
      have hn := HN.out
      clear hB
      by_cases hlt : i < ts.length
      · have hlt' : (i : Int) < ts.length := by omega
        have k1 := ToksP.keep P1.out (w' := wr) (p' := fun k => k < w1.heap.size) (fun k hk => HB.out.block k hk) (fun _ h => h)
        obtain ⟨b, cs, rfl, hb, hr, ht⟩ := k1.at_ hlt
        have o1 := HO.out.inc i hlt
        have o2 := HO.out.lt ts[i] (List.getElem_mem hlt)
        have o3 : prevP ts (i + 1) = ts[i].pos := by simp [prevP, hlt]
        have O3 := Lib.hid o3
        clear o3
        generalize ts[i] = t at *
        obtain ⟨A2, c2, rfl, ha1, hc1⟩ := ht.open_
        obtain ⟨W1, hW1⟩ : ∃ W1, wr.alloc (.cells (tokCells t A2 c2) 34) = W1 := ⟨_, rfl⟩
        have hg1 : W1.heap[wr.heap.size]? = some (.cells (tokCells t A2 c2) 34 (0, 0)) := by rw [← hW1]; exact heap_alloc_new _ _
        have hBW : Below wr.heap.size wr W1 := by rw [← hW1]; exact (Below.refl _ _).alloc (Nat.le_refl _) _
        obtain ⟨x0, x1, x2, x3, x4, x5⟩ := cells6 hg1
        have HBW := Lib.hid (HB.out.trans (hBW.mono hsz))
        have HW1 := Lib.hid hW1
        have o4 : ¬ t.pos ≤ prevP ts i := by omega
        have o5 : ¬ (l.length : Int) ≤ t.pos := by omega
        generalize prevP ts i = z at *
        clear k1 hb ht ha1 hg1 hBW o1 o2
        go_wp2_with (with_reducible refine gate ?_; refine wp_load_tok proTokTy rfl _ rfl b (i * 6) rfl _ rfl hr ?_)
        go_roundw
        case rel => exact ⟨i + 1, by omega, by go_num, by rw [O3.out], HBW.out⟩
        case measure => simp [intOf]; omega
      · obtain rfl : i = ts.length := by omega
        have y1 : (0 : Int) ≤ (x : Int) := by omega
        have y2 : (x : Int) ≤ l.length := by omega
        by_cases hy : y = 0
        · have y3 := HK.out hy
          subst hy
          subst y3
          go_wp2_with (go_at_call 14; refine (HAL.out _ (B1.out.trans (HB.out.mono B1.out.size))).mono ?_; rintro e w3 ⟨rfl, hb3⟩)
          go_ret
          exact ⟨rfl, (B1.out.trans (HB.out.mono B1.out.size)).trans (hb3.mono (B1.out.trans (HB.out.mono B1.out.size)).size)⟩
        · have y3 := HE.out hy
          subst y3
          go_wp2_with (go_at_call 14; refine (HAL.out _ (B1.out.trans (HB.out.mono B1.out.size))).mono ?_; rintro e w3 ⟨rfl, hb3⟩)
          go_ret
          exact ⟨rfl, (B1.out.trans (HB.out.mono B1.out.size)).trans (hb3.mono (B1.out.trans (HB.out.mono B1.out.size)).size)⟩
end Go.Proofs.YthbfahbjfioghaaGreatDoor
