/-
  Walks of chapter 6: names (program and reference).
-/
import Derived.Test.YthbfahbjfioghaaGreatDoorText4
import Derived.Test.YthbfahbjfioghaaGreatDoorUpd
import Derived.Test.YthbfahbjfioghaaGreatDoorSpec06
import Derived.Deep.LoopGhost
import Derived.Deep.QuietTactic
import Derived.BigQuiet
set_option linter.unusedVariables false
namespace Go.Proofs.YthbfahbjfioghaaGreatDoor
open Go.RowKit

theorem Cur.ne_tab {w : World} {b : Nat} {l : Bytes} {n ea er : Int} (h : Cur w b l n ea er) {g i : Nat} {v : Value} (hg : w.cell? ⟨g, i, none⟩ = some v) (hi : i = 0) (hv : ∀ s, v ≠ .string s) : g ≠ b := by
  rintro rfl
  subst hi
  rw [h.c0] at hg
  cases hg
  exact hv _ rfl
theorem Tabs.upd {w w' : World} {b : Nat} {l : Bytes} {n ea er : Int} (h : Tabs w) (hc : Cur w b l n ea er) (hu : Upd b w w') : Tabs w' := by
  obtain ⟨⟨h1, h2⟩, ⟨t3, f3, h3⟩, ⟨t4, f4, h4⟩⟩ := h
  have e1 := hc.ne_tab (h1 0 (by omega)) rfl (by simp)
  have e2 := hc.ne_tab (h2 0 (by omega)).1 rfl (by simp)
  have hn : ∀ g cs t fr, w.heap[g]? = some (.cells cs t fr) → (∃ x, cs[0]? = some (.int .i32 x)) → g ≠ b := by
    rintro g cs t fr hg ⟨x, hx⟩ rfl
    have := hc.c0
    rw [Lib.cell_of_heap hg, hx] at this
    cases this
  refine ⟨⟨fun c hc' => ?_, fun i hi => ?_⟩, ⟨t3, f3, ?_⟩, ⟨t4, f4, ?_⟩⟩
  · have := h1 c hc'
    rw [← this]
    exact World.cell?_of_block (w := w) (hu.block _ (lt_of_cell this) e1)
  · have h := h2 i hi
    exact ⟨by rw [← h.1]; exact World.cell?_of_block (w := w) (hu.block _ (lt_of_cell h.1) e2), by rw [← h.2]; exact World.cell?_of_block (w := w) (hu.block _ (lt_of_cell h.2) e2)⟩
  · rw [hu.block _ (heap_lt h3) (hn _ _ _ _ h3 ⟨65, rfl⟩)]; exact h3
  · rw [hu.block _ (heap_lt h4) (hn _ _ _ _ h4 ⟨45, rfl⟩)]; exact h4

set_option maxHeartbeats 2000000 in
set_option maxRecDepth 100000 in
theorem curName_any (b : Nat) (l : Bytes) (n : Nat) (ea er : Int) (w : World) (hT : Tabs w) (hC : Cur w b l n ea er) (hn : n ≤ l.length) (hl : l.length ≤ 4611686018427387904) :
    Calls Tryz.prog 67 #[.pointer (some ⟨b, 0, none⟩)] w fun e w' =>
      e = .returned (.string (S ((l.drop n).take (nameLen (l.drop n))))) ∧ Cur w' b l (n + nameLen (l.drop n) : Nat) ea er ∧ Upd b w w' := by
  obtain ⟨N, hN⟩ : ∃ N, nameLen (l.drop n) = N := ⟨_, rfl⟩
  rw [hN]
  have HN := Lib.hid hN
  have HT := Lib.hid hT
  have HC := Lib.hid hC
  have c1 := hC.c1
  clear hN hT hC
  go_enter Tryz.func67, Tryz.ntmps67
  go_wp2
  clear c1
  go_loopg [4] (l.length - n) (fun k _ wr => ∃ m : Nat, n ≤ m ∧ m ≤ l.length ∧ k = l.length - m ∧ Cur wr b l m ea er ∧ Upd b w wr ∧ (m - n) + nmS 0 (decide (m = n)) (l.drop m) = N)
  case atStart => exact ⟨n, Nat.le_refl _, hn, rfl, HC.out, Upd.refl _ _, by rw [← HN.out]; simp [nameLen]⟩
  case round =>
    obtain ⟨m, hnm, hml, hk, hcur, hupd, hlen⟩ := hrel
    have HK := Lib.hid hk
    have HCu := Lib.hid hcur
    have HU := Lib.hid hupd
    have HL := Lib.hid hlen
    have c0 := hcur.c0
    have c1 := hcur.c1
    have f1 := hcur.free 1
    clear hk hcur hupd hlen
    have hd := fun w => fun hT => decode_any l m w hT hl
    have HD := Lib.hid hd
    clear hd
    generalize hg : decAt l m = d at *
    have HG := Lib.hid hg
    clear hg
    obtain ⟨r, k⟩ := d
    go_upto_region 2 with fail
    go_cut [4, 5] from 11 to 23 (fun s4 s5 wx => s4 = .int .i32 r ∧ s5 = .int .i64 k ∧ Below wr.heap.size wr wx)
    case first =>
      go_region_with (go_at_call 68; refine (HD.out _ (HT.out.upd HC.out (HU.out.drew))).mono ?_; rintro e w' ⟨rfl, hb⟩)
      all_goals (go_wp2_with fail; go_meet; exact ⟨rfl, rfl, below_undrew (by assumption)⟩)
    case rest =>
      obtain ⟨rfl, rfl, hb1⟩ := hcut
      have hcur1 := HCu.out.below (hb1.mono (Nat.le_refl _))
      have hupd1 := HU.out.next hb1
      have hT1 := HT.out.upd HC.out hupd1
      clear c0 c1 f1
      have c0 := hcur1.c0
      have c1 := hcur1.c1
      have f1 := hcur1.free 1
      obtain ⟨b1, hb1'⟩ : ∃ x, nameChar r = x := ⟨_, rfl⟩
      obtain ⟨b2, hb2'⟩ : ∃ x, nameStart r = x := ⟨_, rfl⟩
      have hcN : ∀ w, Tabs w → Calls Tryz.prog 96 #[.int .i32 r] w fun e w' => e = .returned (.bool b1) ∧ Below w.heap.size w w' := fun w h => hb1' ▸ nameChar_any r w h
      have hcS : ∀ w, Tabs w → Calls Tryz.prog 97 #[.int .i32 r] w fun e w' => e = .returned (.bool b2) ∧ Below w.heap.size w w' := fun w h => hb2' ▸ nameStart_any r w h
      have hq : qch (decide (m = n)) r = (decide ((r : Int) = 58) || (!decide (m = n) && b1) || b2) := by rw [← hb1', ← hb2', qch]
      have HQ := Lib.hid hq
      have HCN := Lib.hid hcN
      have HCS := Lib.hid hcS
      have HC1 := Lib.hid hcur1
      have HU1 := Lib.hid hupd1
      have HT1 := Lib.hid hT1
      clear hb1' hb2' hcN hcS hq hcur1 hupd1 hT1 hb1
      generalize hok : qch (decide (m = n)) r = ok at *
      have HOK := Lib.hid hok
      clear hok
      go_upto_region 3 with fail
      go_cut [6] from 23 to 41 (fun s6 wx => s6 = .bool ok ∧ Below wc.heap.size wc wx)
      case first =>
        by_cases t1 : (r : Int) = 58
        · have e : ok = true := by rw [HQ.out]; simp [t1]
          have t : ((r : Int) == 58) = true := by rw [beq_iff_eq]; exact t1
          subst e
          clear t1
          go_wp2_with fail
          go_meet
          exact ⟨rfl, Below.refl _ _⟩
        · have t : ((r : Int) == 58) = false := by rw [beq_eq_false_iff_ne]; exact t1
          by_cases t2 : n < m
          · have t3 : (n : Int) < m := by omega
            have e : ok = (b1 || b2) := by rw [HQ.out, show decide (m = n) = false from by simp; omega]; simp [t1]
            subst e
            clear t1
            cases b1
            · go_wp2_with (first | (go_at_call 96; refine (HCN.out _ HT1.out).mono ?_; rintro e w' ⟨rfl, hb1⟩) | (go_at_call 97; refine (HCS.out _ (HT1.out.next (by assumption))).mono ?_; rintro e w2 ⟨rfl, hb2⟩))
              go_meet
              exact ⟨by rw [Bool.false_or], hb1.trans (hb2.mono hb1.size)⟩
            · go_wp2_with (first | (go_at_call 96; refine (HCN.out _ HT1.out).mono ?_; rintro e w' ⟨rfl, hb1⟩))
              go_meet
              exact ⟨by rw [Bool.true_or], hb1⟩
          · obtain rfl : m = n := by omega
            have e : ok = b2 := by rw [HQ.out]; simp [t1]
            subst e
            clear t1
            go_wp2_with (go_at_call 97; refine (HCS.out _ HT1.out).mono ?_; rintro e w2 ⟨rfl, hb2⟩)
            go_meet
            exact ⟨rfl, hb2⟩
      case rest =>
        obtain ⟨rfl, hb3⟩ := hcut
        have hcur2 := HC1.out.below hb3
        have hupd2 := HU1.out.next hb3
        have hT2 := HT.out.upd HC.out hupd2
        clear c0 c1 f1
        have c0 := hcur2.c0
        have c1 := hcur2.c1
        have f1 := hcur2.free 1
        have HC2 := Lib.hid hcur2
        have HU2 := Lib.hid hupd2
        clear hcur2 hupd2 hT2 hb3
        have hi0 : (0 : Int) ≤ n := by omega
        have hi1 : (n : Int) ≤ m := by omega
        have hi2 : (m : Int) ≤ l.length := by omega
        by_cases hstop : k = 0 ∨ ok = false
        · have h0 : nmS 0 (decide (m = n)) (l.drop m) = 0 := by
            by_cases hm : m < l.length
            · have hd := HG.out
              rw [decAt_nat hm] at hd
              refine nm_stop ?_
              rw [hd]
              rcases hstop with h | h
              · exact .inl h
              · exact .inr (by rw [HOK.out]; exact h)
            · rw [List.drop_eq_nil_of_le (by omega)]; rfl
          have hN : N = m - n := by rw [← HL.out, h0]; rfl
          have HNN := Lib.hid hN
          clear hN h0
          have t : ((k : Int) == 0) = true ∨ (((k : Int) == 0) = false ∧ ok = false) := by
            by_cases hk : k = 0
            · exact .inl (by rw [hk]; rfl)
            · exact .inr ⟨by rw [beq_eq_false_iff_ne]; omega, hstop.resolve_left hk⟩
          clear hstop
          rcases t with t | ⟨t, rfl⟩
          all_goals
            go_wp2_with fail
            go_quiet (fail)
            go_wp2
            go_ret
            refine ⟨by rw [HNN.out]; rfl, ?_, ?_⟩
            · rw [HNN.out, show n + (m - n) = m from by omega]; exact HC2.out
            · exact HU2.out.trans (.of_below ⟨rfl, rfl, rfl, Nat.le_refl _, fun _ _ => rfl⟩)
        · have hok : ok = true := by cases ok <;> simp_all
          have hk0 : k ≠ 0 := fun e => hstop (.inl e)
          subst hok
          have hm : m < l.length := by
            by_cases hm : m < l.length
            · exact hm
            · exfalso
              have := HG.out
              unfold decAt at this
              rw [if_neg (by omega)] at this
              cases this
              exact hk0 rfl
          have hd := HG.out
          rw [decAt_nat hm] at hd
          have hnx := nm_next (l := l.drop m) (f := decide (m = n)) (by rw [hd]; exact hk0) (by rw [hd]; exact HOK.out)
          rw [hd] at hnx
          dsimp only at hnx
          have hlek := (dec_le (l.drop m)).1
          rw [hd] at hlek
          dsimp only at hlek
          simp only [List.length_drop] at hlek
          have hfin : m + k - n + nmS 0 (decide (m + k = n)) (l.drop (m + k)) = N := by
            rw [show decide (m + k = n) = false from by simp; omega, ← HL.out, hnx, List.drop_drop]
            omega
          have HF := Lib.hid hfin
          have t : ((k : Int) == 0) = false := by rw [beq_eq_false_iff_ne]; omega
          have hmk : (m : Int) + k ≤ l.length := by omega
          clear hstop hd hnx hfin
          go_wp2
          go_roundg (l.length - (m + k))
          case measure => have := HK.out; omega
          case rel =>
            refine ⟨m + k, by omega, by omega, rfl, ?_, ?_, HF.out⟩
            · have := HC2.out.move ((m + k : Nat) : Int)
              simpa using this
            · exact HU2.out.trans (Upd.set_ _ _ _ _)
end Go.Proofs.YthbfahbjfioghaaGreatDoor
