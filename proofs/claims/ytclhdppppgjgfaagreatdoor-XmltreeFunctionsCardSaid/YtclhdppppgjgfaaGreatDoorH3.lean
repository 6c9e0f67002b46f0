/-
  Several texts in one file, in build order:
  - Walks of chapter 6: names (program and reference).
  - Walks of chapters 1 and 6: the reference's check; qualified names (program and reference).
  - Plain functions of chapter 5 (xmlescape): escaping. No program.
  - Plain functions of chapter 5 (xmlescape): references and their replacement. No program.
  - Blocks, rows and whole stores in memory, of no type in particular.
  - Trees: what a node of a document is, and how it lies in memory. No function of the program.
  - Plain functions of chapter 6 (xmltoken): the tokens of a document. No program.
-/
import Derived.Test.YtclhdppppgjgfaaGreatDoorH2
import Derived.Deep.LoopGhost
import Derived.Deep.QuietTactic
import Derived.BigQuiet
import Derived.Test.YtclhdppppgjgfaaGreatDoorH0
import Derived.Test.YtclhdppppgjgfaaGreatDoorH1
import Derived.Deep.MidRow
import Derived.Deep.AppendLies
import Derived.Laws.OwnMore
import Derived.Laws.CopyRow
set_option linter.unusedVariables false
namespace Go.Proofs.YtclhdppppgjgfaaGreatDoor
open Go.RowKit

theorem Cur.ne_tab {w : World} {b : Nat} {l : Bytes} {n ea er : Int} (h : Cur w b l n ea er) {g i : Nat} {v : Value} (hg : w.cell? ⟨g, i, none⟩ = some v) (hi : i = 0) (hv : ∀ s, v ≠ .string s) : g ≠ b := by
  rintro rfl
  subst hi
  rw [h.c0] at hg
  cases hg
  exact hv _ rfl
theorem Tabs.upd {w w' : World} {b : Nat} {l : Bytes} {n ea er : Int} (h : Tabs w) (hc : Cur w b l n ea er) (hu : Upd b w w') : Tabs w' := by
  obtain ⟨⟨h1, h2⟩, ⟨t3, f3, h3⟩, ⟨t4, f4, h4⟩⟩ := h
  have e1 := hc.ne_tab (h1 0 (by omega)) rfl (by simp)
  have e2 := hc.ne_tab (h2 0 (by omega)).1 rfl (by simp)
  have hn : ∀ g cs t fr, w.heap[g]? = some (.cells cs t fr) → (∃ x, cs[0]? = some (.int .i32 x)) → g ≠ b := by
    rintro g cs t fr hg ⟨x, hx⟩ rfl
    have := hc.c0
    rw [Lib.cell_of_heap hg, hx] at this
    cases this
  refine ⟨⟨fun c hc' => ?_, fun i hi => ?_⟩, ⟨t3, f3, ?_⟩, ⟨t4, f4, ?_⟩⟩
  · have := h1 c hc'
    rw [← this]
    exact World.cell?_of_block (w := w) (hu.block _ (lt_of_cell this) e1)
  · have h := h2 i hi
    exact ⟨by rw [← h.1]; exact World.cell?_of_block (w := w) (hu.block _ (lt_of_cell h.1) e2), by rw [← h.2]; exact World.cell?_of_block (w := w) (hu.block _ (lt_of_cell h.2) e2)⟩
  · rw [hu.block _ (heap_lt h3) (hn _ _ _ _ h3 ⟨65, rfl⟩)]; exact h3
  · rw [hu.block _ (heap_lt h4) (hn _ _ _ _ h4 ⟨45, rfl⟩)]; exact h4

set_option maxHeartbeats 2000000 in
set_option maxRecDepth 100000 in
theorem curName_any (b : Nat) (l : Bytes) (n : Nat) (ea er : Int) (w : World) (hT : Tabs w) (hC : Cur w b l n ea er) (hn : n ≤ l.length) (hl : l.length ≤ 4611686018427387904) :
    Calls Tryz.prog 110 #[.pointer (some ⟨b, 0, none⟩)] w fun e w' =>
      e = .returned (.string (S ((l.drop n).take (nameLen (l.drop n))))) ∧ Cur w' b l (n + nameLen (l.drop n) : Nat) ea er ∧ Upd b w w' := by
  obtain ⟨N, hN⟩ : ∃ N, nameLen (l.drop n) = N := ⟨_, rfl⟩
  rw [hN]
  have HN := Lib.hid hN
  have HT := Lib.hid hT
  have HC := Lib.hid hC
  have c1 := hC.c1
  clear hN hT hC
  go_enter Tryz.func110, Tryz.ntmps110
  go_wp2
  clear c1
  go_loopg [4] (l.length - n) (fun k _ wr => ∃ m : Nat, n ≤ m ∧ m ≤ l.length ∧ k = l.length - m ∧ Cur wr b l m ea er ∧ Upd b w wr ∧ (m - n) + nmS 0 (decide (m = n)) (l.drop m) = N)
  case atStart => exact ⟨n, Nat.le_refl _, hn, rfl, HC.out, Upd.refl _ _, by rw [← HN.out]; simp [nameLen]⟩
  case round =>
    obtain ⟨m, hnm, hml, hk, hcur, hupd, hlen⟩ := hrel
    have HK := Lib.hid hk
    have HCu := Lib.hid hcur
    have HU := Lib.hid hupd
    have HL := Lib.hid hlen
    have c0 := hcur.c0
    have c1 := hcur.c1
    have f1 := hcur.free 1
    clear hk hcur hupd hlen
    have hd := fun w => fun hT => decode_any l m w hT hl
    have HD := Lib.hid hd
    clear hd
    generalize hg : decAt l m = d at *
    have HG := Lib.hid hg
    clear hg
    obtain ⟨r, k⟩ := d
    go_upto_region 2 with fail
    go_cut [4, 5] from 11 to 23 (fun s4 s5 wx => s4 = .int .i32 r ∧ s5 = .int .i64 k ∧ Below wr.heap.size wr wx)
    case first =>
      go_region_with (go_at_call 79; refine (HD.out _ (HT.out.upd HC.out (HU.out.drew))).mono ?_; rintro e w' ⟨rfl, hb⟩)
      all_goals (go_wp2_with fail; go_meet; exact ⟨rfl, rfl, below_undrew (by assumption)⟩)
    case rest =>
      obtain ⟨rfl, rfl, hb1⟩ := hcut
      have hcur1 := HCu.out.below (hb1.mono (Nat.le_refl _))
      have hupd1 := HU.out.next hb1
      have hT1 := HT.out.upd HC.out hupd1
      clear c0 c1 f1
      have c0 := hcur1.c0
      have c1 := hcur1.c1
      have f1 := hcur1.free 1
      obtain ⟨b1, hb1'⟩ : ∃ x, nameChar r = x := ⟨_, rfl⟩
      obtain ⟨b2, hb2'⟩ : ∃ x, nameStart r = x := ⟨_, rfl⟩
      have hcN : ∀ w, Tabs w → Calls Tryz.prog 126 #[.int .i32 r] w fun e w' => e = .returned (.bool b1) ∧ Below w.heap.size w w' := fun w h => hb1' ▸ nameChar_any r w h
      have hcS : ∀ w, Tabs w → Calls Tryz.prog 127 #[.int .i32 r] w fun e w' => e = .returned (.bool b2) ∧ Below w.heap.size w w' := fun w h => hb2' ▸ nameStart_any r w h
      have hq : qch (decide (m = n)) r = (decide ((r : Int) = 58) || (!decide (m = n) && b1) || b2) := by rw [← hb1', ← hb2', qch]
      have HQ := Lib.hid hq
      have HCN := Lib.hid hcN
      have HCS := Lib.hid hcS
      have HC1 := Lib.hid hcur1
      have HU1 := Lib.hid hupd1
      have HT1 := Lib.hid hT1
      clear hb1' hb2' hcN hcS hq hcur1 hupd1 hT1 hb1
      generalize hok : qch (decide (m = n)) r = ok at *
      have HOK := Lib.hid hok
      clear hok
      go_upto_region 3 with fail
      go_cut [6] from 23 to 41 (fun s6 wx => s6 = .bool ok ∧ Below wc.heap.size wc wx)
      case first =>
        by_cases t1 : (r : Int) = 58
        · have e : ok = true := by rw [HQ.out]; simp [t1]
          have t : ((r : Int) == 58) = true := by rw [beq_iff_eq]; exact t1
          subst e
          clear t1
          go_wp2_with fail
          go_meet
          exact ⟨rfl, Below.refl _ _⟩
        · have t : ((r : Int) == 58) = false := by rw [beq_eq_false_iff_ne]; exact t1
          by_cases t2 : n < m
          · have t3 : (n : Int) < m := by omega
            have e : ok = (b1 || b2) := by rw [HQ.out, show decide (m = n) = false from by simp; omega]; simp [t1]
            subst e
            clear t1
            cases b1
            · go_wp2_with (first | (go_at_call 126; refine (HCN.out _ HT1.out).mono ?_; rintro e w' ⟨rfl, hb1⟩) | (go_at_call 127; refine (HCS.out _ (HT1.out.next (by assumption))).mono ?_; rintro e w2 ⟨rfl, hb2⟩))
              go_meet
              exact ⟨by rw [Bool.false_or], hb1.trans (hb2.mono hb1.size)⟩
            · go_wp2_with (first | (go_at_call 126; refine (HCN.out _ HT1.out).mono ?_; rintro e w' ⟨rfl, hb1⟩))
              go_meet
              exact ⟨by rw [Bool.true_or], hb1⟩
          · obtain rfl : m = n := by omega
            have e : ok = b2 := by rw [HQ.out]; simp [t1]
            subst e
            clear t1
            go_wp2_with (go_at_call 127; refine (HCS.out _ HT1.out).mono ?_; rintro e w2 ⟨rfl, hb2⟩)
            go_meet
            exact ⟨rfl, hb2⟩
      case rest =>
        obtain ⟨rfl, hb3⟩ := hcut
        have hcur2 := HC1.out.below hb3
        have hupd2 := HU1.out.next hb3
        have hT2 := HT.out.upd HC.out hupd2
        clear c0 c1 f1
        have c0 := hcur2.c0
        have c1 := hcur2.c1
        have f1 := hcur2.free 1
        have HC2 := Lib.hid hcur2
        have HU2 := Lib.hid hupd2
        clear hcur2 hupd2 hT2 hb3
        have hi0 : (0 : Int) ≤ n := by omega
        have hi1 : (n : Int) ≤ m := by omega
        have hi2 : (m : Int) ≤ l.length := by omega
        by_cases hstop : k = 0 ∨ ok = false
        · have h0 : nmS 0 (decide (m = n)) (l.drop m) = 0 := by
            by_cases hm : m < l.length
            · have hd := HG.out
              rw [decAt_nat hm] at hd
              refine nm_stop ?_
              rw [hd]
              rcases hstop with h | h
              · exact .inl h
              · exact .inr (by rw [HOK.out]; exact h)
            · rw [List.drop_eq_nil_of_le (by omega)]; rfl
          have hN : N = m - n := by rw [← HL.out, h0]; rfl
          have HNN := Lib.hid hN
          clear hN h0
          have t : ((k : Int) == 0) = true ∨ (((k : Int) == 0) = false ∧ ok = false) := by
            by_cases hk : k = 0
            · exact .inl (by rw [hk]; rfl)
            · exact .inr ⟨by rw [beq_eq_false_iff_ne]; omega, hstop.resolve_left hk⟩
          clear hstop
          rcases t with t | ⟨t, rfl⟩
          all_goals
            go_wp2_with fail
            go_quiet (fail)
            go_wp2
            go_ret
            refine ⟨by rw [HNN.out]; rfl, ?_, ?_⟩
            · rw [HNN.out, show n + (m - n) = m from by omega]; exact HC2.out
            · exact HU2.out.trans (.of_below ⟨rfl, rfl, rfl, Nat.le_refl _, fun _ _ => rfl⟩)
        · have hok : ok = true := by cases ok <;> simp_all
          have hk0 : k ≠ 0 := fun e => hstop (.inl e)
          subst hok
          have hm : m < l.length := by
            by_cases hm : m < l.length
            · exact hm
            · exfalso
              have := HG.out
              unfold decAt at this
              rw [if_neg (by omega)] at this
              cases this
              exact hk0 rfl
          have hd := HG.out
          rw [decAt_nat hm] at hd
          have hnx := nm_next (l := l.drop m) (f := decide (m = n)) (by rw [hd]; exact hk0) (by rw [hd]; exact HOK.out)
          rw [hd] at hnx
          dsimp only at hnx
          have hlek := (dec_le (l.drop m)).1
          rw [hd] at hlek
          dsimp only at hlek
          simp only [List.length_drop] at hlek
          have hfin : m + k - n + nmS 0 (decide (m + k = n)) (l.drop (m + k)) = N := by
            rw [show decide (m + k = n) = false from by simp; omega, ← HL.out, hnx, List.drop_drop]
            omega
          have HF := Lib.hid hfin
          have t : ((k : Int) == 0) = false := by rw [beq_eq_false_iff_ne]; omega
          have hmk : (m : Int) + k ≤ l.length := by omega
          clear hstop hd hnx hfin
          go_wp2
          go_roundg (l.length - (m + k))
          case measure => have := HK.out; omega
          case rel =>
            refine ⟨m + k, by omega, by omega, rfl, ?_, ?_, HF.out⟩
            · have := HC2.out.move ((m + k : Nat) : Int)
              simpa using this
            · exact HU2.out.trans (Upd.set_ _ _ _ _)
end Go.Proofs.YtclhdppppgjgfaaGreatDoor
set_option linter.unusedVariables false
namespace Go.Proofs.YtclhdppppgjgfaaGreatDoor
open Go.RowKit

set_option maxHeartbeats 1000000 in
theorem refCheck_any (l : Bytes) (w : World) (hl : l.length ≤ 4611686018427387904) :
    Calls Tryz.prog 63 #[.string (S l)] w fun e w' => e = .returned (.tuple #[.int .i64 (check l).1, .int .i64 (check l).2]) ∧ Below w.heap.size w w' := by
  obtain ⟨c, hc⟩ : ∃ c, check l = c := ⟨_, rfl⟩
  rw [hc]
  have HC := Lib.hid hc
  clear hc
  go_enter Tryz.func63, Tryz.ntmps63
  go_wp2
  go_loopw [4] (fun a4 wr => ∃ n : Nat, n ≤ l.length ∧ a4 = .int .i64 n ∧ chkS 0 (l.drop n) n = c ∧ Below w.heap.size w wr) (fun a4 _ => l.length - (intOf a4).toNat)
  case atStart => exact ⟨0, by omega, rfl, HC.out, Below.refl _ _⟩
  case round =>
    obtain ⟨n, hn, rfl, hch, hb⟩ := hrel
    have HB := Lib.hid hb
    have hsz := hb.size
    clear hb
    by_cases hlt : n < l.length
    · have hle := dec_le (l.drop n)
      have hne := drop_ne hlt
      have hd := refDecode_in l n wr hl hlt
      have HD := Lib.hid hd
      clear hd
      by_cases h0 : (dec (l.drop n)).2 = 0
      · have hcc := chk_bad (at_ := n) hne h0
        rw [hch] at hcc
        have t0 : (((dec (l.drop n)).2 : Int) == 0) = true := by rw [h0]; rfl
        have HCC := Lib.hid hcc
        clear hcc hch h0 hne
        generalize dec (l.drop n) = d at *
        obtain ⟨r, k⟩ := d
        go_wp2_with (go_at_call 91; refine HD.out.mono ?_; rintro e w' ⟨rfl, hb⟩)
        go_ret2
        exact ⟨by rw [HCC.out]; rfl, HB.out.trans (hb.mono hsz)⟩
      · have t0 : (((dec (l.drop n)).2 : Int) == 0) = false := by rw [beq_eq_false_iff_ne]; omega
        cases hi : isChar (dec (l.drop n)).1
        · have hcc := chk_char (at_ := n) hne h0 hi
          rw [hch] at hcc
          have HCC := Lib.hid hcc
          have HI := Lib.hid hi
          clear hcc hch h0 hne hi
          generalize dec (l.drop n) = d at *
          obtain ⟨r, k⟩ := d
          go_wp2_with (first | (go_at_call 91; refine HD.out.mono ?_; rintro e w' ⟨rfl, hb⟩) | (go_at_call 92; refine (refIsChar_any _ _).mono ?_; rintro e w2 ⟨rfl, rfl⟩; rw [HI.out]))
          go_ret2
          exact ⟨by rw [HCC.out]; rfl, HB.out.trans (hb.mono hsz)⟩
        · have hcc := chk_next (at_ := n) hne h0 hi
          rw [hch] at hcc
          have HCC := Lib.hid hcc
          have HI := Lib.hid hi
          have hle1 : n + (dec (l.drop n)).2 ≤ l.length := by have := hle.1; simp at this; omega
          have hpos : 1 ≤ (dec (l.drop n)).2 := by omega
          clear hcc hch h0 hne hi
          generalize hg : dec (l.drop n) = d at *
          have HG := Lib.hid hg
          clear hg
          obtain ⟨r, k⟩ := d
          go_wp2_with (first | (go_at_call 91; refine HD.out.mono ?_; rintro e w' ⟨rfl, hb⟩) | (go_at_call 92; refine (refIsChar_any _ _).mono ?_; rintro e w2 ⟨rfl, rfl⟩; rw [HI.out]))
          go_roundw
          case rel => exact ⟨n + k, by omega, by go_num, by rw [HCC.out, List.drop_drop], HB.out.trans (hb.mono hsz)⟩
          case measure => simp [intOf]; omega
    · obtain rfl : n = l.length := by omega
      rw [List.drop_length] at hch
      have HCH := Lib.hid hch
      clear hch
      go_wp2
      go_ret2
      exact ⟨by rw [← HCH.out]; rfl, HB.out⟩

theorem take_beq {l : Bytes} {k : Nat} (h : k ≤ l.length) : (l.take k == l) = (k == l.length) := by
  rw [Bool.eq_iff_iff, beq_iff_eq, beq_iff_eq]
  constructor
  · intro e; have := congrArg List.length e; rw [List.length_take] at this; omega
  · intro e; rw [e, List.take_length]

set_option maxHeartbeats 1000000 in
theorem isQName_any (l : Bytes) (w : World) (hT : Tabs w) (hl : l.length ≤ 4611686018427387904) :
    Calls Tryz.prog 103 #[.string (S l)] w fun e w' => e = .returned (.bool (isQName l)) ∧ Below w.heap.size w w' := by
  cases l with
  | nil =>
    go_enter Tryz.func103, Tryz.ntmps103
    go_wp2_with fail
    go_ret
    exact ⟨rfl, (Below.refl _ _).alloc (Nat.le_refl _) _⟩
  | cons a t =>
    have hq : isQName (a :: t) = ((a :: t).take (nameLen (a :: t)) == a :: t) := by
      rw [take_beq (nameLen_le _)]; simp [isQName]
    rw [hq]
    have hT1 : Tabs (w.alloc (.cells #[.string (S (a :: t)), .int .i64 0, .int .i64 0, .int .i64 0] 94)) := hT.next ((Below.refl _ _).alloc (Nat.le_refl _) _)
    have hc := curName_any w.heap.size (a :: t) 0 0 0 _ hT1 (Cur.new w (a :: t) 0 0 0) (by omega) hl
    simp only [List.drop_zero] at hc
    have HC := Lib.hid hc
    clear hq hT hT1 hc
    generalize List.take (nameLen (a :: t)) (a :: t) = T at *
    go_enter Tryz.func103, Tryz.ntmps103
    go_wp2_with (go_at_call 110; refine HC.out.mono ?_; rintro e w' ⟨rfl, hcur, hu⟩)
    go_ret
    exact ⟨rfl, (Below.alloc (Below.refl _ _) (Nat.le_refl _) _).trans (hu.below (Nat.le_refl _) (by simp))⟩

set_option maxHeartbeats 2000000 in
theorem refIsQName_any (l : Bytes) (w : World) (hl : l.length ≤ 4611686018427387904) :
    Calls Tryz.prog 75 #[.string (S l)] w fun e w' => e = .returned (.bool (isQName l)) ∧ Below w.heap.size w w' := by
  obtain ⟨Z, hZ⟩ : ∃ Z, isQName l = Z := ⟨_, rfl⟩
  rw [hZ]
  have HZ := Lib.hid hZ
  clear hZ
  go_enter Tryz.func75, Tryz.ntmps75
  go_wp2
  go_loopw [3] (fun a3 wr => ∃ n : Nat, n ≤ l.length ∧ a3 = .int .i64 n ∧ n + nmS 0 (decide (n = 0)) (l.drop n) = nameLen l ∧ Below w.heap.size w wr) (fun a3 _ => l.length - (intOf a3).toNat)
  case atStart => exact ⟨0, by omega, rfl, by simp [nameLen], Below.refl _ _⟩
  case round =>
    obtain ⟨n, hn, rfl, hlen, hb⟩ := hrel
    have HB := Lib.hid hb
    have HL := Lib.hid hlen
    have hsz := hb.size
    clear hb hlen
    by_cases hlt : n < l.length
    · have hle := dec_le (l.drop n)
      have hne := drop_ne hlt
      have hd := refDecode_in l n wr hl hlt
      have HD := Lib.hid hd
      clear hd
      generalize hg : dec (l.drop n) = d at *
      have HG := Lib.hid hg
      clear hg
      obtain ⟨r, k⟩ := d
      dsimp only at hle
      have hle1 : n + k ≤ l.length := by have := hle.1; simp at this; omega
      clear hle hne
      obtain ⟨b1, hb1'⟩ : ∃ x, nameChar r = x := ⟨_, rfl⟩
      obtain ⟨b2, hb2'⟩ : ∃ x, nameStart r = x := ⟨_, rfl⟩
      have hcN : ∀ w, Calls Tryz.prog 101 #[.int .i64 r] w fun e w' => e = .returned (.bool b1) ∧ w = w' := fun w => hb1' ▸ refNameChar_any r w
      have hcS : ∀ w, Calls Tryz.prog 102 #[.int .i64 r] w fun e w' => e = .returned (.bool b2) ∧ w = w' := fun w => hb2' ▸ refNameStart_any r w
      have hq : qch (decide (n = 0)) r = ((decide ((r : Int) = 58) || b1) && (!decide (n = 0) || decide ((r : Int) = 58) || b2)) := by rw [qch_ref, hb1', hb2']
      have HQ := Lib.hid hq
      have HCN := Lib.hid hcN
      have HCS := Lib.hid hcS
      clear hb1' hb2' hcN hcS hq
      have hstop : (k = 0 ∨ qch (decide (n = 0)) r = false) → Z = false := by
        intro h
        have h0 : nmS 0 (decide (n = 0)) (l.drop n) = 0 := nm_stop (by rw [HG.out]; exact h)
        have := HL.out
        rw [h0] at this
        rw [← HZ.out, isQName]
        simp; intro _; omega
      have hgo : k ≠ 0 → qch (decide (n = 0)) r = true → n + k + nmS 0 (decide (n + k = 0)) (l.drop (n + k)) = nameLen l := by
        intro hk hc
        have hnx := nm_next (l := l.drop n) (f := decide (n = 0)) (by rw [HG.out]; exact hk) (by rw [HG.out]; exact hc)
        rw [HG.out] at hnx
        dsimp only at hnx
        rw [← HL.out, hnx, List.drop_drop, show decide (n + k = 0) = false from by simp; omega]
        omega
      have HST := Lib.hid hstop
      have HGO := Lib.hid hgo
      clear hstop hgo
      by_cases hk : k = 0
      · have hz := HST.out (.inl hk)
        have t0 : ((k : Int) == 0) = true := by rw [hk]; rfl
        have HZZ := Lib.hid hz
        clear hz hk
        go_wp2_with (go_at_call 91; refine HD.out.mono ?_; rintro e w' ⟨rfl, hb⟩)
        go_ret
        exact ⟨ret_bool HZZ.out.symm, HB.out.trans (hb.mono hsz)⟩
      · have t0 : ((k : Int) == 0) = false := by rw [beq_eq_false_iff_ne]; omega
        by_cases hr : (r : Int) = 58
        · have hfin := HGO.out hk (by rw [HQ.out]; simp [hr])
          have t1 : ((r : Int) != 58) = false := by rw [hr]; rfl
          have HF := Lib.hid hfin
          have tn : ((n : Int) == 0) = true ∨ ((n : Int) == 0) = false := by cases ((n : Int) == 0) <;> simp
          clear hfin hr
          rcases tn with tn | tn
          all_goals
            go_wp2_with (go_at_call 91; refine HD.out.mono ?_; rintro e w' ⟨rfl, hb⟩)
            go_roundw
            case rel => exact ⟨n + k, by omega, by go_num, HF.out, HB.out.trans (hb.mono hsz)⟩
            case measure => simp [intOf]; omega
        · have t1 : ((r : Int) != 58) = true := by rw [bne_iff_ne]; exact hr
          cases b1
          · have hz := HST.out (.inr (by rw [HQ.out]; simp [hr]))
            have HZZ := Lib.hid hz
            clear hz hr
            go_wp2_with (first | (go_at_call 91; refine HD.out.mono ?_; rintro e w' ⟨rfl, hb⟩) | (go_at_call 101; refine (HCN.out _).mono ?_; rintro e w2 ⟨rfl, rfl⟩))
            go_ret
            exact ⟨ret_bool HZZ.out.symm, HB.out.trans (hb.mono hsz)⟩
          · by_cases hn0 : n = 0
            · have tn : ((n : Int) == 0) = true := by rw [hn0]; rfl
              have hq2 : qch (decide (n = 0)) r = b2 := by rw [HQ.out, hn0]; simp [hr]
              have HQ2 := Lib.hid hq2
              clear hn0 hq2
              cases b2
              · have hz := HST.out (.inr HQ2.out)
                have HZZ := Lib.hid hz
                clear hz hr
                go_wp2_with (first | (go_at_call 91; refine HD.out.mono ?_; rintro e w' ⟨rfl, hb⟩) | (go_at_call 101; refine (HCN.out _).mono ?_; rintro e w2 ⟨rfl, rfl⟩) | (go_at_call 102; refine (HCS.out _).mono ?_; rintro e w2 ⟨rfl, rfl⟩))
                go_ret
                exact ⟨ret_bool HZZ.out.symm, HB.out.trans (hb.mono hsz)⟩
              · have hfin := HGO.out hk HQ2.out
                have HF := Lib.hid hfin
                clear hfin hr
                go_wp2_with (first | (go_at_call 91; refine HD.out.mono ?_; rintro e w' ⟨rfl, hb⟩) | (go_at_call 101; refine (HCN.out _).mono ?_; rintro e w2 ⟨rfl, rfl⟩) | (go_at_call 102; refine (HCS.out _).mono ?_; rintro e w2 ⟨rfl, rfl⟩))
                go_roundw
                case rel => exact ⟨n + k, by omega, by go_num, HF.out, HB.out.trans (hb.mono hsz)⟩
                case measure => simp [intOf]; omega
            · have tn : ((n : Int) == 0) = false := by rw [beq_eq_false_iff_ne]; omega
              have hfin := HGO.out hk (by rw [HQ.out]; simp [hn0])
              have HF := Lib.hid hfin
              clear hfin hr hn0
              go_wp2_with (first | (go_at_call 91; refine HD.out.mono ?_; rintro e w' ⟨rfl, hb⟩) | (go_at_call 101; refine (HCN.out _).mono ?_; rintro e w2 ⟨rfl, rfl⟩))
              go_roundw
              case rel => exact ⟨n + k, by omega, by go_num, HF.out, HB.out.trans (hb.mono hsz)⟩
              case measure => simp [intOf]; omega
    · obtain rfl : n = l.length := by omega
      have hfin : Z = decide (0 < l.length) := by
        have := HL.out
        rw [List.drop_length, nm_nil] at this
        rw [← HZ.out, isQName, ← this]
        cases l <;> simp
      have HF := Lib.hid hfin
      clear hfin
      go_wp2
      go_ret
      exact ⟨ret_bool (by rw [HF.out]), HB.out⟩
end Go.Proofs.YtclhdppppgjgfaaGreatDoor
set_option linter.unusedVariables false
namespace Go.Proofs.YtclhdppppgjgfaaGreatDoor

/-- What replaces a byte; empty: nothing does. -/
def rep (attr : Bool) (c : UInt8) : Bytes :=
  if c.toNat = 38 then [38, 97, 109, 112, 59]
  else if c.toNat = 60 then [38, 108, 116, 59]
  else if c.toNat = 62 then [38, 103, 116, 59]
  else if c.toNat = 13 then [38, 35, 49, 51, 59]
  else if attr = true ∧ c.toNat = 34 then [38, 113, 117, 111, 116, 59]
  else if attr = true ∧ c.toNat = 9 then [38, 35, 57, 59]
  else if attr = true ∧ c.toNat = 10 then [38, 35, 49, 48, 59]
  else []
def escOne (attr : Bool) (c : UInt8) : Bytes := if rep attr c = [] then [c] else rep attr c
def esc (attr : Bool) (l : Bytes) : Bytes := l.flatMap (escOne attr)

theorem rep_38 {a : Bool} {c : UInt8} (h : c.toNat = 38) : rep a c = [38, 97, 109, 112, 59] := by simp [rep, h]
theorem rep_60 {a : Bool} {c : UInt8} (h : c.toNat = 60) : rep a c = [38, 108, 116, 59] := by simp [rep, h]
theorem rep_62 {a : Bool} {c : UInt8} (h : c.toNat = 62) : rep a c = [38, 103, 116, 59] := by simp [rep, h]
theorem rep_13 {a : Bool} {c : UInt8} (h : c.toNat = 13) : rep a c = [38, 35, 49, 51, 59] := by simp [rep, h]
theorem rep_34 {a : Bool} {c : UInt8} (ha : a = true) (h : c.toNat = 34) : rep a c = [38, 113, 117, 111, 116, 59] := by simp [rep, h, ha]
theorem rep_9 {a : Bool} {c : UInt8} (ha : a = true) (h : c.toNat = 9) : rep a c = [38, 35, 57, 59] := by simp [rep, h, ha]
theorem rep_10 {a : Bool} {c : UInt8} (ha : a = true) (h : c.toNat = 10) : rep a c = [38, 35, 49, 48, 59] := by simp [rep, h, ha]
theorem rep_no {a : Bool} {c : UInt8} (h1 : c.toNat ≠ 38) (h2 : c.toNat ≠ 60) (h3 : c.toNat ≠ 62) (h4 : c.toNat ≠ 13)
    (h5 : a = true → c.toNat ≠ 34 ∧ c.toNat ≠ 9 ∧ c.toNat ≠ 10) : rep a c = [] := by
  unfold rep
  rw [if_neg h1, if_neg h2, if_neg h3, if_neg h4, if_neg (fun h => (h5 h.1).1 h.2), if_neg (fun h => (h5 h.1).2.1 h.2), if_neg (fun h => (h5 h.1).2.2 h.2)]
theorem escOne_of {a : Bool} {c : UInt8} {x : Bytes} (h : rep a c = x) (hx : x ≠ []) : escOne a c = x := by
  unfold escOne; rw [h, if_neg hx]
theorem escOne_no {a : Bool} {c : UInt8} (h : rep a c = []) : escOne a c = [c] := by
  unfold escOne; rw [if_pos h]
theorem esc_append (a : Bool) (x y : Bytes) : esc a (x ++ y) = esc a x ++ esc a y := by simp [esc]
theorem esc_take {a : Bool} {l : Bytes} {i : Nat} (h : i < l.length) : esc a (l.take (i + 1)) = esc a (l.take i) ++ escOne a l[i] := by
  rw [List.take_succ_eq_append_getElem h, esc_append]
  simp [esc]
theorem rep_len (a : Bool) (c : UInt8) : (rep a c).length ≤ 6 := by
  unfold rep; repeat' split
  all_goals simp
theorem escOne_len (a : Bool) (c : UInt8) : (escOne a c).length ≤ 6 := by
  unfold escOne; split
  · simp
  · exact rep_len a c
theorem esc_len (a : Bool) (l : Bytes) : (esc a l).length ≤ 6 * l.length := by
  induction l with
  | nil => simp [esc]
  | cons c l ih =>
    have := escOne_len a c
    simp only [esc, List.flatMap_cons, List.length_append, List.length_cons] at ih ⊢
    omega
theorem esc_take_len (a : Bool) (l : Bytes) (i : Nat) : (esc a (l.take i)).length ≤ 6 * l.length := by
  have := esc_len a (l.take i)
  have : (l.take i).length ≤ l.length := by simp; omega
  omega
end Go.Proofs.YtclhdppppgjgfaaGreatDoor
set_option linter.unusedVariables false
namespace Go.Proofs.YtclhdppppgjgfaaGreatDoor

/-- The value of a hexadecimal digit, or 16. -/
def hexd (c : UInt8) : Nat :=
  if 48 ≤ c.toNat ∧ c.toNat ≤ 57 then c.toNat - 48
  else if 97 ≤ c.toNat ∧ c.toNat ≤ 102 then c.toNat - 87
  else if 65 ≤ c.toNat ∧ c.toNat ≤ 70 then c.toNat - 55
  else 16
theorem hexd_le (c : UInt8) : hexd c ≤ 16 := by
  unfold hexd; repeat' split
  all_goals omega
/-- The number with these digits, read on from v. -/
def valS (base : Nat) : Nat → Bytes → Option Nat
  | v, [] => some v
  | v, c :: l => if hexd c < base then valS base (v * base + hexd c) l else none
/-- The rune that digits stand for. -/
def numRef (base : Nat) (l : Bytes) : Option Nat := if l = [] then none else (valS base 0 l).bind fun v => if isChar v then some v else none
def bLt : Bytes := [108, 116]
def bGt : Bytes := [103, 116]
def bAmp : Bytes := [97, 109, 112]
def bApos : Bytes := [97, 112, 111, 115]
def bQuot : Bytes := [113, 117, 111, 116]
/-- The rune that the text between '&' and ';' stands for. -/
def nameRef (x : Bytes) : Option Nat :=
  if x = bLt then some 60 else if x = bGt then some 62 else if x = bAmp then some 38 else if x = bApos then some 39 else if x = bQuot then some 34
  else match x with
    | 35 :: 120 :: h => numRef 16 h
    | 35 :: d => numRef 10 d
    | _ => none
/-- What lies ahead of the first ';'. -/
def upto (c : UInt8) : Bytes → Option Bytes
  | [] => none
  | a :: l => if a = c then some [] else (upto c l).map (a :: ·)
/-- The reference at the head of a text behind its '&': its rune, and the length of its name. -/
def tailRef (t : Bytes) : Option (Nat × Nat) := (upto 59 t).bind fun x => (nameRef x).map fun r => (r, x.length)
/-- What Reference returns. -/
def refAt (l : Bytes) (at_ : Int) : Int × Int × Int :=
  if 0 ≤ at_ ∧ at_ < l.length ∧ l[at_.toNat]? = some 38 then
    match tailRef (l.drop (at_.toNat + 1)) with
    | some (r, n) => (r, at_ + n + 2, 0)
    | none => (0, 0, 12)
  else (0, 0, 12)
theorem valS_append (base : Nat) : ∀ (x y : Bytes) (v : Nat), valS base v (x ++ y) = (valS base v x).bind fun u => valS base u y
  | [], _, _ => rfl
  | c :: x, y, v => by
    rw [List.cons_append, valS, valS]
    split
    · exact valS_append base x y _
    · rfl
theorem isChar_cap {v : Nat} : isChar (min v 1114112 : Nat) = isChar v := by
  by_cases h : v ≤ 1114112
  · rw [Nat.min_eq_left h]
  · rw [Nat.min_eq_right (by omega), isChar_no (by omega), isChar_no (by omega)]
theorem isChar_cap2 {v : Nat} : isChar (min v 2000000 : Nat) = isChar v := by
  by_cases h : v ≤ 2000000
  · rw [Nat.min_eq_left h]
  · rw [Nat.min_eq_right (by omega), isChar_no (by omega), isChar_no (by omega)]
theorem cap_step (cap base d v : Nat) (hb : 1 ≤ base) : min (min v cap * base + d) cap = min (v * base + d) cap := by
  by_cases h : v ≤ cap
  · rw [Nat.min_eq_left h]
  · have h1 : cap ≤ v := by omega
    rw [Nat.min_eq_right h1]
    have h2 : cap ≤ cap * base := Nat.le_mul_of_pos_right cap hb
    have h3 : v ≤ v * base := Nat.le_mul_of_pos_right v hb
    omega
theorem isChar_ok {v : Nat} (h : isChar v = true) : okRune v := by
  rw [isChar_iff] at h; unfold okRune; omega
theorem numRef_char {base : Nat} {l : Bytes} {r : Nat} (h : numRef base l = some r) : isChar r = true := by
  unfold numRef at h
  split at h
  · cases h
  · cases hv : valS base 0 l with
    | none => rw [hv] at h; cases h
    | some v =>
      rw [hv] at h
      simp only [Option.bind_some] at h
      split at h
      · cases h; assumption
      · cases h
theorem nameRef_char {x : Bytes} {r : Nat} (h : nameRef x = some r) : isChar r = true := by
  unfold nameRef at h
  by_cases h1 : x = bLt
  · rw [if_pos h1] at h; cases h; decide
  rw [if_neg h1] at h
  by_cases h2 : x = bGt
  · rw [if_pos h2] at h; cases h; decide
  rw [if_neg h2] at h
  by_cases h3 : x = bAmp
  · rw [if_pos h3] at h; cases h; decide
  rw [if_neg h3] at h
  by_cases h4 : x = bApos
  · rw [if_pos h4] at h; cases h; decide
  rw [if_neg h4] at h
  by_cases h5 : x = bQuot
  · rw [if_pos h5] at h; cases h; decide
  rw [if_neg h5] at h
  split at h
  · exact numRef_char h
  · exact numRef_char h
  · cases h
theorem upto_some {c : UInt8} : ∀ {l x : Bytes}, upto c l = some x → ∃ r, l = x ++ c :: r ∧ ∀ b ∈ x, b ≠ c
  | [], x, h => by cases h
  | a :: l, x, h => by
    rw [upto] at h
    split at h
    · rename_i e
      cases h; subst e
      exact ⟨l, rfl, by simp⟩
    · rename_i e
      cases hu : upto c l with
      | none => rw [hu] at h; cases h
      | some y =>
        rw [hu] at h
        cases h
        obtain ⟨r, h1, h2⟩ := upto_some hu
        exact ⟨r, by rw [h1]; rfl, fun b hb => by
          rcases List.mem_cons.1 hb with rfl | hb
          · exact e
          · exact h2 b hb⟩
theorem upto_of {c : UInt8} : ∀ {x r : Bytes}, (∀ b ∈ x, b ≠ c) → upto c (x ++ c :: r) = some x
  | [], r, _ => by simp [upto]
  | a :: x, r, h => by
    rw [List.cons_append, upto, if_neg (h a (by simp)), upto_of (fun b hb => h b (by simp [hb]))]; rfl
theorem upto_none {c : UInt8} : ∀ {l : Bytes}, (∀ b ∈ l, b ≠ c) → upto c l = none
  | [], _ => rfl
  | a :: l, h => by rw [upto, if_neg (h a (by simp)), upto_none (fun b hb => h b (by simp [hb]))]; rfl
theorem tailRef_len {t : Bytes} {r m : Nat} (h : tailRef t = some (r, m)) : m + 1 ≤ t.length := by
  unfold tailRef at h
  cases hu : upto 59 t with
  | none => rw [hu] at h; cases h
  | some x =>
    rw [hu] at h
    simp only [Option.bind_some] at h
    cases hn : nameRef x with
    | none => rw [hn] at h; cases h
    | some q =>
      rw [hn] at h
      simp only [Option.map_some, Option.some.injEq, Prod.mk.injEq] at h
      obtain ⟨r', h1, _⟩ := upto_some hu
      rw [h1, ← h.2]; simp
theorem tailRef_char {t : Bytes} {r m : Nat} (h : tailRef t = some (r, m)) : isChar r = true := by
  unfold tailRef at h
  cases hu : upto 59 t with
  | none => rw [hu] at h; cases h
  | some x =>
    rw [hu] at h
    simp only [Option.bind_some] at h
    cases hn : nameRef x with
    | none => rw [hn] at h; cases h
    | some q =>
      rw [hn] at h
      simp only [Option.map_some, Option.some.injEq, Prod.mk.injEq] at h
      rw [← h.1]; exact nameRef_char hn
theorem refAt_in {l : Bytes} {n : Nat} (h : n < l.length) (hc : l[n] = 38) : refAt l n = match tailRef (l.drop (n + 1)) with | some (r, m) => ((r : Int), (n : Int) + m + 2, 0) | none => (0, 0, 12) := by
  unfold refAt
  rw [if_pos ⟨by omega, by omega, by simp [h, hc]⟩, Int.toNat_natCast]
theorem map_map_ex {a b : Bytes} {x : Except Nat Bytes} : (x.map (b ++ ·)).map (a ++ ·) = x.map ((a ++ b) ++ ·) := by
  cases x with
  | error e => rfl
  | ok y => simp [Except.map]
end Go.Proofs.YtclhdppppgjgfaaGreatDoor
set_option linter.unusedVariables false
namespace Go.Proofs.YtclhdppppgjgfaaGreatDoor
open Go.RowKit

section
variable {w w' : World} {base B b off : Nat} {p : Nat → Prop} {v : Value}
theorem rangeAt_keep {cs : List Value} (h : w.rangeAt b off cs) (hk : w'.heap[b]? = w.heap[b]?) : w'.rangeAt b off cs :=
  fun j v hv => (World.cell?_of_block (w := w) (a := ⟨b, off + j, none⟩) hk).trans (h j v hv)
theorem ownsRow_below {e : TypeId} {size n : Nat} {xs : List Value} (h : w.ownsRow base e size v n xs) (hb : Below w.heap.size w w') : w'.ownsRow base e size v n xs := by
  obtain ⟨h1, h2⟩ := h
  refine ⟨h1, ?_⟩
  rcases h2 with h2 | ⟨g, cap, cur, hv, hg, hh, r⟩
  · exact .inl h2
  · exact .inr ⟨g, cap, cur, hv, hg, (hb.block g (heap_lt hh)).trans hh, r⟩
theorem ownsRow_heap {e : TypeId} {size n : Nat} {xs : List Value} (h : w.ownsRow base e size v n xs) (hb : ∀ k, v.ownBlock = some k → w'.heap[k]? = w.heap[k]?) : w'.ownsRow base e size v n xs := by
  obtain ⟨h1, h2⟩ := h
  refine ⟨h1, ?_⟩
  rcases h2 with h2 | ⟨g, cap, cur, hv, hg, hh, r⟩
  · exact .inl h2
  · exact .inr ⟨g, cap, cur, hv, hg, (hb g (by rw [hv]; rfl)).trans hh, r⟩
theorem ownsRow_base {e : TypeId} {size n : Nat} {xs : List Value} {base' : Nat} (h : w.ownsRow base e size v n xs) (hb : base' ≤ base) : w.ownsRow base' e size v n xs :=
  ⟨h.1, h.2.imp id fun ⟨g, cap, cur, hv, hg, r⟩ => ⟨g, cap, cur, hv, by omega, r⟩⟩
end
/-- Reducibly applied, it succeeds only where the goal is one operation. -/
theorem gate {P : Program} {ops : Array Oper} {rest : List Oper} {o : Oper} {a : Act} {w : World} {Q : Exit → Act → World → Prop} (h : wpList P ops Q (o :: rest) a w) : wpList P ops Q (o :: rest) a w := h
theorem flat_at {c : Nat} : ∀ {css : List (List Value)}, (∀ cs ∈ css, cs.length = c) → ∀ {i j : Nat} {cs : List Value}, css[i]? = some cs → j < c → css.flatten[i * c + j]? = cs[j]?
  | [], _, i, j, cs, hi, _ => by simp at hi
  | x :: css, h, 0, j, cs, hi, hj => by
    simp only [List.getElem?_cons_zero, Option.some.injEq] at hi
    subst hi
    rw [List.flatten_cons, List.getElem?_append_left (by rw [h x (by simp)]; omega), Nat.zero_mul, Nat.zero_add]
  | x :: css, h, i + 1, j, cs, hi, hj => by
    have hx := h x (by simp)
    rw [List.flatten_cons, List.getElem?_append_right (by rw [hx, Nat.succ_mul]; omega), hx, show (i + 1) * c + j - c = i * c + j by rw [Nat.succ_mul]; omega]
    exact flat_at (fun y hy => h y (by simp [hy])) (by simpa using hi) hj
theorem flat_len {c : Nat} : ∀ {css : List (List Value)}, (∀ cs ∈ css, cs.length = c) → css.flatten.length = css.length * c
  | [], _ => by simp
  | x :: css, h => by
    rw [List.flatten_cons, List.length_append, flat_len (fun y hy => h y (by simp [hy])), h x (by simp), List.length_cons, Nat.succ_mul]; omega
theorem add_zero_block (g j : Nat) : (⟨g, 0, none⟩ : Addr).add j = ⟨g, j, none⟩ := by unfold Addr.add; split <;> simp_all
theorem row_grown {w w' : World} {base : Nat} {v : Value} (hg : w.grownBy w' v.ownBlock) (hb : base ≤ w.heap.size) (hl : ∀ k, v.ownBlock = some k → base ≤ k ∧ k < w.heap.size) : Below base w w' :=
  ⟨hg.os, hg.tape, hg.output, hg.size, fun k hk => hg.block k (by omega) (fun e => by have := (hl k e.symm).1; omega)⟩
/-- What an append leaves. -/
structure Grew (w : World) (v v' : Value) (w' : World) : Prop where
  grown : w.grownBy w' v.ownBlock
  lt : w.heap.size ≤ w'.heap.size
theorem Grew.heap {w w' : World} {v v' : Value} (h : Grew w v v' w') {k : Nat} {o : Obj} (hk : w.heap[k]? = some o) (hne : v.ownBlock ≠ some k) : w'.heap[k]? = some o :=
  (h.grown.block k (heap_lt hk) (fun e => hne e.symm)).trans hk
theorem run_store_whole {P : Program} (w : World) (g : Nat) (ty t : TypeId) (cur cells : Array Value) (hg : w.heap[g]? = some (.cells cur t (0, 0))) (hs : cur.size = cells.size) (hi : (P.info? ty).map (·.size) = some cells.size) (h1 : cells.all (·.oneCell') = true) :
    (storeVar ty ⟨g, 0, none⟩ (.agg cells)).run P w = .ok () (w.setRow g cells) := by
  have := run_storeCells_at P g 0 t cells.toList 0 cur w hg (by simp; omega) (fun v hv => (Array.all_eq_true_iff_forall_mem.1 h1) v (by simpa using hv))
  cases hq : P.info? ty with
  | none => simp [hq] at hi
  | some i =>
    have hs' : cells.size = i.size := by simp [hq] at hi; omega
    have he : (cur.toList.take (0 + 0) ++ cells.toList ++ cur.toList.drop (0 + 0 + cells.toList.length)).toArray = cells := by
      rw [List.drop_eq_nil_of_le (by simp; omega)]; simp
    rw [he] at this
    simp [storeVar, sizeOf, typeInfo, hq, Value.cells, hs', this]
theorem range_of_heap {w : World} {b : Nat} {cs : List Value} {t : TypeId} {fr : Nat × Nat} (h : w.heap[b]? = some (.cells cs.toArray t fr)) : w.rangeAt b 0 cs := fun j v hv => by
  rw [Nat.zero_add, Lib.cell_of_heap h]; simpa using hv
theorem cells7 {w : World} {b : Nat} {c0 c1 c2 c3 c4 c5 c6 : Value} {t : TypeId} {fr : Nat × Nat} (h : w.heap[b]? = some (.cells #[c0, c1, c2, c3, c4, c5, c6] t fr)) :
    w.cell? ⟨b, 0, none⟩ = some c0 ∧ w.cell? ⟨b, 1, none⟩ = some c1 ∧ w.cell? ⟨b, 2, none⟩ = some c2 ∧ w.cell? ⟨b, 3, none⟩ = some c3 ∧ w.cell? ⟨b, 4, none⟩ = some c4 ∧ w.cell? ⟨b, 5, none⟩ = some c5 ∧ w.cell? ⟨b, 6, none⟩ = some c6 := by
  refine ⟨?_, ?_, ?_, ?_, ?_, ?_, ?_⟩ <;> (rw [Lib.cell_of_heap h]; rfl)
theorem upd_setRow (w : World) (g : Nat) (cs : Array Value) : Upd g w (w.setRow g cs) := ⟨rfl, rfl, rfl, by simp [World.setRow], fun k _ hk => setRow_other w g k cs hk⟩
theorem wp_store_whole {ops : Array Oper} {rest : List Oper} {o : Oper} {a : Act} {w : World} {Q : Exit → Act → World → Prop} (hgd : o.guard = none) (ty : TypeId) (x y : Operand) (ho : o.op = .store ty x y)
    (g : Nat) (t : TypeId) (cur cells : Array Value) (hx : a.eval x = .pointer (some ⟨g, 0, none⟩)) (hy : a.eval y = .agg cells) (hg : w.heap[g]? = some (.cells cur t (0, 0))) (hs : cur.size = cells.size) (hi : (Tryz.prog.info? ty).map (·.size) = some cells.size) (h1 : cells.all (·.oneCell') = true)
    (h : ∀ w', w'.heap[g]? = some (.cells cells t (0, 0)) → Upd g w w' → wpList Tryz.prog ops Q rest (a.put o.dst undef) w') : wpList Tryz.prog ops Q (o :: rest) a w := by
  refine wpList_plain hgd fun K hK => ?_
  unfold Oper.wp execOp
  simp only [ho, hx, hy, Instr.storeAt, Instr.sureAddr, Sem.run_bind, Sem.run_pure, Result.andThen_ok, run_store_whole w g ty t cur cells hg hs hi h1]
  exact hK _ _ (h _ (setRow_heap w g cur cells t (0, 0) hg) (upd_setRow w g cells))
theorem res_whole {P : Program} {fn : Func} {p : Tmp} {ty : TypeId} (h : fn.results = #[.cell p ty]) (tmps : Array Value) (w : World) (g : Nat) (ht : tmps.getD p undef = .pointer (some ⟨g, 0, none⟩)) (t : TypeId) (cells : Array Value) (hg : w.heap[g]? = some (.cells cells t (0, 0)))
    {d : TypeDesc} (hu : P.underlying ty = some d) (hd : d.isRow = true) (hi : (P.info? ty).map (·.size) = some cells.size) : (results fn tmps).run P w = .ok (.agg cells) w := by
  have hc : w.rangeAt g 0 cells.toList := fun j v hv => by rw [Nat.zero_add, Lib.cell_of_heap hg]; simpa using hv
  have hl := run_loadVar_mid (P := P) w g 0 ty cells.toList d hc hu hd (by simpa using hi)
  rw [Array.toArray_toList] at hl
  have ht' : tmps[p]?.getD undef = .pointer (some ⟨g, 0, none⟩) := by simpa using ht
  simp only [results, h]
  simp [ht', asAddr, hl]
theorem alloc_at {W : World} {o : Obj} {h : Nat} (e : W.heap.size = h) : (W.alloc o).heap[h]? = some o := by subst e; exact heap_alloc_new W o
theorem alloc_old {W : World} {o x : Obj} {h : Nat} (e : W.heap[h]? = some x) : (W.alloc o).heap[h]? = some x := (Below.heap_alloc W o h (heap_lt e)).trans e
theorem heap_set {W : World} {b i : Nat} {t : TypeId} {fr : Nat × Nat} {cur : Array Value} (h : W.heap[b]? = some (.cells cur t fr)) (v : Value) : (W.setCell ⟨b, i, none⟩ v).heap[b]? = some (.cells (cur.setIfInBounds i v) t fr) := by
  simp [World.setCell, Array.getElem?_modify, h]
theorem below_undrew' {B : Nat} {w w' : World} (h : Below B w.drew w') : Below B w w' := ⟨h.os, h.tape, h.output, h.size, h.block⟩
/-- A block of one's own: it is not frozen. -/
def Loose (w : World) (b : Nat) : Prop := ∃ cur t, w.heap[b]? = some (.cells cur t (0, 0))
theorem Loose.keep {w w' : World} {b : Nat} (h : Loose w b) (hk : w'.heap[b]? = w.heap[b]?) : Loose w' b := by
  obtain ⟨cur, t, h⟩ := h
  exact ⟨cur, t, hk.trans h⟩
theorem ownsRow_loose {w : World} {base : Nat} {T : TypeId} {c : Nat} {v : Value} {n : Nat} {cs : List Value} {b : Nat} (h : w.ownsRow base T c v n cs) (hb : v.ownBlock = some b) : Loose w b := by
  rcases h.2 with ⟨hv, hn⟩ | ⟨g, cap, cur, hv, hg, hh, _⟩
  · rw [hv] at hb; cases hb
  · rw [hv] at hb
    cases hb
    exact ⟨cur, T, hh⟩
end Go.Proofs.YtclhdppppgjgfaaGreatDoor
set_option linter.unusedVariables false
namespace Go.Proofs.YtclhdppppgjgfaaGreatDoor
open Go.RowKit

structure Att where
  space : Bytes
  name : Bytes
  value : Bytes
  pos : Int
inductive Node where
  | mk (kind : Int) (space name : Bytes) (attrs : List Att) (kids : List Node) (text : Bytes) (pos : Int)
namespace Node
def kind : Node → Int | mk k _ _ _ _ _ _ => k
def space : Node → Bytes | mk _ s _ _ _ _ _ => s
def name : Node → Bytes | mk _ _ n _ _ _ _ => n
def attrs : Node → List Att | mk _ _ _ ats _ _ _ => ats
def kids : Node → List Node | mk _ _ _ _ ks _ _ => ks
def text : Node → Bytes | mk _ _ _ _ _ t _ => t
def pos : Node → Int | mk _ _ _ _ _ _ p => p
end Node

/-- The cells of an attribute. -/
def attCells (a : Att) : List Value := [.string (S a.space), .string (S a.name), .string (S a.value), .int .i64 a.pos]
/-- The value v is a slice of attributes that lies below block B. -/
def AttsIn (w : World) (B : Nat) (v : Value) (ats : List Att) : Prop :=
  ∃ A cap, v = .slice A ats.length cap ∧ ats.length ≤ cap ∧ (ats = [] ∨ ∃ b off, A = some ⟨b, off, none⟩ ∧ b < B ∧ ∀ (i : Nat) a, ats[i]? = some a → w.rangeAt b (off + i * 4) (attCells a))
mutual
/-- The cells of a node. -/
def NodeIn (w : World) (B : Nat) : Node → List Value → Prop
  | .mk k s n ats ks t p, cs => ∃ va A cap, cs = [.int .i64 k, .string (S s), .string (S n), va, .slice A ks.length cap, .string (S t), .int .i64 p] ∧ AttsIn w B va ats ∧ ks.length ≤ cap ∧
      (ks = [] ∨ ∃ b off, A = some ⟨b, off, none⟩ ∧ b < B ∧ KidsIn w B b off ks)
/-- Nodes one behind the other from an offset of a block on. -/
def KidsIn (w : World) (B b : Nat) : Nat → List Node → Prop
  | _, [] => True
  | off, k :: ks => (∃ cs, NodeIn w B k cs ∧ w.rangeAt b off cs) ∧ KidsIn w B b (off + 7) ks
end
/-- A slice of nodes. -/
def NodesIn (w : World) (B : Nat) (v : Value) (ks : List Node) : Prop :=
  ∃ A cap, v = .slice A ks.length cap ∧ ks.length ≤ cap ∧ (ks = [] ∨ ∃ b off, A = some ⟨b, off, none⟩ ∧ b < B ∧ KidsIn w B b off ks)
/-- A node ats a value. -/
def NodeV (w : World) (B : Nat) (n : Node) (v : Value) : Prop := ∃ cs : List Value, v = .agg cs.toArray ∧ NodeIn w B n cs

section
variable {w w' : World} {B B' b off : Nat}
theorem AttsIn.keep {v : Value} {ats : List Att} (h : AttsIn w B v ats) (hb : ∀ k, k < B → w'.heap[k]? = w.heap[k]?) (hB : B ≤ B') : AttsIn w' B' v ats := by
  obtain ⟨A, cap, hv, hc, h⟩ := h
  refine ⟨A, cap, hv, hc, h.imp id ?_⟩
  rintro ⟨b, off, hA, hlt, hr⟩
  exact ⟨b, off, hA, by omega, fun i a hi => rangeAt_keep (hr i a hi) (hb b hlt)⟩
mutual
theorem NodeIn.keep (hb : ∀ k, k < B → w'.heap[k]? = w.heap[k]?) (hB : B ≤ B') : ∀ (n : Node) (cs : List Value), NodeIn w B n cs → NodeIn w' B' n cs
  | .mk k s nm ats ks t p, cs, h => by
    rw [NodeIn] at h ⊢
    obtain ⟨va, A, cap, hcs, ha, hc, h⟩ := h
    refine ⟨va, A, cap, hcs, ha.keep hb hB, hc, h.imp id ?_⟩
    rintro ⟨b, off, hA, hlt, hr⟩
    exact ⟨b, off, hA, by omega, KidsIn.keep hb hB hlt ks off hr⟩
theorem KidsIn.keep (hb : ∀ k, k < B → w'.heap[k]? = w.heap[k]?) (hB : B ≤ B') {b : Nat} (hlt : b < B) : ∀ (ks : List Node) (off : Nat), KidsIn w B b off ks → KidsIn w' B' b off ks
  | [], _, _ => by rw [KidsIn]; trivial
  | k :: ks, off, h => by
    rw [KidsIn] at h ⊢
    obtain ⟨⟨cs, h1, h2⟩, h3⟩ := h
    exact ⟨⟨cs, NodeIn.keep hb hB k cs h1, rangeAt_keep h2 (hb b hlt)⟩, KidsIn.keep hb hB hlt ks (off + 7) h3⟩
end
theorem NodesIn.keep {v : Value} {ks : List Node} (h : NodesIn w B v ks) (hb : ∀ k, k < B → w'.heap[k]? = w.heap[k]?) (hB : B ≤ B') : NodesIn w' B' v ks := by
  obtain ⟨A, cap, hv, hc, h⟩ := h
  refine ⟨A, cap, hv, hc, h.imp id ?_⟩
  rintro ⟨b, off, hA, hlt, hr⟩
  exact ⟨b, off, hA, by omega, KidsIn.keep hb hB hlt ks off hr⟩
theorem NodeV.keep {n : Node} {v : Value} (h : NodeV w B n v) (hb : ∀ k, k < B → w'.heap[k]? = w.heap[k]?) (hB : B ≤ B') : NodeV w' B' n v := by
  obtain ⟨cs, hv, hn⟩ := h
  exact ⟨cs, hv, NodeIn.keep hb hB n cs hn⟩
theorem NodeV.below {n : Node} {v : Value} (h : NodeV w B n v) (hb : Below B w w') : NodeV w' B n v := h.keep hb.block (Nat.le_refl _)
theorem NodeV.more {n : Node} {v : Value} (h : NodeV w B n v) (hB : B ≤ B') : NodeV w B' n v := h.keep (fun _ _ => rfl) hB
theorem NodesIn.below {ks : List Node} {v : Value} (h : NodesIn w B v ks) (hb : Below B w w') : NodesIn w' B v ks := h.keep hb.block (Nat.le_refl _)
theorem AttsIn.below {ats : List Att} {v : Value} (h : AttsIn w B v ats) (hb : Below B w w') : AttsIn w' B v ats := h.keep hb.block (Nat.le_refl _)
theorem KidsIn.at_ : ∀ {ks : List Node} {off : Nat}, KidsIn w B b off ks → ∀ {i : Nat} {k : Node}, ks[i]? = some k → ∃ cs, NodeIn w B k cs ∧ w.rangeAt b (off + i * 7) cs
  | [], off, _, i, k, hi => by simp at hi
  | x :: ks, off, h, i, k, hi => by
    rw [KidsIn] at h
    cases i with
    | zero => simp at hi; subst hi; simpa using h.1
    | succ i =>
      obtain ⟨cs, h1, h2⟩ := KidsIn.at_ h.2 (i := i) (by simpa using hi)
      exact ⟨cs, h1, by rw [show off + (i + 1) * 7 = off + 7 + i * 7 by omega]; exact h2⟩
theorem KidsIn.of_at : ∀ {ks : List Node} {off : Nat}, (∀ (i : Nat) (k : Node), ks[i]? = some k → ∃ cs, NodeIn w B k cs ∧ w.rangeAt b (off + i * 7) cs) → KidsIn w B b off ks
  | [], off, _ => by rw [KidsIn]; trivial
  | x :: ks, off, h => by
    rw [KidsIn]
    refine ⟨by simpa using h 0 x rfl, KidsIn.of_at fun i k hi => ?_⟩
    have := h (i + 1) k (by simpa using hi)
    rw [show off + (i + 1) * 7 = off + 7 + i * 7 by omega] at this
    exact this
theorem NodeIn.form {n : Node} {cs : List Value} (h : NodeIn w B n cs) : ∃ va vk, cs = [.int .i64 n.kind, .string (S n.space), .string (S n.name), va, vk, .string (S n.text), .int .i64 n.pos] ∧ AttsIn w B va n.attrs ∧ NodesIn w B vk n.kids := by
  cases n with
  | mk k s nm ats ks t p =>
    rw [NodeIn] at h
    obtain ⟨va, A, cap, hcs, ha, hc, h⟩ := h
    exact ⟨va, _, hcs, ha, A, cap, rfl, hc, h⟩
theorem NodeIn.of_form {n : Node} {va vk : Value} (ha : AttsIn w B va n.attrs) (hk : NodesIn w B vk n.kids) :
    NodeIn w B n [.int .i64 n.kind, .string (S n.space), .string (S n.name), va, vk, .string (S n.text), .int .i64 n.pos] := by
  cases n with
  | mk k s nm ats ks t p =>
    rw [NodeIn]
    obtain ⟨A, cap, hv, hc, h⟩ := hk
    exact ⟨va, A, cap, by rw [hv]; rfl, ha, hc, h⟩
theorem NodeV.form {n : Node} {v : Value} (h : NodeV w B n v) : ∃ va vk, v = .agg #[.int .i64 n.kind, .string (S n.space), .string (S n.name), va, vk, .string (S n.text), .int .i64 n.pos] ∧ AttsIn w B va n.attrs ∧ NodesIn w B vk n.kids := by
  obtain ⟨cs, hv, hn⟩ := h
  obtain ⟨va, vk, hcs, ha, hk⟩ := hn.form
  exact ⟨va, vk, by rw [hv, hcs], ha, hk⟩
theorem NodeV.of_form {n : Node} {va vk : Value} (ha : AttsIn w B va n.attrs) (hk : NodesIn w B vk n.kids) :
    NodeV w B n (.agg #[.int .i64 n.kind, .string (S n.space), .string (S n.name), va, vk, .string (S n.text), .int .i64 n.pos]) :=
  ⟨_, rfl, NodeIn.of_form ha hk⟩
theorem AttsIn.slice {ats : List Att} {v : Value} (h : AttsIn w B v ats) : ∃ A cap, v = .slice A ats.length cap ∧ ats.length ≤ cap := by
  obtain ⟨A, cap, hv, hc, _⟩ := h; exact ⟨A, cap, hv, hc⟩
theorem NodesIn.slice {ks : List Node} {v : Value} (h : NodesIn w B v ks) : ∃ A cap, v = .slice A ks.length cap ∧ ks.length ≤ cap := by
  obtain ⟨A, cap, hv, hc, _⟩ := h; exact ⟨A, cap, hv, hc⟩
theorem NodeIn.open_ {n : Node} {cs : List Value} (h : NodeIn w B n cs) : ∃ A c K d, cs = [.int .i64 n.kind, .string (S n.space), .string (S n.name), .slice A n.attrs.length c, .slice K n.kids.length d, .string (S n.text), .int .i64 n.pos] ∧
    AttsIn w B (.slice A n.attrs.length c) n.attrs ∧ NodesIn w B (.slice K n.kids.length d) n.kids ∧ n.attrs.length ≤ c ∧ n.kids.length ≤ d := by
  obtain ⟨va, vk, hcs, ha, hk⟩ := h.form
  obtain ⟨A, c, rfl, hc⟩ := ha.slice
  obtain ⟨K, d, rfl, hd⟩ := hk.slice
  exact ⟨A, c, K, d, hcs, ha, hk, hc, hd⟩
theorem NodeV.open_ {n : Node} {v : Value} (h : NodeV w B n v) : ∃ A c K d, v = .agg #[.int .i64 n.kind, .string (S n.space), .string (S n.name), .slice A n.attrs.length c, .slice K n.kids.length d, .string (S n.text), .int .i64 n.pos] ∧
    AttsIn w B (.slice A n.attrs.length c) n.attrs ∧ NodesIn w B (.slice K n.kids.length d) n.kids ∧ n.attrs.length ≤ c ∧ n.kids.length ≤ d := by
  obtain ⟨cs, hv, hn⟩ := h
  obtain ⟨A, c, K, d, hcs, h⟩ := hn.open_
  exact ⟨A, c, K, d, by rw [hv, hcs], h⟩
theorem AttsIn.at_ {ats : List Att} {A : Option Addr} {n cap i : Nat} (h : AttsIn w B (.slice A n cap) ats) (hi : i < ats.length) :
    ∃ b off, A = some ⟨b, off, none⟩ ∧ b < B ∧ w.rangeAt b (off + i * 4) (attCells ats[i]) := by
  obtain ⟨A', cap', hv, _, h⟩ := h
  cases hv
  rcases h with h | ⟨b, off, hA, hlt, hr⟩
  · subst h; simp at hi
  · exact ⟨b, off, hA, hlt, hr i _ (List.getElem?_eq_getElem hi)⟩
theorem NodesIn.at_ {ks : List Node} {A : Option Addr} {n cap i : Nat} (h : NodesIn w B (.slice A n cap) ks) (hi : i < ks.length) :
    ∃ b off cs, A = some ⟨b, off, none⟩ ∧ b < B ∧ w.rangeAt b (off + i * 7) cs ∧ NodeIn w B ks[i] cs := by
  obtain ⟨A', cap', hv, _, h⟩ := h
  cases hv
  rcases h with h | ⟨b, off, hA, hlt, hr⟩
  · subst h; simp at hi
  · obtain ⟨cs, h1, h2⟩ := hr.at_ (List.getElem?_eq_getElem hi)
    exact ⟨b, off, cs, hA, hlt, h2, h1⟩
end
end Go.Proofs.YtclhdppppgjgfaaGreatDoor
set_option linter.unusedVariables false
namespace Go.Proofs.YtclhdppppgjgfaaGreatDoor

structure Tok where
  kind : Int
  name : Bytes
  attrs : List Att
  empty : Bool
  text : Bytes
  pos : Int

/-- A string's part stands at a place. -/
def hasAt (l : Bytes) (n : Nat) (t : Bytes) : Bool := t.isPrefixOf (l.drop n)
theorem hasAt_take {l : Bytes} {n : Nat} {t : Bytes} : hasAt l n t = ((l.drop n).take t.length == t) := by
  unfold hasAt
  rw [Bool.eq_iff_iff, List.isPrefixOf_iff_prefix, List.prefix_iff_eq_take, beq_iff_eq, eq_comm]
theorem hasAt_le {l : Bytes} {n : Nat} {t : Bytes} (h : hasAt l n t = true) : t.length + n ≤ l.length ∨ t = [] := by
  unfold hasAt at h
  rw [List.isPrefixOf_iff_prefix] at h
  have := h.length_le
  rw [List.length_drop] at this
  by_cases h0 : t = []
  · exact .inr h0
  · have := List.length_pos_iff.2 h0
    left; omega
/-- How far away the next one is. -/
def findS (t : Bytes) : Bytes → Option Nat
  | [] => if t = [] then some 0 else none
  | a :: x => if t.isPrefixOf (a :: x) = true then some 0 else (findS t x).map (· + 1)
theorem findS_le {t : Bytes} : ∀ {x : Bytes} {k : Nat}, findS t x = some k → k + t.length ≤ x.length
  | [], k, h => by
    rw [findS] at h
    split at h
    · rename_i e; cases h; subst e; simp
    · cases h
  | a :: x, k, h => by
    rw [findS] at h
    split at h
    · rename_i e
      cases h
      rw [List.isPrefixOf_iff_prefix] at e
      have := e.length_le
      omega
    · cases hf : findS t x with
      | none => rw [hf] at h; cases h
      | some j =>
        rw [hf] at h
        cases h
        have := findS_le hf
        simp only [List.length_cons]
        omega
theorem findS_hit {t x : Bytes} (h : t.isPrefixOf x = true) : findS t x = some 0 := by
  cases x with
  | nil => rw [findS, if_pos (by cases t; rfl; simp at h)]
  | cons a x => rw [findS, if_pos h]
theorem findS_next {l t : Bytes} {n : Nat} (hn : n < l.length) (h : hasAt l n t = false) : findS t (l.drop n) = (findS t (l.drop (n + 1))).map (· + 1) := by
  unfold hasAt at h
  rw [List.drop_eq_getElem_cons hn] at h ⊢
  rw [findS, if_neg (by rw [h]; decide)]
theorem findS_short {t : Bytes} : ∀ {x : Bytes}, x.length < t.length → findS t x = none
  | [], h => by rw [findS, if_neg (by rintro rfl; simp at h)]
  | a :: x, h => by
    simp only [List.length_cons] at h
    rw [findS, if_neg, findS_short (by omega)]
    · rfl
    · intro e
      rw [List.isPrefixOf_iff_prefix] at e
      have := e.length_le
      simp at this; omega

/-- White space. -/
def isSp (c : UInt8) : Bool := decide (c.toNat = 32 ∨ c.toNat = 9 ∨ c.toNat = 10 ∨ c.toNat = 13)
def run (p : UInt8 → Bool) : Bytes → Nat
  | [] => 0
  | c :: x => if p c = true then run p x + 1 else 0
theorem run_le (p : UInt8 → Bool) : ∀ x : Bytes, run p x ≤ x.length
  | [] => Nat.le_refl _
  | c :: x => by
    have := run_le p x
    rw [run]; split <;> simp <;> omega
theorem run_yes {p : UInt8 → Bool} {l : Bytes} {n : Nat} (hn : n < l.length) (h : p l[n] = true) : run p (l.drop n) = run p (l.drop (n + 1)) + 1 := by
  rw [List.drop_eq_getElem_cons hn, run, if_pos h]
theorem run_no {p : UInt8 → Bool} {l : Bytes} {n : Nat} (hn : n < l.length) (h : p l[n] = false) : run p (l.drop n) = 0 := by
  rw [List.drop_eq_getElem_cons hn, run, if_neg (by rw [h]; decide)]
theorem run_end (p : UInt8 → Bool) (l : Bytes) : run p (l.drop l.length) = 0 := by rw [List.drop_length]; rfl
/-- The place behind white space. -/
def spEnd (l : Bytes) (n : Nat) : Nat := n + run isSp (l.drop n)
theorem spEnd_ge (l : Bytes) (n : Nat) : n ≤ spEnd l n := by unfold spEnd; omega
theorem spEnd_le {l : Bytes} {n : Nat} (h : n ≤ l.length) : spEnd l n ≤ l.length := by
  have := run_le isSp (l.drop n)
  rw [List.length_drop] at this
  unfold spEnd; omega

/-- Line ends replaced. -/
def linesB : Bytes → Bytes
  | [] => []
  | c :: x => if c.toNat = 13 ∧ x.head? = some 10 then linesB x else (if c.toNat = 13 then 10 else c) :: linesB x
theorem linesB_len : ∀ x : Bytes, (linesB x).length ≤ x.length
  | [] => Nat.le_refl _
  | c :: x => by
    have := linesB_len x
    rw [linesB]; split <;> simp <;> omega
/-- White space of a value. -/
def blanks (v : Bool) (x : Bytes) : Bytes := x.map fun c => if v = true ∧ isSp c = true then 32 else c
/-- Text with line ends and references replaced; the number of an error is where its reference stands. 'k': bytes of a reference that has been read. -/
def contS (v : Bool) : Nat → Bytes → Nat → Except Nat Bytes
  | _, [], _ => .ok []
  | k + 1, _ :: t, n => contS v k t (n + 1)
  | 0, c :: t, n =>
    if c = 38 then
      match tailRef t with
      | none => .error n
      | some (r, m) => (contS v (m + 1) t (n + 1)).map (enc r ++ ·)
    else if c.toNat = 13 ∧ t.head? = some 10 then contS v 0 t (n + 1)
    else (contS v 0 t (n + 1)).map ((blanks v [if c.toNat = 13 then 10 else c]) ++ ·)
def cont (v : Bool) (l : Bytes) (a b : Nat) : Except Nat Bytes := contS v 0 ((l.take b).drop a) a
theorem contS_skip (v : Bool) : ∀ (k : Nat) (l : Bytes) (n : Nat), k ≤ l.length → contS v k l n = contS v 0 (l.drop k) (n + k)
  | 0, l, n, _ => by simp
  | k + 1, [], n, h => by simp at h
  | k + 1, a :: l, n, h => by
    rw [contS, contS_skip v k l (n + 1) (by simpa using h), List.drop_succ_cons, show n + 1 + k = n + (k + 1) by omega]
theorem cont_bad {v : Bool} {l : Bytes} {n : Nat} (h : n < l.length) (hc : l[n] = 38) (hr : tailRef (l.drop (n + 1)) = none) : contS v 0 (l.drop n) n = .error n := by
  rw [List.drop_eq_getElem_cons h, contS, if_pos hc, hr]
theorem cont_ref {v : Bool} {l : Bytes} {n r m : Nat} (h : n < l.length) (hc : l[n] = 38) (hr : tailRef (l.drop (n + 1)) = some (r, m)) : contS v 0 (l.drop n) n = (contS v 0 (l.drop (n + m + 2)) (n + m + 2)).map (enc r ++ ·) := by
  have hl := tailRef_len hr
  rw [List.drop_eq_getElem_cons h, contS, if_pos hc, hr]
  simp only
  rw [contS_skip v (m + 1) _ _ hl, List.drop_drop, show n + 1 + (m + 1) = n + m + 2 by omega]
/-- A run without '&'. -/
theorem cont_run (v : Bool) (y : Bytes) (hy : y.head? ≠ some 10) : ∀ (x : Bytes) (n : Nat), (∀ b ∈ x, b ≠ 38) → contS v 0 (x ++ y) n = (contS v 0 y (n + x.length)).map (blanks v (linesB x) ++ ·)
  | [], n, _ => by
    simp only [List.nil_append, linesB, blanks, List.map_nil, List.length_nil, Nat.add_zero]
    cases contS v 0 y n <;> rfl
  | c :: x, n, h => by
    have ih := cont_run v y hy x (n + 1) (fun b hb => h b (by simp [hb]))
    rw [List.cons_append, contS, if_neg (h c (by simp)), linesB]
    have hh : (x ++ y).head? = some 10 ↔ x.head? = some 10 := by
      cases x with
      | nil => simpa using hy
      | cons a x => simp
    by_cases h1 : c.toNat = 13 ∧ x.head? = some 10
    · rw [if_pos ⟨h1.1, hh.2 h1.2⟩, if_pos h1, ih, List.length_cons, show n + 1 + x.length = n + (x.length + 1) by omega]
    · rw [if_neg (fun h2 => h1 ⟨h2.1, hh.1 h2.2⟩), if_neg h1, ih, map_map_ex, List.length_cons, show n + 1 + x.length = n + (x.length + 1) by omega]
      congr 1

def missing (l : Bytes) (a n : Nat) : Nat × Nat := if l.length ≤ n then (a, 8) else (n, 7)
/-- The run of a value in quotes. -/
def valEnd (l : Bytes) (q : UInt8) (n : Nat) : Nat := n + run (fun c => c != q && c != 60) (l.drop n)
theorem valEnd_ge (l : Bytes) (q : UInt8) (n : Nat) : n ≤ valEnd l q n := by unfold valEnd; omega
theorem valEnd_le {l : Bytes} {q : UInt8} {n : Nat} (h : n ≤ l.length) : valEnd l q n ≤ l.length := by
  have := run_le (fun c => c != q && c != 60) (l.drop n)
  rw [List.length_drop] at this
  unfold valEnd; omega
def isQuote (l : Bytes) (n : Nat) : Bool := hasAt l n [34] || hasAt l n [39]
/-- An attribute's value behind the opening quote. -/
def valAt (l : Bytes) (a : Nat) (nm : Bytes) (p : Nat) (q : UInt8) (n : Nat) : Except (Nat × Nat) (Att × Nat) :=
  match cont true l n (valEnd l q n) with
  | .error x => .error (x, 12)
  | .ok v =>
    if valEnd l q n = l.length then .error (a, 8)
    else if l.getD (valEnd l q n) 0 = 60 then .error (valEnd l q n, 7)
    else .ok (⟨[], nm, v, p⟩, valEnd l q n + 1)
/-- An attribute at n, in a tag that starts at a. -/
def attAt (l : Bytes) (a n : Nat) : Except (Nat × Nat) (Att × Nat) :=
  if nameLen (l.drop n) = 0 then .error (missing l a n)
  else if hasAt l (spEnd l (n + nameLen (l.drop n))) [61] = false then .error (missing l a (spEnd l (n + nameLen (l.drop n))))
  else if isQuote l (spEnd l (spEnd l (n + nameLen (l.drop n)) + 1)) = false then .error (missing l a (spEnd l (spEnd l (n + nameLen (l.drop n)) + 1)))
  else valAt l a ((l.drop n).take (nameLen (l.drop n))) n (l.getD (spEnd l (spEnd l (n + nameLen (l.drop n)) + 1)) 0) (spEnd l (spEnd l (n + nameLen (l.drop n)) + 1) + 1)
/-- The attributes and the end of a start tag. -/
def tagF (l : Bytes) (a : Nat) : Nat → Nat → List Att → Except (Nat × Nat) (List Att × Bool × Nat)
  | 0, _, _ => .error (0, 0)
  | f + 1, n, bs =>
    if hasAt l (spEnd l n) [62] = true then .ok (bs, false, spEnd l n + 1)
    else if hasAt l (spEnd l n) [47, 62] = true then .ok (bs, true, spEnd l n + 2)
    else if hasAt l (spEnd l n) [47] = true then .error (missing l a (spEnd l n + 1))
    else if spEnd l n = n then .error (missing l a n)
    else match attAt l a (spEnd l n) with
      | .error e => .error e
      | .ok (b, e) => if bs.any (fun c => c.name == b.name) = true then .error (spEnd l n, 10) else tagF l a f e (bs ++ [b])
def tagS (l : Bytes) (a n : Nat) (bs : List Att) : Except (Nat × Nat) (List Att × Bool × Nat) := tagF l a (l.length + 1) n bs
def startAt (l : Bytes) (a : Nat) : Except (Nat × Nat) (Tok × Nat) :=
  if nameLen (l.drop (a + 1)) = 0 then .error (missing l a (a + 1))
  else match tagS l a (a + 1 + nameLen (l.drop (a + 1))) [] with
    | .error e => .error e
    | .ok (bs, em, e) => .ok (⟨1, (l.drop (a + 1)).take (nameLen (l.drop (a + 1))), bs, em, [], a⟩, e)
def endAt (l : Bytes) (a : Nat) : Except (Nat × Nat) (Tok × Nat) :=
  if nameLen (l.drop (a + 2)) = 0 then .error (missing l a (a + 2))
  else if hasAt l (spEnd l (a + 2 + nameLen (l.drop (a + 2)))) [62] = true then .ok (⟨2, (l.drop (a + 2)).take (nameLen (l.drop (a + 2))), [], false, [], a⟩, spEnd l (a + 2 + nameLen (l.drop (a + 2))) + 1)
  else .error (missing l a (spEnd l (a + 2 + nameLen (l.drop (a + 2)))))
/-- What is skipped: its end. -/
def skipAt (l : Bytes) (a k : Nat) (last : Bytes) : Except (Nat × Nat) Nat :=
  match findS last (l.drop (a + k)) with
  | none => .error (a, 8)
  | some j => .ok (a + k + j + last.length)
def sPi : Bytes := [60, 63]
def sPiEnd : Bytes := [63, 62]
def sCom : Bytes := [60, 33, 45, 45]
def sComEnd : Bytes := [45, 45, 62]
def sCd : Bytes := [60, 33, 91, 67, 68, 65, 84, 65, 91]
def sCdEnd : Bytes := [93, 93, 62]
def sDoc : Bytes := [60, 33, 68, 79, 67, 84, 89, 80, 69]
def sBang : Bytes := [60, 33]
def sEnd : Bytes := [60, 47]
def sLt : Bytes := [60]
def zTok (k : Int) : Tok := ⟨k, [], [], false, [], 0⟩
/-- Where text ends. -/
def textEnd (l : Bytes) (a : Nat) : Nat := match findS sLt (l.drop a) with | none => l.length | some j => a + j
/-- A construct; one that is left out is a text of no byte. -/
def consAt (l : Bytes) (a : Nat) : Except (Nat × Nat) (Tok × Nat) :=
  if hasAt l a sPi = true then (skipAt l a 2 sPiEnd).map fun e => (zTok 3, e)
  else if hasAt l a sCom = true then (skipAt l a 4 sComEnd).map fun e => (zTok 3, e)
  else if hasAt l a sCd = true then (skipAt l a 9 sCdEnd).map fun e => (⟨3, [], [], false, linesB ((l.drop (a + 9)).take (e - 3 - (a + 9))), a⟩, e)
  else if hasAt l a sDoc = true then .error (a, 11)
  else if hasAt l a sBang = true then .error (a, 7)
  else if hasAt l a sEnd = true then endAt l a
  else if hasAt l a sLt = true then startAt l a
  else match cont false l a (textEnd l a) with
    | .error x => .error (x, 12)
    | .ok t => .ok (⟨3, [], [], false, t, a⟩, textEnd l a)
def keepTok (t : Tok) : Bool := t.kind != 3 || t.text != []
/-- The tokens from a place on. -/
def tokF (l : Bytes) : Nat → Nat → List Tok → Except (Nat × Nat) (List Tok)
  | 0, _, _ => .error (0, 0)
  | f + 1, n, ts =>
    if n < l.length then
      match consAt l n with
      | .error e => .error e
      | .ok (t, e) => tokF l f e (if keepTok t = true then ts ++ [t] else ts)
    else .ok ts
def tokS (l : Bytes) (n : Nat) (ts : List Tok) : Except (Nat × Nat) (List Tok) := tokF l (l.length + 1) n ts
def sBom : Bytes := [239, 187, 191]
/-- What Tokens returns. -/
def toks (l : Bytes) : List Tok × Nat × Nat :=
  if (check l).2 ≠ 0 then ([], (check l).1, (check l).2)
  else match tokS l (if hasAt l 0 sBom = true then 3 else 0) [] with
    | .error e => ([], e.1, e.2)
    | .ok ts => (ts, l.length, 0)


/-! Where things end. -/
theorem attAt_ok {l : Bytes} {a n : Nat} {b : Att} {e : Nat} (hn : n ≤ l.length) (h : attAt l a n = .ok (b, e)) : n < e ∧ e ≤ l.length ∧ b.pos = n := by
  unfold attAt at h
  have hk := nameLen_le (l.drop n)
  rw [List.length_drop] at hk
  by_cases h1 : nameLen (l.drop n) = 0
  · rw [if_pos h1] at h; cases h
  rw [if_neg h1] at h
  have s1 := spEnd_ge l (n + nameLen (l.drop n))
  generalize nameLen (l.drop n) = k at *
  generalize spEnd l (n + k) = x at *
  by_cases h2 : hasAt l x [61] = false
  · rw [if_pos h2] at h; cases h
  rw [if_neg h2] at h
  have s2 := spEnd_ge l (x + 1)
  generalize spEnd l (x + 1) = y at *
  by_cases h3 : isQuote l y = false
  · rw [if_pos h3] at h; cases h
  rw [if_neg h3] at h
  have hy : y + 1 ≤ l.length := by
    unfold isQuote at h3
    have h4 : hasAt l y [34] = true ∨ hasAt l y [39] = true := by
      cases h5 : hasAt l y [34] <;> cases h6 : hasAt l y [39] <;> simp_all
    rcases h4 with h4 | h4
    all_goals
      have := hasAt_le h4
      simp at this; omega
  unfold valAt at h
  have v1 := valEnd_ge l (l.getD y 0) (y + 1)
  have v2 := valEnd_le (q := l.getD y 0) hy
  generalize valEnd l (l.getD y 0) (y + 1) = z at *
  split at h
  · cases h
  · split at h
    · cases h
    · split at h
      · cases h
      · cases h
        exact ⟨by omega, by omega, rfl⟩
theorem tagF_ok {l : Bytes} {a : Nat} : ∀ {f n : Nat} {bs cs : List Att} {em : Bool} {e : Nat}, n ≤ l.length → tagF l a f n bs = .ok (cs, em, e) → n < e ∧ e ≤ l.length
  | 0, _, _, _, _, _, _, h => by cases h
  | f + 1, n, bs, cs, em, e, hn, h => by
    rw [tagF] at h
    have s1 := spEnd_ge l n
    have s2 := spEnd_le hn
    generalize spEnd l n = x at *
    by_cases h1 : hasAt l x [62] = true
    · rw [if_pos h1] at h
      cases h
      have := hasAt_le h1
      simp at this; omega
    rw [if_neg h1] at h
    by_cases h2 : hasAt l x [47, 62] = true
    · rw [if_pos h2] at h
      cases h
      have := hasAt_le h2
      simp at this; omega
    rw [if_neg h2] at h
    by_cases h3 : hasAt l x [47] = true
    · rw [if_pos h3] at h; cases h
    rw [if_neg h3] at h
    by_cases h4 : x = n
    · rw [if_pos h4] at h; cases h
    rw [if_neg h4] at h
    cases ha : attAt l a x with
    | error y => rw [ha] at h; cases h
    | ok p =>
      obtain ⟨b, y⟩ := p
      rw [ha] at h
      have h5 := attAt_ok s2 ha
      simp only at h
      split at h
      · cases h
      · have := tagF_ok h5.2.1 h
        omega
theorem textEnd_ge (l : Bytes) (a : Nat) (h : a ≤ l.length) : a ≤ textEnd l a ∧ textEnd l a ≤ l.length := by
  unfold textEnd
  cases hf : findS sLt (l.drop a) with
  | none => exact ⟨h, Nat.le_refl _⟩
  | some j =>
    have := findS_le hf
    rw [List.length_drop] at this
    simp only
    simp [sLt] at this; omega
theorem skipAt_ok {l : Bytes} {a k e : Nat} {t : Bytes} (ht : t ≠ []) (h : skipAt l a k t = .ok e) : a + k + t.length ≤ e ∧ e ≤ l.length := by
  unfold skipAt at h
  cases hf : findS t (l.drop (a + k)) with
  | none => rw [hf] at h; cases h
  | some j =>
    rw [hf] at h
    cases h
    have := findS_le hf
    have ht' := List.length_pos_iff.2 ht
    rw [List.length_drop] at this
    omega
theorem startAt_ok {l : Bytes} {a e : Nat} {t : Tok} (h : startAt l a = .ok (t, e)) : a < e ∧ e ≤ l.length ∧ t.kind = 1 ∧ t.pos = a := by
  unfold startAt at h
  have hk := nameLen_le (l.drop (a + 1))
  rw [List.length_drop] at hk
  split at h
  · cases h
  · cases hs : tagS l a (a + 1 + nameLen (l.drop (a + 1))) [] with
    | error y => rw [hs] at h; cases h
    | ok p =>
      obtain ⟨bs, em, y⟩ := p
      rw [hs] at h
      cases h
      have := tagF_ok (by omega) hs
      exact ⟨by omega, by omega, rfl, rfl⟩
theorem endAt_ok {l : Bytes} {a e : Nat} {t : Tok} (h : endAt l a = .ok (t, e)) : a < e ∧ e ≤ l.length ∧ t.kind = 2 ∧ t.pos = a := by
  unfold endAt at h
  split at h
  · cases h
  · split at h
    · rename_i h1
      cases h
      have := spEnd_ge l (a + 2 + nameLen (l.drop (a + 2)))
      have h2 := hasAt_le h1
      simp at h2
      exact ⟨by omega, by omega, rfl, rfl⟩
    · cases h
/-- What a construct's end is. -/
theorem consAt_ok {l : Bytes} {a e : Nat} {t : Tok} (ha : a < l.length) (h : consAt l a = .ok (t, e)) : a < e ∧ e ≤ l.length := by
  unfold consAt at h
  have sk : ∀ (k : Nat) (s : Bytes) (g : Nat → Tok × Nat), (∀ e, (g e).2 = e) → s ≠ [] → (skipAt l a k s).map g = .ok (t, e) → a < e ∧ e ≤ l.length := by
    intro k s g hg hs hh
    cases hq : skipAt l a k s with
    | error y => rw [hq] at hh; cases hh
    | ok y =>
      rw [hq] at hh
      have h1 := skipAt_ok hs hq
      have h2 := hg y
      have h3 : g y = (t, e) := by simpa [Except.map] using hh
      rw [h3] at h2
      have := List.length_pos_iff.2 hs
      simp only at h2
      omega
  by_cases h1 : hasAt l a sPi = true
  · rw [if_pos h1] at h; exact sk 2 sPiEnd _ (fun _ => rfl) (by decide) h
  rw [if_neg h1] at h
  by_cases h1 : hasAt l a sCom = true
  · rw [if_pos h1] at h; exact sk 4 sComEnd _ (fun _ => rfl) (by decide) h
  rw [if_neg h1] at h
  by_cases h1 : hasAt l a sCd = true
  · rw [if_pos h1] at h; exact sk 9 sCdEnd _ (fun _ => rfl) (by decide) h
  rw [if_neg h1] at h
  by_cases h1 : hasAt l a sDoc = true
  · rw [if_pos h1] at h; cases h
  rw [if_neg h1] at h
  by_cases h1 : hasAt l a sBang = true
  · rw [if_pos h1] at h; cases h
  rw [if_neg h1] at h
  by_cases h1 : hasAt l a sEnd = true
  · rw [if_pos h1] at h
    have := endAt_ok h
    omega
  rw [if_neg h1] at h
  by_cases h1 : hasAt l a sLt = true
  · rw [if_pos h1] at h
    have := startAt_ok h
    omega
  rw [if_neg h1] at h
  split at h
  · cases h
  · cases h
    have h2 := textEnd_ge l a (by omega)
    refine ⟨?_, h2.2⟩
    unfold textEnd
    cases hf : findS sLt (l.drop a) with
    | none => exact ha
    | some j =>
      simp only
      cases j with
      | zero =>
        exfalso
        apply h1
        unfold hasAt
        cases hd : l.drop a with
        | nil => have := congrArg List.length hd; simp at this; omega
        | cons c x =>
          rw [hd, findS] at hf
          by_cases h3 : sLt.isPrefixOf (c :: x) = true
          · exact h3
          · rw [if_neg h3] at hf
            cases hq : findS sLt x <;> rw [hq] at hf <;> cases hf
      | succ j => omega
end Go.Proofs.YtclhdppppgjgfaaGreatDoor
