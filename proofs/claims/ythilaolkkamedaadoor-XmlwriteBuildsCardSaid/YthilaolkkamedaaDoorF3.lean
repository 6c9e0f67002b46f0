/-
  Several texts in one file, in build order:
  - Walks of chapter 1: the program's decoder, and both checks.
  - A position in a document (the struct cursor) behind a pointer.
  - Walks of chapter 6: names (program and reference).
  - Walks of chapters 1 and 6: the reference's check; qualified names (program and reference).
  - Walks of chapter 9: characters and attributes (the program).
  - Walk of chapter 9: is a tree valid (the program).
  - Walk of chapter 9: Check and Write (the program).
  - Plain laws of chapter 9: the two forms of validity. No program.
  - Plain laws of chapter 9: what the canonical form tells of a tree; validity, depth and the reference's check. No program.
  - Walk of chapter 9's statements: the example of the chapter.
  - Walk of chapter 9: the reference's chars, node, Write.
-/
import Derived.Deep.LoopGhost
import Derived.Deep.QuietTactic
import Derived.BigQuiet
import Derived.Laws.EntriesVeiled
import Derived.Deep.RegionHeld3
import Derived.Test.YthilaolkkamedaaDoorF2
set_option linter.unusedVariables false
namespace Go.Proofs.YthilaolkkamedaaDoor
open Go.RowKit

theorem dec_one (l : Bytes) (h : (dec l).2 = 1) : (dec l).1 < 128 := by
  unfold dec at h ⊢
  match l with
  | [] => simp
  | a :: t =>
    dsimp only at h ⊢
    by_cases h1 : a.toNat < 128
    · simp [h1]
    · simp only [h1, if_false] at h ⊢
      match t with
      | [] => simp
      | b :: t =>
        dsimp only at h ⊢
        repeat' split at h
        all_goals first | omega | (simp at h)
theorem decodeGo_S (l : Bytes) (h : l ≠ []) : Lib.decodeGo (S l) = if (dec l).2 = 0 then (65533, 1) else dec l := by
  unfold Lib.decodeGo
  rw [if_neg (by rw [S_size]; intro e; exact h (List.eq_nil_of_length_eq_zero e)), utf8_dec l h]

theorem ret_dec {r r' : Nat} {n n' : Nat} (h : (r, n) = (r', n')) : Ending.returned (.tuple #[.int .i32 r, .int .i64 n]) = .returned (.tuple #[.int .i32 r', .int .i64 n']) := by
  cases h; rfl

set_option maxHeartbeats 1000000 in
theorem decode_out (l : Bytes) (n : Int) (w : World) (hl : l.length ≤ 4611686018427387904) (h : n < 0 ∨ (l.length : Int) ≤ n) :
    Calls Tryd.prog 46 #[.string (S l), .int .i64 n] w fun e w' => e = .returned (.tuple #[.int .i32 0, .int .i64 0]) ∧ w = w' := by
  rcases h with h | h
  · go_enter Tryd.func46, Tryd.ntmps46
    go_wp2
    go_ret2
    exact ⟨rfl, rfl⟩
  · have h0 : 0 ≤ n := by omega
    go_enter Tryd.func46, Tryd.ntmps46
    go_wp2
    go_ret2
    exact ⟨rfl, rfl⟩

set_option maxHeartbeats 1000000 in
theorem decode_in (l : Bytes) (n : Nat) (w : World) (hT : Tabs w) (hl : l.length ≤ 4611686018427387904) (h : n < l.length) :
    Calls Tryd.prog 46 #[.string (S l), .int .i64 n] w fun e w' => e = .returned (.tuple #[.int .i32 (dec (l.drop n)).1, .int .i64 (dec (l.drop n)).2]) ∧ Below w.heap.size w w' := by
  have hne : l.drop n ≠ [] := fun e => by have := congrArg List.length e; simp at this; omega
  have hc := Tryd.utf8_DecodeRuneInString (S (l.drop n)) w hT.utf
  rw [decodeGo_S _ hne] at hc
  have HT := Lib.hid hT
  clear hT
  by_cases h0 : (dec (l.drop n)).2 = 0
  · have hz := dec_zero h0
    rw [if_pos h0] at hc
    rw [hz]
    have HC := Lib.hid hc
    clear hc h0 hz hne
    go_enter Tryd.func46, Tryd.ntmps46
    go_wp2_with (go_at_call 52; refine HC.out.mono ?_; rintro e w' ⟨rfl, hb⟩)
    go_ret2
    exact ⟨rfl, hb⟩
  · rw [if_neg h0] at hc
    have h1 := dec_one (l.drop n)
    generalize (dec (l.drop n)).1 = r at *
    generalize (dec (l.drop n)).2 = k at *
    have t : ((r : Int) == 65533) = false ∨ (((r : Int) == 65533) = true ∧ ((k : Int) == 1) = false) := by
      by_cases hr : r = 65533
      · right; subst hr; refine ⟨rfl, ?_⟩; rw [beq_eq_false_iff_ne]; intro hk; have := h1 (by omega); omega
      · left; rw [beq_eq_false_iff_ne]; omega
    have HC := Lib.hid hc
    clear hc h0 hne h1
    rcases t with t | ⟨t, t2⟩
    · go_enter Tryd.func46, Tryd.ntmps46
      go_wp2_with (go_at_call 52; refine HC.out.mono ?_; rintro e w' ⟨rfl, hb⟩)
      go_ret2
      exact ⟨rfl, hb⟩
    · go_enter Tryd.func46, Tryd.ntmps46
      go_wp2_with (go_at_call 52; refine HC.out.mono ?_; rintro e w' ⟨rfl, hb⟩)
      go_ret2
      exact ⟨rfl, hb⟩

theorem decode_any (l : Bytes) (n : Int) (w : World) (hT : Tabs w) (hl : l.length ≤ 4611686018427387904) :
    Calls Tryd.prog 46 #[.string (S l), .int .i64 n] w fun e w' => e = .returned (.tuple #[.int .i32 (decAt l n).1, .int .i64 (decAt l n).2]) ∧ Below w.heap.size w w' := by
  unfold decAt
  by_cases h : 0 ≤ n ∧ n < l.length
  · rw [if_pos h]
    obtain ⟨k, rfl⟩ := Int.eq_ofNat_of_zero_le h.1
    exact decode_in l k w hT hl (by omega)
  · rw [if_neg h]
    refine (decode_out l n w hl (by omega)).mono ?_
    rintro e w' ⟨rfl, rfl⟩
    exact ⟨rfl, Below.refl _ _⟩
theorem refDecode_any (l : Bytes) (n : Int) (w : World) (hl : l.length ≤ 4611686018427387904) :
    Calls Tryd.prog 43 #[.string (S l), .int .i64 n] w fun e w' => e = .returned (.tuple #[.int .i64 (decAt l n).1, .int .i64 (decAt l n).2]) ∧ Below w.heap.size w w' := by
  unfold decAt
  by_cases h : 0 ≤ n ∧ n < l.length
  · rw [if_pos h]
    obtain ⟨k, rfl⟩ := Int.eq_ofNat_of_zero_le h.1
    exact refDecode_in l k w hl (by omega)
  · rw [if_neg h]
    refine (refDecode_out l n w hl (by omega)).mono ?_
    rintro e w' ⟨rfl, rfl⟩
    exact ⟨rfl, Below.refl _ _⟩

theorem drop_ne {l : Bytes} {n : Nat} (h : n < l.length) : l.drop n ≠ [] := fun e => by have := congrArg List.length e; simp at this; omega
theorem ret_chk {a b a' b' : Nat} (h : (a', b') = (a, b)) : Ending.returned (.tuple #[.int .i64 a, .int .i64 b]) = .returned (.tuple #[.int .i64 a', .int .i64 b']) := by cases h; rfl

set_option maxHeartbeats 1000000 in
theorem check_any (l : Bytes) (w : World) (hT : Tabs w) (hl : l.length ≤ 4611686018427387904) :
    Calls Tryd.prog 41 #[.string (S l)] w fun e w' => e = .returned (.tuple #[.int .i64 (check l).1, .int .i64 (check l).2]) ∧ Below w.heap.size w w' := by
  have HT := Lib.hid hT
  clear hT
  obtain ⟨c, hc⟩ : ∃ c, check l = c := ⟨_, rfl⟩
  rw [hc]
  have HC := Lib.hid hc
  clear hc
  go_enter Tryd.func41, Tryd.ntmps41
  go_wp2
  go_loopw [4] (fun a4 wr => ∃ n : Nat, n ≤ l.length ∧ a4 = .int .i64 n ∧ chkS 0 (l.drop n) n = c ∧ Below w.heap.size w wr) (fun a4 _ => l.length - (intOf a4).toNat)
  case atStart => exact ⟨0, by omega, rfl, HC.out, Below.refl _ _⟩
  case round =>
    obtain ⟨n, hn, rfl, hch, hb⟩ := hrel
    have HB := Lib.hid hb
    have hsz := hb.size
    clear hb
    by_cases hlt : n < l.length
    · have hle := dec_le (l.drop n)
      have hne := drop_ne hlt
      have hd := decode_in l n wr (HT.out.next HB.out) hl hlt
      have HD := Lib.hid hd
      clear hd
      by_cases h0 : (dec (l.drop n)).2 = 0
      · have hcc := chk_bad (at_ := n) hne h0
        rw [hch] at hcc
        have t0 : (((dec (l.drop n)).2 : Int) == 0) = true := by rw [h0]; rfl
        have HCC := Lib.hid hcc
        clear hcc hch h0 hne
        generalize dec (l.drop n) = d at *
        obtain ⟨r, k⟩ := d
        go_wp2_with (go_at_call 46; refine HD.out.mono ?_; rintro e w' ⟨rfl, hb⟩)
        go_ret2
        exact ⟨by rw [HCC.out]; rfl, HB.out.trans (hb.mono hsz)⟩
      · have t0 : (((dec (l.drop n)).2 : Int) == 0) = false := by rw [beq_eq_false_iff_ne]; omega
        cases hi : isChar (dec (l.drop n)).1
        · have hcc := chk_char (at_ := n) hne h0 hi
          rw [hch] at hcc
          have HCC := Lib.hid hcc
          have HI := Lib.hid hi
          clear hcc hch h0 hne hi
          generalize dec (l.drop n) = d at *
          obtain ⟨r, k⟩ := d
          go_wp2_with (first | (go_at_call 46; refine HD.out.mono ?_; rintro e w' ⟨rfl, hb⟩) | (go_at_call 49; refine (isChar_any _ _).mono ?_; rintro e w2 ⟨rfl, rfl⟩; rw [HI.out]))
          go_ret2
          exact ⟨by rw [HCC.out]; rfl, HB.out.trans (hb.mono hsz)⟩
        · have hcc := chk_next (at_ := n) hne h0 hi
          rw [hch] at hcc
          have HCC := Lib.hid hcc
          have HI := Lib.hid hi
          have hle1 : n + (dec (l.drop n)).2 ≤ l.length := by have := hle.1; simp at this; omega
          have hpos : 1 ≤ (dec (l.drop n)).2 := by omega
          clear hcc hch h0 hne hi
          generalize hg : dec (l.drop n) = d at *
          have HG := Lib.hid hg
          clear hg
          obtain ⟨r, k⟩ := d
          go_wp2_with (first | (go_at_call 46; refine HD.out.mono ?_; rintro e w' ⟨rfl, hb⟩) | (go_at_call 49; refine (isChar_any _ _).mono ?_; rintro e w2 ⟨rfl, rfl⟩; rw [HI.out]))
          go_roundw
          case rel => exact ⟨n + k, by omega, by go_num, by rw [HCC.out, List.drop_drop], HB.out.trans (hb.mono hsz)⟩
          case measure => simp [intOf]; omega
    · obtain rfl : n = l.length := by omega
      rw [List.drop_length] at hch
      have HCH := Lib.hid hch
      clear hch
      go_wp2
      go_ret2
      exact ⟨by rw [← HCH.out]; rfl, HB.out⟩
end Go.Proofs.YthilaolkkamedaaDoor
set_option linter.unusedVariables false
namespace Go.Proofs.YthilaolkkamedaaDoor
open Go.RowKit

/-- Block b is a position: the document, the offset, the first error's offset and the error. -/
def Cur (w : World) (b : Nat) (l : Bytes) (n ea er : Int) : Prop :=
  w.heap[b]? = some (.cells #[.string (S l), .int .i64 n, .int .i64 ea, .int .i64 er] 73 (0, 0))
section
variable {w w' : World} {b : Nat} {l : Bytes} {n ea er : Int}
theorem Cur.lt (h : Cur w b l n ea er) : b < w.heap.size := heap_lt h
theorem Cur.c0 (h : Cur w b l n ea er) : w.cell? ⟨b, 0, none⟩ = some (.string (S l)) := by rw [Lib.cell_of_heap h]; rfl
theorem Cur.c1 (h : Cur w b l n ea er) : w.cell? ⟨b, 1, none⟩ = some (.int .i64 n) := by rw [Lib.cell_of_heap h]; rfl
theorem Cur.c2 (h : Cur w b l n ea er) : w.cell? ⟨b, 2, none⟩ = some (.int .i64 ea) := by rw [Lib.cell_of_heap h]; rfl
theorem Cur.c3 (h : Cur w b l n ea er) : w.cell? ⟨b, 3, none⟩ = some (.int .i64 er) := by rw [Lib.cell_of_heap h]; rfl
theorem Cur.free (h : Cur w b l n ea er) (i : Nat) : w.frozen? ⟨b, i, none⟩ = false := Lib.frozen_of_heap h i
theorem Cur.below (h : Cur w b l n ea er) (hb : Below w.heap.size w w') : Cur w' b l n ea er := (hb.block b h.lt).trans h
theorem Cur.drew (h : Cur w b l n ea er) : Cur w.drew b l n ea er := h
theorem Cur.alloc (h : Cur w b l n ea er) (o : Obj) : Cur (w.alloc o) b l n ea er := h.below ((Below.refl _ _).alloc (Nat.le_refl _) o)
theorem Cur.move (h : Cur w b l n ea er) (m : Int) : Cur (w.setCell ⟨b, 1, none⟩ (.int .i64 m)) b l m ea er := by
  unfold Cur at h ⊢
  simp [World.setCell, Array.getElem?_modify, h]
theorem Cur.new (w : World) (l : Bytes) (n ea er : Int) : Cur (w.alloc (.cells #[.string (S l), .int .i64 n, .int .i64 ea, .int .i64 er] 73)) w.heap.size l n ea er := heap_alloc_new w _
end
end Go.Proofs.YthilaolkkamedaaDoor
set_option linter.unusedVariables false
namespace Go.Proofs.YthilaolkkamedaaDoor
open Go.RowKit

theorem Cur.ne_tab {w : World} {b : Nat} {l : Bytes} {n ea er : Int} (h : Cur w b l n ea er) {g i : Nat} {v : Value} (hg : w.cell? ⟨g, i, none⟩ = some v) (hi : i = 0) (hv : ∀ s, v ≠ .string s) : g ≠ b := by
  rintro rfl
  subst hi
  rw [h.c0] at hg
  cases hg
  exact hv _ rfl
theorem Tabs.upd {w w' : World} {b : Nat} {l : Bytes} {n ea er : Int} (h : Tabs w) (hc : Cur w b l n ea er) (hu : Upd b w w') : Tabs w' := by
  obtain ⟨⟨h1, h2⟩, ⟨t3, f3, h3⟩, ⟨t4, f4, h4⟩⟩ := h
  have e1 := hc.ne_tab (h1 0 (by omega)) rfl (by simp)
  have e2 := hc.ne_tab (h2 0 (by omega)).1 rfl (by simp)
  have hn : ∀ g cs t fr, w.heap[g]? = some (.cells cs t fr) → (∃ x, cs[0]? = some (.int .i32 x)) → g ≠ b := by
    rintro g cs t fr hg ⟨x, hx⟩ rfl
    have := hc.c0
    rw [Lib.cell_of_heap hg, hx] at this
    cases this
  refine ⟨⟨fun c hc' => ?_, fun i hi => ?_⟩, ⟨t3, f3, ?_⟩, ⟨t4, f4, ?_⟩⟩
  · have := h1 c hc'
    rw [← this]
    exact World.cell?_of_block (w := w) (hu.block _ (lt_of_cell this) e1)
  · have h := h2 i hi
    exact ⟨by rw [← h.1]; exact World.cell?_of_block (w := w) (hu.block _ (lt_of_cell h.1) e2), by rw [← h.2]; exact World.cell?_of_block (w := w) (hu.block _ (lt_of_cell h.2) e2)⟩
  · rw [hu.block _ (heap_lt h3) (hn _ _ _ _ h3 ⟨65, rfl⟩)]; exact h3
  · rw [hu.block _ (heap_lt h4) (hn _ _ _ _ h4 ⟨45, rfl⟩)]; exact h4

set_option maxHeartbeats 2000000 in
set_option maxRecDepth 100000 in
theorem curName_any (b : Nat) (l : Bytes) (n : Nat) (ea er : Int) (w : World) (hT : Tabs w) (hC : Cur w b l n ea er) (hn : n ≤ l.length) (hl : l.length ≤ 4611686018427387904) :
    Calls Tryd.prog 40 #[.pointer (some ⟨b, 0, none⟩)] w fun e w' =>
      e = .returned (.string (S ((l.drop n).take (nameLen (l.drop n))))) ∧ Cur w' b l (n + nameLen (l.drop n) : Nat) ea er ∧ Upd b w w' := by
  obtain ⟨N, hN⟩ : ∃ N, nameLen (l.drop n) = N := ⟨_, rfl⟩
  rw [hN]
  have HN := Lib.hid hN
  have HT := Lib.hid hT
  have HC := Lib.hid hC
  have c1 := hC.c1
  clear hN hT hC
  go_enter Tryd.func40, Tryd.ntmps40
  go_wp2
  clear c1
  go_loopg [4] (l.length - n) (fun k _ wr => ∃ m : Nat, n ≤ m ∧ m ≤ l.length ∧ k = l.length - m ∧ Cur wr b l m ea er ∧ Upd b w wr ∧ (m - n) + nmS 0 (decide (m = n)) (l.drop m) = N)
  case atStart => exact ⟨n, Nat.le_refl _, hn, rfl, HC.out, Upd.refl _ _, by rw [← HN.out]; simp [nameLen]⟩
  case round =>
    obtain ⟨m, hnm, hml, hk, hcur, hupd, hlen⟩ := hrel
    have HK := Lib.hid hk
    have HCu := Lib.hid hcur
    have HU := Lib.hid hupd
    have HL := Lib.hid hlen
    have c0 := hcur.c0
    have c1 := hcur.c1
    have f1 := hcur.free 1
    clear hk hcur hupd hlen
    have hd := fun w => fun hT => decode_any l m w hT hl
    have HD := Lib.hid hd
    clear hd
    generalize hg : decAt l m = d at *
    have HG := Lib.hid hg
    clear hg
    obtain ⟨r, k⟩ := d
    go_upto_region 2 with fail
    go_cut [4, 5] from 11 to 23 (fun s4 s5 wx => s4 = .int .i32 r ∧ s5 = .int .i64 k ∧ Below wr.heap.size wr wx)
    case first =>
      go_region_with (go_at_call 46; refine (HD.out _ (HT.out.upd HC.out (HU.out.drew))).mono ?_; rintro e w' ⟨rfl, hb⟩)
      all_goals (go_wp2_with fail; go_meet; exact ⟨rfl, rfl, below_undrew (by assumption)⟩)
    case rest =>
      obtain ⟨rfl, rfl, hb1⟩ := hcut
      have hcur1 := HCu.out.below (hb1.mono (Nat.le_refl _))
      have hupd1 := HU.out.next hb1
      have hT1 := HT.out.upd HC.out hupd1
      clear c0 c1 f1
      have c0 := hcur1.c0
      have c1 := hcur1.c1
      have f1 := hcur1.free 1
      obtain ⟨b1, hb1'⟩ : ∃ x, nameChar r = x := ⟨_, rfl⟩
      obtain ⟨b2, hb2'⟩ : ∃ x, nameStart r = x := ⟨_, rfl⟩
      have hcN : ∀ w, Tabs w → Calls Tryd.prog 47 #[.int .i32 r] w fun e w' => e = .returned (.bool b1) ∧ Below w.heap.size w w' := fun w h => hb1' ▸ nameChar_any r w h
      have hcS : ∀ w, Tabs w → Calls Tryd.prog 48 #[.int .i32 r] w fun e w' => e = .returned (.bool b2) ∧ Below w.heap.size w w' := fun w h => hb2' ▸ nameStart_any r w h
      have hq : qch (decide (m = n)) r = (decide ((r : Int) = 58) || (!decide (m = n) && b1) || b2) := by rw [← hb1', ← hb2', qch]
      have HQ := Lib.hid hq
      have HCN := Lib.hid hcN
      have HCS := Lib.hid hcS
      have HC1 := Lib.hid hcur1
      have HU1 := Lib.hid hupd1
      have HT1 := Lib.hid hT1
      clear hb1' hb2' hcN hcS hq hcur1 hupd1 hT1 hb1
      generalize hok : qch (decide (m = n)) r = ok at *
      have HOK := Lib.hid hok
      clear hok
      go_upto_region 3 with fail
      go_cut [6] from 23 to 41 (fun s6 wx => s6 = .bool ok ∧ Below wc.heap.size wc wx)
      case first =>
        by_cases t1 : (r : Int) = 58
        · have e : ok = true := by rw [HQ.out]; simp [t1]
          have t : ((r : Int) == 58) = true := by rw [beq_iff_eq]; exact t1
          subst e
          clear t1
          go_wp2_with fail
          go_meet
          exact ⟨rfl, Below.refl _ _⟩
        · have t : ((r : Int) == 58) = false := by rw [beq_eq_false_iff_ne]; exact t1
          by_cases t2 : n < m
          · have t3 : (n : Int) < m := by omega
            have e : ok = (b1 || b2) := by rw [HQ.out, show decide (m = n) = false from by simp; omega]; simp [t1]
            subst e
            clear t1
            cases b1
            · go_wp2_with (first | (go_at_call 47; refine (HCN.out _ HT1.out).mono ?_; rintro e w' ⟨rfl, hb1⟩) | (go_at_call 48; refine (HCS.out _ (HT1.out.next (by assumption))).mono ?_; rintro e w2 ⟨rfl, hb2⟩))
              go_meet
              exact ⟨by rw [Bool.false_or], hb1.trans (hb2.mono hb1.size)⟩
            · go_wp2_with (first | (go_at_call 47; refine (HCN.out _ HT1.out).mono ?_; rintro e w' ⟨rfl, hb1⟩))
              go_meet
              exact ⟨by rw [Bool.true_or], hb1⟩
          · obtain rfl : m = n := by omega
            have e : ok = b2 := by rw [HQ.out]; simp [t1]
            subst e
            clear t1
            go_wp2_with (go_at_call 48; refine (HCS.out _ HT1.out).mono ?_; rintro e w2 ⟨rfl, hb2⟩)
            go_meet
            exact ⟨rfl, hb2⟩
      case rest =>
        obtain ⟨rfl, hb3⟩ := hcut
        have hcur2 := HC1.out.below hb3
        have hupd2 := HU1.out.next hb3
        have hT2 := HT.out.upd HC.out hupd2
        clear c0 c1 f1
        have c0 := hcur2.c0
        have c1 := hcur2.c1
        have f1 := hcur2.free 1
        have HC2 := Lib.hid hcur2
        have HU2 := Lib.hid hupd2
        clear hcur2 hupd2 hT2 hb3
        have hi0 : (0 : Int) ≤ n := by omega
        have hi1 : (n : Int) ≤ m := by omega
        have hi2 : (m : Int) ≤ l.length := by omega
        by_cases hstop : k = 0 ∨ ok = false
        · have h0 : nmS 0 (decide (m = n)) (l.drop m) = 0 := by
            by_cases hm : m < l.length
            · have hd := HG.out
              rw [decAt_nat hm] at hd
              refine nm_stop ?_
              rw [hd]
              rcases hstop with h | h
              · exact .inl h
              · exact .inr (by rw [HOK.out]; exact h)
            · rw [List.drop_eq_nil_of_le (by omega)]; rfl
          have hN : N = m - n := by rw [← HL.out, h0]; rfl
          have HNN := Lib.hid hN
          clear hN h0
          have t : ((k : Int) == 0) = true ∨ (((k : Int) == 0) = false ∧ ok = false) := by
            by_cases hk : k = 0
            · exact .inl (by rw [hk]; rfl)
            · exact .inr ⟨by rw [beq_eq_false_iff_ne]; omega, hstop.resolve_left hk⟩
          clear hstop
          rcases t with t | ⟨t, rfl⟩
          all_goals
            go_wp2_with fail
            go_quiet (fail)
            go_wp2
            go_ret
            refine ⟨by rw [HNN.out]; rfl, ?_, ?_⟩
            · rw [HNN.out, show n + (m - n) = m from by omega]; exact HC2.out
            · exact HU2.out.trans (.of_below ⟨rfl, rfl, rfl, Nat.le_refl _, fun _ _ => rfl⟩)
        · have hok : ok = true := by cases ok <;> simp_all
          have hk0 : k ≠ 0 := fun e => hstop (.inl e)
          subst hok
          have hm : m < l.length := by
            by_cases hm : m < l.length
            · exact hm
            · exfalso
              have := HG.out
              unfold decAt at this
              rw [if_neg (by omega)] at this
              cases this
              exact hk0 rfl
          have hd := HG.out
          rw [decAt_nat hm] at hd
          have hnx := nm_next (l := l.drop m) (f := decide (m = n)) (by rw [hd]; exact hk0) (by rw [hd]; exact HOK.out)
          rw [hd] at hnx
          dsimp only at hnx
          have hlek := (dec_le (l.drop m)).1
          rw [hd] at hlek
          dsimp only at hlek
          simp only [List.length_drop] at hlek
          have hfin : m + k - n + nmS 0 (decide (m + k = n)) (l.drop (m + k)) = N := by
            rw [show decide (m + k = n) = false from by simp; omega, ← HL.out, hnx, List.drop_drop]
            omega
          have HF := Lib.hid hfin
          have t : ((k : Int) == 0) = false := by rw [beq_eq_false_iff_ne]; omega
          have hmk : (m : Int) + k ≤ l.length := by omega
          clear hstop hd hnx hfin
          go_wp2
          go_roundg (l.length - (m + k))
          case measure => have := HK.out; omega
          case rel =>
            refine ⟨m + k, by omega, by omega, rfl, ?_, ?_, HF.out⟩
            · have := HC2.out.move ((m + k : Nat) : Int)
              simpa using this
            · exact HU2.out.trans (Upd.set_ _ _ _ _)
end Go.Proofs.YthilaolkkamedaaDoor
set_option linter.unusedVariables false
namespace Go.Proofs.YthilaolkkamedaaDoor
open Go.RowKit

set_option maxHeartbeats 1000000 in
theorem refCheck_any (l : Bytes) (w : World) (hl : l.length ≤ 4611686018427387904) :
    Calls Tryd.prog 42 #[.string (S l)] w fun e w' => e = .returned (.tuple #[.int .i64 (check l).1, .int .i64 (check l).2]) ∧ Below w.heap.size w w' := by
  obtain ⟨c, hc⟩ : ∃ c, check l = c := ⟨_, rfl⟩
  rw [hc]
  have HC := Lib.hid hc
  clear hc
  go_enter Tryd.func42, Tryd.ntmps42
  go_wp2
  go_loopw [4] (fun a4 wr => ∃ n : Nat, n ≤ l.length ∧ a4 = .int .i64 n ∧ chkS 0 (l.drop n) n = c ∧ Below w.heap.size w wr) (fun a4 _ => l.length - (intOf a4).toNat)
  case atStart => exact ⟨0, by omega, rfl, HC.out, Below.refl _ _⟩
  case round =>
    obtain ⟨n, hn, rfl, hch, hb⟩ := hrel
    have HB := Lib.hid hb
    have hsz := hb.size
    clear hb
    by_cases hlt : n < l.length
    · have hle := dec_le (l.drop n)
      have hne := drop_ne hlt
      have hd := refDecode_in l n wr hl hlt
      have HD := Lib.hid hd
      clear hd
      by_cases h0 : (dec (l.drop n)).2 = 0
      · have hcc := chk_bad (at_ := n) hne h0
        rw [hch] at hcc
        have t0 : (((dec (l.drop n)).2 : Int) == 0) = true := by rw [h0]; rfl
        have HCC := Lib.hid hcc
        clear hcc hch h0 hne
        generalize dec (l.drop n) = d at *
        obtain ⟨r, k⟩ := d
        go_wp2_with (go_at_call 43; refine HD.out.mono ?_; rintro e w' ⟨rfl, hb⟩)
        go_ret2
        exact ⟨by rw [HCC.out]; rfl, HB.out.trans (hb.mono hsz)⟩
      · have t0 : (((dec (l.drop n)).2 : Int) == 0) = false := by rw [beq_eq_false_iff_ne]; omega
        cases hi : isChar (dec (l.drop n)).1
        · have hcc := chk_char (at_ := n) hne h0 hi
          rw [hch] at hcc
          have HCC := Lib.hid hcc
          have HI := Lib.hid hi
          clear hcc hch h0 hne hi
          generalize dec (l.drop n) = d at *
          obtain ⟨r, k⟩ := d
          go_wp2_with (first | (go_at_call 43; refine HD.out.mono ?_; rintro e w' ⟨rfl, hb⟩) | (go_at_call 50; refine (refIsChar_any _ _).mono ?_; rintro e w2 ⟨rfl, rfl⟩; rw [HI.out]))
          go_ret2
          exact ⟨by rw [HCC.out]; rfl, HB.out.trans (hb.mono hsz)⟩
        · have hcc := chk_next (at_ := n) hne h0 hi
          rw [hch] at hcc
          have HCC := Lib.hid hcc
          have HI := Lib.hid hi
          have hle1 : n + (dec (l.drop n)).2 ≤ l.length := by have := hle.1; simp at this; omega
          have hpos : 1 ≤ (dec (l.drop n)).2 := by omega
          clear hcc hch h0 hne hi
          generalize hg : dec (l.drop n) = d at *
          have HG := Lib.hid hg
          clear hg
          obtain ⟨r, k⟩ := d
          go_wp2_with (first | (go_at_call 43; refine HD.out.mono ?_; rintro e w' ⟨rfl, hb⟩) | (go_at_call 50; refine (refIsChar_any _ _).mono ?_; rintro e w2 ⟨rfl, rfl⟩; rw [HI.out]))
          go_roundw
          case rel => exact ⟨n + k, by omega, by go_num, by rw [HCC.out, List.drop_drop], HB.out.trans (hb.mono hsz)⟩
          case measure => simp [intOf]; omega
    · obtain rfl : n = l.length := by omega
      rw [List.drop_length] at hch
      have HCH := Lib.hid hch
      clear hch
      go_wp2
      go_ret2
      exact ⟨by rw [← HCH.out]; rfl, HB.out⟩

theorem take_beq {l : Bytes} {k : Nat} (h : k ≤ l.length) : (l.take k == l) = (k == l.length) := by
  rw [Bool.eq_iff_iff, beq_iff_eq, beq_iff_eq]
  constructor
  · intro e; have := congrArg List.length e; rw [List.length_take] at this; omega
  · intro e; rw [e, List.take_length]

set_option maxHeartbeats 1000000 in
theorem isQName_any (l : Bytes) (w : World) (hT : Tabs w) (hl : l.length ≤ 4611686018427387904) :
    Calls Tryd.prog 34 #[.string (S l)] w fun e w' => e = .returned (.bool (isQName l)) ∧ Below w.heap.size w w' := by
  cases l with
  | nil =>
    go_enter Tryd.func34, Tryd.ntmps34
    go_wp2_with fail
    go_ret
    exact ⟨rfl, (Below.refl _ _).alloc (Nat.le_refl _) _⟩
  | cons a t =>
    have hq : isQName (a :: t) = ((a :: t).take (nameLen (a :: t)) == a :: t) := by
      rw [take_beq (nameLen_le _)]; simp [isQName]
    rw [hq]
    have hT1 : Tabs (w.alloc (.cells #[.string (S (a :: t)), .int .i64 0, .int .i64 0, .int .i64 0] 73)) := hT.next ((Below.refl _ _).alloc (Nat.le_refl _) _)
    have hc := curName_any w.heap.size (a :: t) 0 0 0 _ hT1 (Cur.new w (a :: t) 0 0 0) (by omega) hl
    simp only [List.drop_zero] at hc
    have HC := Lib.hid hc
    clear hq hT hT1 hc
    generalize List.take (nameLen (a :: t)) (a :: t) = T at *
    go_enter Tryd.func34, Tryd.ntmps34
    go_wp2_with (go_at_call 40; refine HC.out.mono ?_; rintro e w' ⟨rfl, hcur, hu⟩)
    go_ret
    exact ⟨rfl, (Below.alloc (Below.refl _ _) (Nat.le_refl _) _).trans (hu.below (Nat.le_refl _) (by simp))⟩

set_option maxHeartbeats 2000000 in
theorem refIsQName_any (l : Bytes) (w : World) (hl : l.length ≤ 4611686018427387904) :
    Calls Tryd.prog 38 #[.string (S l)] w fun e w' => e = .returned (.bool (isQName l)) ∧ Below w.heap.size w w' := by
  obtain ⟨Z, hZ⟩ : ∃ Z, isQName l = Z := ⟨_, rfl⟩
  rw [hZ]
  have HZ := Lib.hid hZ
  clear hZ
  go_enter Tryd.func38, Tryd.ntmps38
  go_wp2
  go_loopw [3] (fun a3 wr => ∃ n : Nat, n ≤ l.length ∧ a3 = .int .i64 n ∧ n + nmS 0 (decide (n = 0)) (l.drop n) = nameLen l ∧ Below w.heap.size w wr) (fun a3 _ => l.length - (intOf a3).toNat)
  case atStart => exact ⟨0, by omega, rfl, by simp [nameLen], Below.refl _ _⟩
  case round =>
    obtain ⟨n, hn, rfl, hlen, hb⟩ := hrel
    have HB := Lib.hid hb
    have HL := Lib.hid hlen
    have hsz := hb.size
    clear hb hlen
    by_cases hlt : n < l.length
    · have hle := dec_le (l.drop n)
      have hne := drop_ne hlt
      have hd := refDecode_in l n wr hl hlt
      have HD := Lib.hid hd
      clear hd
      generalize hg : dec (l.drop n) = d at *
      have HG := Lib.hid hg
      clear hg
      obtain ⟨r, k⟩ := d
      dsimp only at hle
      have hle1 : n + k ≤ l.length := by have := hle.1; simp at this; omega
      clear hle hne
      obtain ⟨b1, hb1'⟩ : ∃ x, nameChar r = x := ⟨_, rfl⟩
      obtain ⟨b2, hb2'⟩ : ∃ x, nameStart r = x := ⟨_, rfl⟩
      have hcN : ∀ w, Calls Tryd.prog 44 #[.int .i64 r] w fun e w' => e = .returned (.bool b1) ∧ w = w' := fun w => hb1' ▸ refNameChar_any r w
      have hcS : ∀ w, Calls Tryd.prog 45 #[.int .i64 r] w fun e w' => e = .returned (.bool b2) ∧ w = w' := fun w => hb2' ▸ refNameStart_any r w
      have hq : qch (decide (n = 0)) r = ((decide ((r : Int) = 58) || b1) && (!decide (n = 0) || decide ((r : Int) = 58) || b2)) := by rw [qch_ref, hb1', hb2']
      have HQ := Lib.hid hq
      have HCN := Lib.hid hcN
      have HCS := Lib.hid hcS
      clear hb1' hb2' hcN hcS hq
      have hstop : (k = 0 ∨ qch (decide (n = 0)) r = false) → Z = false := by
        intro h
        have h0 : nmS 0 (decide (n = 0)) (l.drop n) = 0 := nm_stop (by rw [HG.out]; exact h)
        have := HL.out
        rw [h0] at this
        rw [← HZ.out, isQName]
        simp; intro _; omega
      have hgo : k ≠ 0 → qch (decide (n = 0)) r = true → n + k + nmS 0 (decide (n + k = 0)) (l.drop (n + k)) = nameLen l := by
        intro hk hc
        have hnx := nm_next (l := l.drop n) (f := decide (n = 0)) (by rw [HG.out]; exact hk) (by rw [HG.out]; exact hc)
        rw [HG.out] at hnx
        dsimp only at hnx
        rw [← HL.out, hnx, List.drop_drop, show decide (n + k = 0) = false from by simp; omega]
        omega
      have HST := Lib.hid hstop
      have HGO := Lib.hid hgo
      clear hstop hgo
      by_cases hk : k = 0
      · have hz := HST.out (.inl hk)
        have t0 : ((k : Int) == 0) = true := by rw [hk]; rfl
        have HZZ := Lib.hid hz
        clear hz hk
        go_wp2_with (go_at_call 43; refine HD.out.mono ?_; rintro e w' ⟨rfl, hb⟩)
        go_ret
        exact ⟨ret_bool HZZ.out.symm, HB.out.trans (hb.mono hsz)⟩
      · have t0 : ((k : Int) == 0) = false := by rw [beq_eq_false_iff_ne]; omega
        by_cases hr : (r : Int) = 58
        · have hfin := HGO.out hk (by rw [HQ.out]; simp [hr])
          have t1 : ((r : Int) != 58) = false := by rw [hr]; rfl
          have HF := Lib.hid hfin
          have tn : ((n : Int) == 0) = true ∨ ((n : Int) == 0) = false := by cases ((n : Int) == 0) <;> simp
          clear hfin hr
          rcases tn with tn | tn
          all_goals
            go_wp2_with (go_at_call 43; refine HD.out.mono ?_; rintro e w' ⟨rfl, hb⟩)
            go_roundw
            case rel => exact ⟨n + k, by omega, by go_num, HF.out, HB.out.trans (hb.mono hsz)⟩
            case measure => simp [intOf]; omega
        · have t1 : ((r : Int) != 58) = true := by rw [bne_iff_ne]; exact hr
          cases b1
          · have hz := HST.out (.inr (by rw [HQ.out]; simp [hr]))
            have HZZ := Lib.hid hz
            clear hz hr
            go_wp2_with (first | (go_at_call 43; refine HD.out.mono ?_; rintro e w' ⟨rfl, hb⟩) | (go_at_call 44; refine (HCN.out _).mono ?_; rintro e w2 ⟨rfl, rfl⟩))
            go_ret
            exact ⟨ret_bool HZZ.out.symm, HB.out.trans (hb.mono hsz)⟩
          · by_cases hn0 : n = 0
            · have tn : ((n : Int) == 0) = true := by rw [hn0]; rfl
              have hq2 : qch (decide (n = 0)) r = b2 := by rw [HQ.out, hn0]; simp [hr]
              have HQ2 := Lib.hid hq2
              clear hn0 hq2
              cases b2
              · have hz := HST.out (.inr HQ2.out)
                have HZZ := Lib.hid hz
                clear hz hr
                go_wp2_with (first | (go_at_call 43; refine HD.out.mono ?_; rintro e w' ⟨rfl, hb⟩) | (go_at_call 44; refine (HCN.out _).mono ?_; rintro e w2 ⟨rfl, rfl⟩) | (go_at_call 45; refine (HCS.out _).mono ?_; rintro e w2 ⟨rfl, rfl⟩))
                go_ret
                exact ⟨ret_bool HZZ.out.symm, HB.out.trans (hb.mono hsz)⟩
              · have hfin := HGO.out hk HQ2.out
                have HF := Lib.hid hfin
                clear hfin hr
                go_wp2_with (first | (go_at_call 43; refine HD.out.mono ?_; rintro e w' ⟨rfl, hb⟩) | (go_at_call 44; refine (HCN.out _).mono ?_; rintro e w2 ⟨rfl, rfl⟩) | (go_at_call 45; refine (HCS.out _).mono ?_; rintro e w2 ⟨rfl, rfl⟩))
                go_roundw
                case rel => exact ⟨n + k, by omega, by go_num, HF.out, HB.out.trans (hb.mono hsz)⟩
                case measure => simp [intOf]; omega
            · have tn : ((n : Int) == 0) = false := by rw [beq_eq_false_iff_ne]; omega
              have hfin := HGO.out hk (by rw [HQ.out]; simp [hn0])
              have HF := Lib.hid hfin
              clear hfin hr hn0
              go_wp2_with (first | (go_at_call 43; refine HD.out.mono ?_; rintro e w' ⟨rfl, hb⟩) | (go_at_call 44; refine (HCN.out _).mono ?_; rintro e w2 ⟨rfl, rfl⟩))
              go_roundw
              case rel => exact ⟨n + k, by omega, by go_num, HF.out, HB.out.trans (hb.mono hsz)⟩
              case measure => simp [intOf]; omega
    · obtain rfl : n = l.length := by omega
      have hfin : Z = decide (0 < l.length) := by
        have := HL.out
        rw [List.drop_length, nm_nil] at this
        rw [← HZ.out, isQName, ← this]
        cases l <;> simp
      have HF := Lib.hid hfin
      clear hfin
      go_wp2
      go_ret
      exact ⟨ret_bool (by rw [HF.out]), HB.out⟩
end Go.Proofs.YthilaolkkamedaaDoor
set_option linter.unusedVariables false
namespace Go.Proofs.YthilaolkkamedaaDoor
open Go.RowKit

set_option maxHeartbeats 1000000 in
theorem chars_any (l : Bytes) (w : World) (hT : Tabs w) (hl : l.length ≤ 4611686018427387904) :
    Calls Tryd.prog 36 #[.string (S l)] w fun e w' => e = .returned (.bool (charsOk l)) ∧ Below w.heap.size w w' := by
  have hc := check_any l w hT hl
  have he : charsOk l = ((((check l).2 : Nat) : Int) == 0) := by unfold charsOk; rw [Bool.eq_iff_iff]; simp
  rw [he]
  generalize check l = c at *
  obtain ⟨c1, c2⟩ := c
  have HC := Lib.hid hc
  clear hc he hT
  go_enter Tryd.func36, Tryd.ntmps36
  go_wp2_with (go_at_call 41; refine HC.out.mono ?_; rintro e w' ⟨rfl, hb⟩)
  go_ret
  exact ⟨rfl, hb⟩

theorem zeroBool (w : World) : (zeroValue 4).run Tryd.prog w = .ok (.bool false) w := by kernel_rfl
/-- The set of the names seen so far. -/
def seenOf (l : List Bytes) : List (Bytes × Value) := l.map fun k => (k, .bool true)
theorem look_seen (k : Bytes) (l : List Bytes) : (look k (seenOf l)).getD (.bool false) = .bool (l.contains k) := by
  induction l with
  | nil => rfl
  | cons x l ih =>
    rw [seenOf, List.map_cons, look]
    by_cases h : k = x
    · subst h; simp
    · have : (k == x) = false := by simp [h]
      rw [this]
      simp only [Bool.false_eq_true, if_false]
      rw [show (look k (l.map fun k => (k, Value.bool true))) = look k (seenOf l) from rfl, ih]
      congr 1
      rw [Bool.eq_iff_iff]
      simp [h]
theorem putM_seen (k : Bytes) (l : List Bytes) (h : l.contains k = false) : putM k (.bool true) (seenOf l) = seenOf (l ++ [k]) := by
  rw [putM_push]
  · simp [seenOf]
  · have := look_seen k l
    rw [h] at this
    cases hl : look k (seenOf l) with
    | none => rfl
    | some v =>
      exfalso
      rw [hl] at this
      simp only [Option.getD_some] at this
      subst this
      have hn : ∀ (l : List Bytes) (v : Value), look k (seenOf l) = some v → v = .bool true := by
        intro l
        induction l with
        | nil => intro v h; cases h
        | cons x l ih =>
          intro v h
          rw [seenOf, List.map_cons, look] at h
          split at h
          · cases h; rfl
          · exact ih v h
      have := hn l _ hl
      cases this

set_option maxHeartbeats 2000000 in
set_option maxRecDepth 100000 in
theorem attrs_any (l : List Att) (v : Value) (w : World) (hT : Tabs w) (hv : AttsIn w w.heap.size v l) (hl : l.length ≤ 4611686018427387904) (hp : ∀ a ∈ l, a.name.length ≤ 4611686018427387904 ∧ a.value.length ≤ 4611686018427387904) :
    Calls Tryd.prog 35 #[v] w fun e w' => e = .returned (.bool (attsOk l)) ∧ Below w.heap.size w w' := by
  obtain ⟨A, cap, rfl, hcap⟩ := hv.slice
  generalize hE : attsOk l = E at *
  have HE := Lib.hid hE
  have HV := Lib.hid hv
  have HT := Lib.hid hT
  have HP := Lib.hid hp
  have hmm := @run_makeMap Tryd.prog
  have hm0 := MapOf.new w
  have HM0 := Lib.hid hm0
  clear hE hv hT hp hm0
  go_enter Tryd.func35, Tryd.ntmps35
  go_wp2_with fail
  clear hmm
  go_loopw [9] (fun i9 wr => ∃ (i : Nat) (seen : List Bytes), i ≤ l.length ∧ i9 = .int .i64 i ∧ MapOf wr w.heap.size (seenOf seen) ∧ attsOkS seen (l.drop i) = E ∧ Below w.heap.size w wr ∧ w.heap.size < wr.heap.size) (fun i9 _ => l.length - (intOf i9).toNat)
  case atStart => exact ⟨0, [], Nat.zero_le _, rfl, HM0.out, HE.out, (Below.refl _ _).alloc (Nat.le_refl _) _, by simp⟩
  case round =>
    obtain ⟨i, seen, hi, rfl, hmap, hrem, hb, hsz⟩ := hrel
    have HM := Lib.hid hmap
    have HR := Lib.hid hrem
    have HB := Lib.hid hb
    clear hmap hrem hb
    by_cases hlt : i < l.length
    · obtain ⟨b, off, rfl, hbl, hr⟩ := HV.out.at_ hlt
      have hr' : wr.rangeAt b (off + i * 4) (attCells l[i]) := rangeAt_keep hr (HB.out.block b hbl)
      have hstep := attsOkS_step (seen := seen) hlt
      rw [HR.out] at hstep
      have hpa := HP.out l[i] (List.getElem_mem hlt)
      generalize l[i] = a at *
      have HRR := Lib.hid hr'
      have HS := Lib.hid hstep
      clear hr hr' hstep
      have hlook : ∀ o, (Instr.lookup 74 (.map (some w.heap.size)) (.string (S a.name)) false).run Tryd.prog (wr.alloc o) = .ok (.bool (seen.contains a.name)) (wr.alloc o) := fun o => by
        rw [MapOf.run_lookup (HM.out.keep (Below.heap_alloc wr o _ hsz)) Tryd.underlying74 Tryd.underlying9 (zeroBool _) a.name, look_seen]
      have hq := fun W => fun hW : Below w.heap.size w W => isQName_any a.name W (HT.out.next hW) hpa.1
      have hc := fun W => fun hW : Below w.heap.size w W => chars_any a.value W (HT.out.next hW) hpa.2
      have h01 : w.heap.size ≤ wr.heap.size := by omega
      have F1 : Hid (∀ o, Below w.heap.size w (wr.alloc o)) := fun o => HB.out.alloc h01 _
      clear hpa
      by_cases h1 : a.space = []
      · cases h2 : seen.contains a.name
        · rw [h1, h2] at HS
          rw [h2] at hlook
          have HSE := Lib.hid (putM_seen a.name seen h2)
          cases h3 : isQName a.name
          · rw [h3] at hq HS
            have HQ := Lib.hid hq
            have hfin : E = false := by rw [HS.out]; simp
            have HF := Lib.hid hfin
            clear hq hfin h3 h2
            go_wp2_with (first
              | (refine wp_load_att rfl _ rfl b (off + i * 4) rfl a HRR.out ?_)
              | (go_at_call 34; refine (HQ.out _ (F1.out _)).mono ?_; rintro e w1 ⟨rfl, hb1⟩; have k1 := hb1.cell (p := ⟨wr.heap.size, 1, none⟩) (by simp); have k2 := hb1.cell (p := ⟨wr.heap.size, 2, none⟩) (by simp); have k3 : wr.heap.size + 1 ≤ w1.heap.size := by simpa using hb1.size))
            go_ret
            exact ⟨ret_bool HF.out.symm, (F1.out _).trans (hb1.mono (by simp; omega))⟩
          · rw [h3] at hq HS
            have HQ := Lib.hid hq
            cases h4 : charsOk a.value
            · rw [h4] at hc HS
              have HC := Lib.hid hc
              have hfin : E = false := by rw [HS.out]; simp
              have HF := Lib.hid hfin
              clear hq hc hfin h3 h4 h2
              go_wp2_with (first
                | (refine wp_load_att rfl _ rfl b (off + i * 4) rfl a HRR.out ?_)
                | (go_at_call 34; refine (HQ.out _ (F1.out _)).mono ?_; rintro e w1 ⟨rfl, hb1⟩; have k1 := hb1.cell (p := ⟨wr.heap.size, 1, none⟩) (by simp); have k2 := hb1.cell (p := ⟨wr.heap.size, 2, none⟩) (by simp); have k3 : wr.heap.size + 1 ≤ w1.heap.size := by simpa using hb1.size)
                | (go_at_call 36; refine (HC.out _ ((F1.out _).trans (hb1.mono (by simp; omega)))).mono ?_; rintro e w2 ⟨rfl, hb2⟩; have k4 := hb2.cell (p := ⟨wr.heap.size, 1, none⟩) (show wr.heap.size < w1.heap.size from k3); have k5 : w1.heap.size ≤ w2.heap.size := hb2.size; have HM2 := Lib.hid (((HM.out.keep (w' := wr.alloc _) (Below.heap_alloc wr _ _ hsz)).below hb1).below hb2); clear hlook))
              go_ret
              exact ⟨ret_bool HF.out.symm, ((F1.out _).trans (hb1.mono (by simp; omega))).trans (hb2.mono (by omega))⟩
            · rw [h4] at hc HS
              have HC := Lib.hid hc
              have hfin : attsOkS (a.name :: seen) (l.drop (i + 1)) = E := by rw [HS.out]; simp
              have HF := Lib.hid hfin
              clear hq hc hfin h3 h4 h2
              go_wp2_with (first
                | (refine wp_load_att rfl _ rfl b (off + i * 4) rfl a HRR.out ?_)
                | (go_at_call 34; refine (HQ.out _ (F1.out _)).mono ?_; rintro e w1 ⟨rfl, hb1⟩; have k1 := hb1.cell (p := ⟨wr.heap.size, 1, none⟩) (by simp); have k2 := hb1.cell (p := ⟨wr.heap.size, 2, none⟩) (by simp); have k3 : wr.heap.size + 1 ≤ w1.heap.size := by simpa using hb1.size)
                | (go_at_call 36; refine (HC.out _ ((F1.out _).trans (hb1.mono (by simp; omega)))).mono ?_; rintro e w2 ⟨rfl, hb2⟩; have k4 := hb2.cell (p := ⟨wr.heap.size, 1, none⟩) (show wr.heap.size < w1.heap.size from k3); have k5 : w1.heap.size ≤ w2.heap.size := hb2.size; have HM2 := Lib.hid (((HM.out.keep (w' := wr.alloc _) (Below.heap_alloc wr _ _ hsz)).below hb1).below hb2); clear hlook)
                | (at_mapUpdate; refine wpList_map_put rfl _ _ _ 74 rfl Tryd.underlying74 Tryd.underlying9 w.heap.size (seenOf seen) HM2.out rfl a.name rfl (.bool true) rfl ?_; intro w3 hm3 hu3 hs3))
              have HB3 := Lib.hid ((((F1.out _).trans (hb1.mono (by simp; omega))).trans (hb2.mono (by omega))).trans (hu3.below (Nat.le_refl _) (by omega)))
              go_roundw
              case rel =>
                refine ⟨i + 1, seen ++ [a.name], by omega, by go_num, by rw [← HSE.out]; exact hm3, ?_, HB3.out, by omega⟩
                rw [← HF.out]
                exact attsOkS_perm _ _ _ (fun x => by simp [or_comm])
              case measure => simp [intOf]; omega
        · have hfin : E = false := by rw [HS.out, h2]; simp
          rw [h2] at hlook
          have HF := Lib.hid hfin
          clear hfin h2 hq hc
          go_wp2_with (refine wp_load_att rfl _ rfl b (off + i * 4) rfl a HRR.out ?_)
          go_ret
          exact ⟨ret_bool HF.out.symm, F1.out _⟩
      · have hfin : E = false := by rw [HS.out]; simp [h1]
        have HF := Lib.hid hfin
        clear hfin hq hc hlook
        go_wp2_with (refine wp_load_att rfl _ rfl b (off + i * 4) rfl a HRR.out ?_)
        go_ret
        exact ⟨ret_bool HF.out.symm, F1.out _⟩
    · obtain rfl : i = l.length := by omega
      have hfin := HR.out
      rw [List.drop_length, attsOkS] at hfin
      have HF := Lib.hid hfin
      clear hfin
      go_wp2_with fail
      go_ret
      exact ⟨ret_bool HF.out, HB.out⟩
end Go.Proofs.YthilaolkkamedaaDoor
set_option linter.unusedVariables false
namespace Go.Proofs.YthilaolkkamedaaDoor
open Go.RowKit

theorem headOk_mk (k : Int) (s nm : Bytes) (ats : List Att) (ks : List Node) (t : Bytes) (p : Int) : headOk (.mk k s nm ats ks t p) = (k == 0 && s == [] && t == [] && isQName nm && attsOk ats) := rfl
theorem dataOk_mk (k : Int) (s nm : Bytes) (ats : List Att) (ks : List Node) (t : Bytes) (p : Int) : dataOk (.mk k s nm ats ks t p) = (t != [] && charsOk t && s == [] && nm == [] && ats.length == 0 && ks.length == 0) := rfl

set_option maxHeartbeats 4000000 in
set_option maxRecDepth 100000 in
theorem valid_any (m : Nat) : ∀ (n : Node) (v : Value) (d : Nat) (w : World), nsz n ≤ m → full n ≤ 1000000 → d ≤ 1000 → Tabs w → NodeV w w.heap.size n v →
    Calls Tryd.prog 27 #[v, .int .i64 d] w fun e w' => e = .returned (.bool (vld true n d)) ∧ Below w.heap.size w w' := by
  induction m with
  | zero => intro n v d w h; cases n; rw [nsz] at h; omega
  | succ m ih =>
    intro n v d w hm hs hd hT hv
    obtain ⟨A, cap, K, kcap, rfl, ha, hk, hcap, hkcap⟩ := hv.open_
    have hp := parts n hs
    have hge := fun (i : Nat) (h : i < n.kids.length) => nsz_get n h
    obtain ⟨k, s, nm, ats, ks, t, p⟩ := n
    generalize hE : vld true (.mk k s nm ats ks t p) d = E at *
    rw [vld, headOk_mk] at hE
    simp only [Node.kind, Node.space, Node.name, Node.attrs, Node.kids, Node.text, Node.pos] at *
    have hq := fun W => fun hW : Below w.heap.size w W => isQName_any nm W (hT.next hW) (by have := hp.name; simp only [Node.name] at this; omega)
    have hat := fun W => fun hW : Below w.heap.size w W => attrs_any ats _ W (hT.next hW) (ha.keep hW.block hW.size) (by have := hp.attrs; simp only [Node.attrs] at this; omega) (fun a h => by have := hp.att a h; omega)
    have F1 : Hid (∀ o, Below w.heap.size w (w.alloc o)) := fun o => (Below.refl _ _).alloc (Nat.le_refl _) o
    have HIH := Lib.hid ih
    have hkl : ks.length < 1000000 := hp.kids
    have HK := Lib.hid hk
    have HM := Lib.hid hm
    have HP := Lib.hid hp
    have HGE := Lib.hid hge
    have HT := Lib.hid hT
    have HS := Lib.hid hs
    have HE := Lib.hid hE
    clear ih ha hk hm hp hge hT hs hE hv
    -- the element itself
    by_cases h1 : k = 0
    · subst h1
      by_cases h2 : d ≤ 100
      · have h2' : (d : Int) ≤ 100 := by omega
        by_cases h3 : s = []
        · subst h3
          by_cases h4 : t = []
          · subst h4
            cases h5 : isQName nm
            · rw [h5] at hq HE
              have HQ := Lib.hid hq
              clear hq hat h5
              have hF : E = false := by rw [← HE.out]; simp
              have HF := Lib.hid hF
              clear hF
              go_enter Tryd.func27, Tryd.ntmps27
              go_wp2_with (go_at_call 34; refine (HQ.out _ (F1.out _)).mono ?_; rintro e w1 ⟨rfl, hb1⟩)
              go_ret
              exact ⟨ret_bool HF.out.symm, (F1.out _).trans (hb1.mono (by simp))⟩
            · rw [h5] at hq HE
              have HQ := Lib.hid hq
              clear hq h5
              cases h6 : attsOk ats
              · rw [h6] at hat HE
                have HA := Lib.hid hat
                clear hat h6
                have hF : E = false := by rw [← HE.out]; simp
                have HF := Lib.hid hF
                clear hF
                go_enter Tryd.func27, Tryd.ntmps27
                go_wp2_with (first
                  | (go_at_call 34; refine (HQ.out _ (F1.out _)).mono ?_; rintro e w1 ⟨rfl, hb1⟩; have c3 := hb1.cell (p := ⟨w.heap.size, 3, none⟩) (by simp); have z1 : w.heap.size + 1 ≤ w1.heap.size := by simpa using hb1.size)
                  | (go_at_call 35; refine (HA.out _ ((F1.out _).trans (hb1.mono (by simp)))).mono ?_; rintro e w2 ⟨rfl, hb2⟩))
                go_ret
                exact ⟨ret_bool HF.out.symm, ((F1.out _).trans (hb1.mono (by simp))).trans (hb2.mono (by have := hb1.size; simp at this; omega))⟩
              · rw [h6] at hat HE
                have HA := Lib.hid hat
                clear hat h6
                have hF : vldL true ks d false = E := by rw [← HE.out]; simp [show ¬ 100 < d from by omega]
                have HF := Lib.hid hF
                clear hF HE
                go_enter Tryd.func27, Tryd.ntmps27
                go_wp2_with (first
                  | (go_at_call 34; refine (HQ.out _ (F1.out _)).mono ?_; rintro e w1 ⟨rfl, hb1⟩; have c3 := hb1.cell (p := ⟨w.heap.size, 3, none⟩) (by simp); have z1 : w.heap.size + 1 ≤ w1.heap.size := by simpa using hb1.size)
                  | (go_at_call 35; refine (HA.out _ ((F1.out _).trans (hb1.mono (by simp)))).mono ?_; rintro e w2 ⟨rfl, hb2⟩; have c4 := (hb2.cell (p := ⟨w.heap.size, 4, none⟩) (show w.heap.size < w1.heap.size from z1)).trans (hb1.cell (p := ⟨w.heap.size, 4, none⟩) (by simp)); have z2 : w1.heap.size ≤ w2.heap.size := hb2.size))
                have hbw : Below w.heap.size w w2 := ((F1.out _).trans (hb1.mono (by simp))).trans (hb2.mono (by omega))
                have HBW := Lib.hid hbw
                clear hbw hb1 hb2 c3 c4
                go_loopw [5, 40] (fun s5 i40 wr => ∃ (i : Nat) (data : Bool), i ≤ ks.length ∧ i40 = .int .i64 i ∧ s5 = .bool data ∧ vldL true (ks.drop i) d data = E ∧ Below w.heap.size w wr) (fun _ i40 _ => ks.length - (intOf i40).toNat)
                case atStart => exact ⟨0, false, Nat.zero_le _, rfl, rfl, HF.out, HBW.out⟩
                case round =>
                  obtain ⟨i, data, hi, rfl, rfl, hrem, hb⟩ := hrel
                  have HB := Lib.hid hb
                  have HR := Lib.hid hrem
                  have hsz := hb.size
                  clear hb hrem
                  by_cases hlt : i < ks.length
                  · have hstep := vldL_step (lim := true) (d := d) (data := data) hlt
                    rw [HR.out] at hstep
                    obtain ⟨b, off, cs, rfl, hbl, hr, hcs⟩ := HK.out.at_ hlt
                    have hr' : wr.rangeAt b (off + i * 7) cs := rangeAt_keep hr (HB.out.block b hbl)
                    have hnv : NodeV w w.heap.size ks[i] (.agg cs.toArray) := ⟨cs, rfl, hcs⟩
                    have hfk : full ks[i] ≤ 1000000 := by have := HP.out.kid ks[i] (List.getElem_mem hlt); omega
                    have hsn : nsz ks[i] ≤ m := by have := HGE.out i hlt; have := HM.out; omega
                    have hcall := fun W => fun hW : Below w.heap.size w W => HIH.out ks[i] _ (d + 1) W hsn hfk (by omega) (HT.out.next hW) (hnv.keep hW.block hW.size)
                    have hpk := parts ks[i] hfk
                    obtain ⟨A', c', K', d', rfl, _, _, _, _⟩ := hcs.open_
                    have F2 : Hid (∀ o, Below w.heap.size w (wr.alloc o)) := fun o => HB.out.alloc hsz _
                    have HRR := Lib.hid hr'
                    clear hr hr' hcs hnv hfk hsn
                    generalize ks[i] = kid at *
                    obtain ⟨k', s', nm', ats', ks', t', p'⟩ := kid
                    simp only [Node.kind, Node.space, Node.name, Node.attrs, Node.kids, Node.text, Node.pos] at *
                    have hch := fun W => fun hW : Below w.heap.size w W => chars_any t' W (HT.out.next hW) (by have := hpk.text; simp only [Node.text] at this; omega)
                    have hl1 : s'.length < 1000000 := hpk.space
                    have hl2 : nm'.length < 1000000 := hpk.name
                    have hl3 : ats'.length < 1000000 := hpk.attrs
                    have hl4 : ks'.length < 1000000 := hpk.kids
                    rw [dataOk_mk] at hstep
                    have HST := Lib.hid hstep
                    clear hstep hpk
                    by_cases g1 : k' = 1
                    · subst g1
                      clear hcall
                      cases data
                      · by_cases g2 : t' = []
                        · subst g2
                          have hF : E = false := by rw [HST.out]; simp
                          have HF2 := Lib.hid hF
                          clear hF
                          go_wp2_with (with_reducible refine gate ?_; refine wp_load_node rfl _ rfl b (off + i * 7) rfl _ rfl HRR.out ?_)
                          go_ret
                          exact ⟨ret_bool HF2.out.symm, F2.out _⟩
                        · have e0 : List.isEmpty t' = false := by cases t' with
                            | nil => exact (g2 rfl).elim
                            | cons a l => rfl
                          cases g3 : charsOk t'
                          · rw [g3] at hch HST
                            have HC := Lib.hid hch
                            have hF : E = false := by rw [HST.out]; simp
                            clear hch g3
                            have HF2 := Lib.hid hF
                            clear hF
                            go_wp2_with (first
                              | (with_reducible refine gate ?_; refine wp_load_node rfl _ rfl b (off + i * 7) rfl _ rfl HRR.out ?_)
                              | (go_at_call 36; refine (HC.out _ (F2.out _)).mono ?_; rintro e w3 ⟨rfl, hb3⟩; have k0 := hb3.cell (p := ⟨wr.heap.size, 0, none⟩) (by simp); have k1 := hb3.cell (p := ⟨wr.heap.size, 1, none⟩) (by simp); have k2 := hb3.cell (p := ⟨wr.heap.size, 2, none⟩) (by simp); have k3 := hb3.cell (p := ⟨wr.heap.size, 3, none⟩) (by simp); have k4 := hb3.cell (p := ⟨wr.heap.size, 4, none⟩) (by simp)))
                            go_ret
                            exact ⟨ret_bool HF2.out.symm, (F2.out _).trans (hb3.mono (by simp; omega))⟩
                          · rw [g3] at hch HST
                            have HC := Lib.hid hch
                            clear hch g3
                            by_cases g4 : s' = [] ∧ nm' = []
                            · obtain ⟨g4, g5⟩ := g4
                              subst g4 g5
                              by_cases g6 : ats'.length + ks'.length = 0
                              · have e1 : ats'.length ≤ 0 := by omega
                                have e2 : ks'.length ≤ 0 := by omega
                                have e3 : (ats'.length : Int) + ks'.length ≤ 0 := by omega
                                have hF : vldL true (ks.drop (i + 1)) d true = E := by
                                  rw [HST.out]
                                  simp [g2, show ats' = [] from List.eq_nil_of_length_eq_zero (by omega), show ks' = [] from List.eq_nil_of_length_eq_zero (by omega)]
                                have HF2 := Lib.hid hF
                                clear hF g6 g2
                                go_wp2_with (first
                                  | (with_reducible refine gate ?_; refine wp_load_node rfl _ rfl b (off + i * 7) rfl _ rfl HRR.out ?_)
                                  | (go_at_call 36; refine (HC.out _ (F2.out _)).mono ?_; rintro e w3 ⟨rfl, hb3⟩; have k0 := hb3.cell (p := ⟨wr.heap.size, 0, none⟩) (by simp); have k1 := hb3.cell (p := ⟨wr.heap.size, 1, none⟩) (by simp); have k2 := hb3.cell (p := ⟨wr.heap.size, 2, none⟩) (by simp); have k3 := hb3.cell (p := ⟨wr.heap.size, 3, none⟩) (by simp); have k4 := hb3.cell (p := ⟨wr.heap.size, 4, none⟩) (by simp)))
                                go_roundw
                                case rel => exact ⟨i + 1, true, by omega, by go_num, rfl, HF2.out, (F2.out _).trans (hb3.mono (by simp; omega))⟩
                                case measure => simp [intOf]; omega
                              · have e1 : (0 : Int) < (ats'.length : Int) + ks'.length := by omega
                                have hF : E = false := by
                                  rw [HST.out, Bool.eq_false_iff]
                                  intro hh
                                  simp at hh
                                  obtain ⟨⟨_, ha0⟩, _⟩ := hh
                                  apply g6
                                  simp_all
                                clear g6
                                have HF2 := Lib.hid hF
                                clear hF
                                go_wp2_with (first
                                  | (with_reducible refine gate ?_; refine wp_load_node rfl _ rfl b (off + i * 7) rfl _ rfl HRR.out ?_)
                                  | (go_at_call 36; refine (HC.out _ (F2.out _)).mono ?_; rintro e w3 ⟨rfl, hb3⟩; have k0 := hb3.cell (p := ⟨wr.heap.size, 0, none⟩) (by simp); have k1 := hb3.cell (p := ⟨wr.heap.size, 1, none⟩) (by simp); have k2 := hb3.cell (p := ⟨wr.heap.size, 2, none⟩) (by simp); have k3 := hb3.cell (p := ⟨wr.heap.size, 3, none⟩) (by simp); have k4 := hb3.cell (p := ⟨wr.heap.size, 4, none⟩) (by simp)))
                                go_ret
                                exact ⟨ret_bool HF2.out.symm, (F2.out _).trans (hb3.mono (by simp; omega))⟩
                            · have e1 : ¬ (s' ++ nm' = []) := by simpa using g4
                              have hF : E = false := by
                                rw [HST.out, Bool.eq_false_iff]
                                intro hh
                                simp at hh
                                apply g4
                                simp_all
                              clear g4
                              have HF2 := Lib.hid hF
                              clear hF
                              go_wp2_with (first
                                | (with_reducible refine gate ?_; refine wp_load_node rfl _ rfl b (off + i * 7) rfl _ rfl HRR.out ?_)
                                | (go_at_call 36; refine (HC.out _ (F2.out _)).mono ?_; rintro e w3 ⟨rfl, hb3⟩; have k0 := hb3.cell (p := ⟨wr.heap.size, 0, none⟩) (by simp); have k1 := hb3.cell (p := ⟨wr.heap.size, 1, none⟩) (by simp); have k2 := hb3.cell (p := ⟨wr.heap.size, 2, none⟩) (by simp); have k3 := hb3.cell (p := ⟨wr.heap.size, 3, none⟩) (by simp); have k4 := hb3.cell (p := ⟨wr.heap.size, 4, none⟩) (by simp)))
                              go_ret
                              exact ⟨ret_bool HF2.out.symm, (F2.out _).trans (hb3.mono (by simp; omega))⟩
                      · have hF : E = false := by rw [HST.out]; simp
                        clear hch
                        have HF2 := Lib.hid hF
                        clear hF
                        go_wp2_with (with_reducible refine gate ?_; refine wp_load_node rfl _ rfl b (off + i * 7) rfl _ rfl HRR.out ?_)
                        go_ret
                        exact ⟨ret_bool HF2.out.symm, F2.out _⟩
                    · have t1 : (k' == 1) = false := by rw [beq_eq_false_iff_ne]; exact g1
                      have hs2 : E = (vld true (.mk k' s' nm' ats' ks' t' p') (d + 1) && vldL true (ks.drop (i + 1)) d false) := by simpa [Node.kind, g1, t1] using HST.out
                      clear HST
                      have HST := Lib.hid hs2
                      clear hs2
                      generalize vld true (.mk k' s' nm' ats' ks' t' p') (d + 1) = q at *
                      have e3 : ((d + 1 : Nat) : Int) = (d : Int) + 1 := by omega
                      rw [e3] at hcall
                      have HC := Lib.hid hcall
                      clear hch hcall g1 e3
                      cases q
                      · have hF : E = false := by rw [HST.out]; simp
                        have HF2 := Lib.hid hF
                        clear hF
                        go_wp2_with (first
                          | (with_reducible refine gate ?_; refine wp_load_node rfl _ rfl b (off + i * 7) rfl _ rfl HRR.out ?_)
                          | (go_at_call 27; refine (HC.out _ (F2.out _)).mono ?_; rintro e w3 ⟨rfl, hb3⟩))
                        go_ret
                        exact ⟨ret_bool HF2.out.symm, (F2.out _).trans (hb3.mono (by simp; omega))⟩
                      · have hF : vldL true (ks.drop (i + 1)) d false = E := by rw [HST.out]; simp
                        have HF2 := Lib.hid hF
                        clear hF
                        go_wp2_with (first
                          | (with_reducible refine gate ?_; refine wp_load_node rfl _ rfl b (off + i * 7) rfl _ rfl HRR.out ?_)
                          | (go_at_call 27; refine (HC.out _ (F2.out _)).mono ?_; rintro e w3 ⟨rfl, hb3⟩; have k0 := hb3.cell (p := ⟨wr.heap.size, 0, none⟩) (by simp)))
                        go_roundw
                        case rel => exact ⟨i + 1, false, by omega, by go_num, rfl, HF2.out, (F2.out _).trans (hb3.mono (by simp; omega))⟩
                        case measure => simp [intOf]; omega
                  · obtain rfl : i = ks.length := by omega
                    have hfin := HR.out
                    rw [List.drop_length, vldL] at hfin
                    have HFF := Lib.hid hfin
                    clear hfin
                    go_wp2_with fail
                    go_ret
                    exact ⟨ret_bool HFF.out, HB.out⟩
          · have hF : E = false := by rw [← HE.out]; simp [h4]
            have HF := Lib.hid hF
            clear hF hq hat
            go_enter Tryd.func27, Tryd.ntmps27
            go_wp2_with fail
            go_ret
            exact ⟨ret_bool HF.out.symm, F1.out _⟩
        · have hF : E = false := by rw [← HE.out]; simp [h3]
          have HF := Lib.hid hF
          clear hF hq hat
          go_enter Tryd.func27, Tryd.ntmps27
          go_wp2_with fail
          go_ret
          exact ⟨ret_bool HF.out.symm, F1.out _⟩
      · have h2' : 100 < (d : Int) := by omega
        have hF : E = false := by rw [← HE.out]; simp [show 100 < d from by omega]
        have HF := Lib.hid hF
        clear hF hq hat
        go_enter Tryd.func27, Tryd.ntmps27
        go_wp2_with fail
        go_ret
        exact ⟨ret_bool HF.out.symm, F1.out _⟩
    · have t1 : (k != 0) = true := by rw [bne_iff_ne]; exact h1
      have hF : E = false := by rw [← HE.out]; simp [h1]
      have HF := Lib.hid hF
      clear hF hq hat
      go_enter Tryd.func27, Tryd.ntmps27
      go_wp2_with fail
      go_ret
      exact ⟨ret_bool HF.out.symm, F1.out _⟩
end Go.Proofs.YthilaolkkamedaaDoor
set_option linter.unusedVariables false
namespace Go.Proofs.YthilaolkkamedaaDoor
open Go.RowKit

def errOf (b : Bool) : Int := if b then 0 else 22
set_option maxHeartbeats 1000000 in
set_option maxRecDepth 100000 in
theorem check9_any (n : Node) (v : Value) (w : World) (hs : full n ≤ 1000000) (hT : Tabs w) (hv : NodeV w w.heap.size n v) :
    Calls Tryd.prog 11 #[v] w fun e w' => e = .returned (.int .i64 (errOf (vld true n 1))) ∧ Below w.heap.size w w' := by
  have hc := fun W => fun (hW : Below w.heap.size w W) => valid_any _ n v 1 W (Nat.le_refl _) hs (by omega) (hT.next hW) (hv.keep hW.block hW.size)
  have e1 : ((1 : Nat) : Int) = 1 := rfl
  rw [e1] at hc
  obtain ⟨A, cap, K, kcap, rfl, ha, hk, hcap, hkcap⟩ := hv.open_
  have HC := Lib.hid hc
  clear hc hv ha hk hs hT e1
  have F1 : Hid (∀ o, Below w.heap.size w (w.alloc o)) := fun o => (Below.refl _ _).alloc (Nat.le_refl _) o
  generalize vld true n 1 = E at *
  cases E
  · go_enter Tryd.func11, Tryd.ntmps11
    go_wp2_with (go_at_call 27; refine (HC.out _ (F1.out _)).mono ?_; rintro e w1 ⟨rfl, hb1⟩)
    go_ret
    exact ⟨rfl, (F1.out _).trans (hb1.mono (by simp))⟩
  · go_enter Tryd.func11, Tryd.ntmps11
    go_wp2_with (go_at_call 27; refine (HC.out _ (F1.out _)).mono ?_; rintro e w1 ⟨rfl, hb1⟩)
    go_ret
    exact ⟨rfl, (F1.out _).trans (hb1.mono (by simp))⟩

theorem wr_new (w : World) : Wr w.heap.size w.heap.size (w.heap.size + 1) [] ((w.alloc (.cells #[.pointer none, .slice none 0 0] 51)).alloc (.cells #[wFn w.heap.size (w.heap.size + 1)] 52)) := by
  refine ⟨(Bld.new w).alloc _, ?_, by omega, by simp; omega⟩
  have h := heap_alloc_new (w.alloc (.cells #[.pointer none, .slice none 0 0] 51)) (.cells #[wFn w.heap.size (w.heap.size + 1)] 52)
  simp only [World.size_alloc] at h
  exact h
theorem wr_cell0 (w : World) (z : Value) : ((w.alloc (.cells #[.pointer none, .slice none 0 0] 51)).alloc (.cells #[z] 52)).cell? ⟨w.heap.size + 1, 0, none⟩ = some z := by
  have h := heap_alloc_new (w.alloc (.cells #[.pointer none, .slice none 0 0] 51)) (.cells #[z] 52)
  simp only [World.size_alloc] at h
  rw [Lib.cell_of_heap h]; rfl
theorem wr_froz0 (w : World) (z : Value) : ((w.alloc (.cells #[.pointer none, .slice none 0 0] 51)).alloc (.cells #[z] 52)).frozen? ⟨w.heap.size + 1, 0, none⟩ = false := by
  have h := heap_alloc_new (w.alloc (.cells #[.pointer none, .slice none 0 0] 51)) (.cells #[z] 52)
  simp only [World.size_alloc] at h
  exact Lib.frozen_of_heap h 0
/-- What Write returns. -/
def outOf (n : Node) (b : Bool) : Bytes := if b then doc n else []
set_option maxHeartbeats 2000000 in
set_option maxRecDepth 100000 in
theorem write9_any (n : Node) (v : Value) (w : World) (hs : full n ≤ 1000000) (hc : (canon n).length ≤ 140737488355000) (hT : Tabs w) (hv : NodeV w w.heap.size n v) :
    Calls Tryd.prog 9 #[v] w fun e w' => e = .returned (.tuple #[.string (S (outOf n (vld true n 1))), .int .i64 (errOf (vld true n 1))]) ∧ Below w.heap.size w w' := by
  have hck := fun W => fun (hW : Below w.heap.size w W) => check9_any n v W hs (hT.next hW) (hv.keep hW.block hW.size)
  have hwr := fun W (B b cl : Nat) X => fun (h1 : Wr B b cl X W) (hW : Below w.heap.size w W) (hB : w.heap.size ≤ B) (h : (X ++ canon n).length ≤ 140737488355328) => write1_any _ n v B b cl X W (Nat.le_refl _) hs h1 (hv.keep hW.block hB) h
  obtain ⟨A, cap, K, kcap, rfl, ha, hk, hcap, hkcap⟩ := hv.open_
  have hhd : header.length = 39 := rfl
  have HC := Lib.hid hck
  have HW := Lib.hid hwr
  clear hck hwr hv ha hk hs hT
  have F1 : Hid (∀ o, Below w.heap.size w (w.alloc o)) := fun o => (Below.refl _ _).alloc (Nat.le_refl _) o
  generalize vld true n 1 = E at *
  cases E
  · go_enter Tryd.func9, Tryd.ntmps9
    go_wp2_with (go_at_call 11; refine (HC.out _ (F1.out _)).mono ?_; rintro e w1 ⟨rfl, hb1⟩)
    go_ret2
    exact ⟨rfl, (F1.out _).trans (hb1.mono (by simp))⟩
  · have hd : outOf n true = header ++ (canon n ++ [10]) := by show header ++ canon n ++ [10] = _; rw [List.append_assoc]
    rw [hd]
    clear hd
    generalize canon n = N at *
    go_enter Tryd.func9, Tryd.ntmps9
    have hmf : ∀ (fn : Fn) (first cap : Array Value) (w : World), (Instr.makeFunc fn first cap).run Tryd.prog w = .ok (.func fn first cap) w := fun _ _ _ _ => rfl
    go_wp2_with (first
      | (go_at_call 11; refine (HC.out _ (F1.out _)).mono ?_; rintro e w1 ⟨rfl, hb1⟩; have q1 := wr_cell0 w1 .nilFunc; have q2 := wr_froz0 w1 .nilFunc; have hbx := (hb1.block w.heap.size (by simp)).trans (heap_alloc_new w (nodeBox n A cap K kcap)); have hz1 : w.heap.size + 1 ≤ w1.heap.size := by simpa using hb1.size)
      | (go_at_call 21; refine (wr_str header (wr_new w1) (by rw [hhd]; decide)).mono ?_; rintro e w2 ⟨rfl, h2, f2⟩; have d2 := h2.cell; have fb : Below w1.heap.size w1 w2 := (((Below.refl _ w1).alloc (Nat.le_refl _) _).alloc (by simp) _).trans f2.below; have hbx2 := (fb.block w.heap.size (by omega)).trans hbx; obtain ⟨k0, k1, k2, k3, k4, k5, k6⟩ := box_cells hbx2; have hb2 := ((F1.out _).trans (hb1.mono (by simp))).trans (fb.mono (show w.heap.size ≤ w1.heap.size by omega)))
      | (go_at_call 20; refine (HW.out _ _ _ _ _ h2 hb2 (by omega) (by rw [List.nil_append, List.length_append, hhd]; omega)).mono ?_; rintro e w3 ⟨rfl, h3, f3⟩)
      | (go_at_call 24; refine (wr_byte 10 h3 (by omega) (by rw [List.nil_append, List.length_append, hhd]; omega)).mono ?_; rintro e w4 ⟨rfl, h4, f4⟩)
      | (go_at_call 25; refine (builderString_any _ _ _ _ h4.bld h4.le).mono ?_; rintro e w5 ⟨rfl, h5, f5, _⟩))
    go_ret2
    exact ⟨rfl, hb2.trans ((f3.below.trans (f4.below.trans f5)).mono (by omega))⟩
end Go.Proofs.YthilaolkkamedaaDoor
set_option linter.unusedVariables false
namespace Go.Proofs.YthilaolkkamedaaDoor

mutual
theorem vld_any : ∀ (n : Node) (d e : Nat), vld false n d = vld false n e
  | .mk k s nm ats ks t p, d, e => by
    rw [vld, vld, vldL_any ks d e false]; simp
theorem vldL_any : ∀ (ks : List Node) (d e : Nat) (b : Bool), vldL false ks d b = vldL false ks e b
  | [], _, _, _ => by rw [vldL, vldL]
  | k :: ks, d, e, b => by rw [vldL, vldL, vld_any k (d + 1) (e + 1), vldL_any ks d e]
end
end Go.Proofs.YthilaolkkamedaaDoor
set_option linter.unusedVariables false
namespace Go.Proofs.YthilaolkkamedaaDoor

/-! Bytes of names. -/
/-- The bytes that end a name within a tag. -/
def sep (c : UInt8) : Bool := c.toNat == 32 || c.toNat == 34 || c.toNat == 47 || c.toNat == 60 || c.toNat == 61 || c.toNat == 62
theorem qch_sep {f : Bool} {r : Nat} (h : qch f r = true) (h128 : r < 128) : r ≠ 32 ∧ r ≠ 34 ∧ r ≠ 47 ∧ r ≠ 60 ∧ r ≠ 61 ∧ r ≠ 62 := by
  have key : ∀ r : Int, (r = 32 ∨ r = 34 ∨ r = 47 ∨ r = 60 ∨ r = 61 ∨ r = 62) → qch f r = false := by
    rintro r (rfl | rfl | rfl | rfl | rfl | rfl) <;> cases f <;> decide
  refine ⟨?_, ?_, ?_, ?_, ?_, ?_⟩ <;> (intro e; subst e; rw [key _ (by decide)] at h; cases h)
theorem enc_byte {r : Nat} (h : okRune r) : ∀ x ∈ enc r, x.toNat = r ∧ r < 128 ∨ 128 ≤ x.toNat := by
  unfold enc
  rw [if_neg (by simpa using h)]
  unfold okRune at h
  intro x hx
  by_cases h1 : r < 128
  · rw [if_pos h1] at hx
    simp only [List.mem_cons, List.not_mem_nil, or_false] at hx
    subst hx
    exact .inl ⟨u8_of (by omega), h1⟩
  · rw [if_neg h1] at hx
    right
    by_cases h2 : r < 2048
    · rw [if_pos h2] at hx
      simp only [List.mem_cons, List.not_mem_nil, or_false] at hx
      rcases hx with rfl | rfl <;> rw [u8_of (by omega)] <;> omega
    · rw [if_neg h2] at hx
      by_cases h3 : r < 65536
      · rw [if_pos h3] at hx
        simp only [List.mem_cons, List.not_mem_nil, or_false] at hx
        rcases hx with rfl | rfl | rfl <;> rw [u8_of (by omega)] <;> omega
      · rw [if_neg h3] at hx
        simp only [List.mem_cons, List.not_mem_nil, or_false] at hx
        rcases hx with rfl | rfl | rfl | rfl <;> rw [u8_of (by omega)] <;> omega
theorem name_bytes (m : Nat) : ∀ (l : Bytes) (f : Bool), l.length ≤ m → nmS 0 f l = l.length → ∀ x ∈ l, sep x = false := by
  induction m with
  | zero => intro l f h _ x hx; have : l = [] := List.eq_nil_of_length_eq_zero (by omega); subst this; simp at hx
  | succ m ih =>
    intro l f h hn x hx
    by_cases h0 : (dec l).2 = 0
    · rw [nm_stop (.inl h0)] at hn
      have : l = [] := List.eq_nil_of_length_eq_zero hn.symm
      subst this; simp at hx
    · cases hq : qch f (dec l).1
      · rw [nm_stop (.inr hq)] at hn
        have : l = [] := List.eq_nil_of_length_eq_zero hn.symm
        subst this; simp at hx
      · have hd := dec_enc l h0
        have hle := (dec_le l).1
        rw [nm_next h0 hq] at hn
        have hdl : (l.drop (dec l).2).length = l.length - (dec l).2 := by simp
        rw [← List.take_append_drop (dec l).2 l, List.mem_append] at hx
        rcases hx with hx | hx
        · rw [← hd.2] at hx
          rcases enc_byte hd.1 x hx with ⟨e, h1⟩ | h1
          · have := qch_sep hq h1
            unfold sep
            rw [e]
            simp [this]
          · unfold sep
            simp
            omega
        · exact ih (l.drop (dec l).2) false (by omega) (by omega) x hx
theorem qname_bytes {l : Bytes} (h : isQName l = true) : l ≠ [] ∧ ∀ x ∈ l, sep x = false := by
  rw [isQName_iff] at h
  exact ⟨h.1, name_bytes _ l true (Nat.le_refl _) h.2⟩

/-! Splitting at the first byte of some kind. -/
theorem split_at {p : UInt8 → Bool} : ∀ {a b : Bytes} {x y : UInt8} {s t : Bytes}, (∀ c ∈ a, p c = false) → (∀ c ∈ b, p c = false) → p x = true → p y = true → a ++ x :: s = b ++ y :: t → a = b ∧ x = y ∧ s = t
  | [], [], x, y, s, t, _, _, _, _, h => by simpa using h
  | [], c :: b, x, y, s, t, _, hb, hx, _, h => by
    simp only [List.nil_append, List.cons_append, List.cons.injEq] at h
    have := hb c (by simp)
    rw [← h.1, hx] at this; cases this
  | c :: a, [], x, y, s, t, ha, _, _, hy, h => by
    simp only [List.nil_append, List.cons_append, List.cons.injEq] at h
    have := ha c (by simp)
    rw [h.1, hy] at this; cases this
  | c :: a, d :: b, x, y, s, t, ha, hb, hx, hy, h => by
    simp only [List.cons_append, List.cons.injEq] at h
    obtain ⟨h1, h2, h3⟩ := split_at (fun z hz => ha z (by simp [hz])) (fun z hz => hb z (by simp [hz])) hx hy h.2
    exact ⟨by rw [h.1, h1], h2, h3⟩

/-! Escaping. -/
theorem escOne_cases (a : Bool) (c : UInt8) : (escOne a c = [c] ∧ rep a c = []) ∨ (escOne a c = rep a c ∧ rep a c ≠ []) := by
  unfold escOne
  by_cases h : rep a c = []
  · left; rw [if_pos h]; exact ⟨rfl, h⟩
  · right; rw [if_neg h]; exact ⟨rfl, h⟩
theorem rep_cases (a : Bool) (c : UInt8) : rep a c = [] ∧ c.toNat ≠ 38 ∧ c.toNat ≠ 60 ∧ (a = true → c.toNat ≠ 34) ∨ rep a c = [38, 97, 109, 112, 59] ∧ c.toNat = 38 ∨ rep a c = [38, 108, 116, 59] ∧ c.toNat = 60 ∨ rep a c = [38, 103, 116, 59] ∧ c.toNat = 62 ∨ rep a c = [38, 35, 49, 51, 59] ∧ c.toNat = 13 ∨ rep a c = [38, 113, 117, 111, 116, 59] ∧ c.toNat = 34 ∨ rep a c = [38, 35, 57, 59] ∧ c.toNat = 9 ∨ rep a c = [38, 35, 49, 48, 59] ∧ c.toNat = 10 := by
  unfold rep
  by_cases h1 : c.toNat = 38
  · simp [h1]
  by_cases h2 : c.toNat = 60
  · simp [h2]
  by_cases h3 : c.toNat = 62
  · simp [h3]
  by_cases h4 : c.toNat = 13
  · simp [h4]
  by_cases h5 : a = true ∧ c.toNat = 34
  · simp [h5]
  by_cases h6 : a = true ∧ c.toNat = 9
  · simp [h6]
  by_cases h7 : a = true ∧ c.toNat = 10
  · simp [h7]
  left
  rw [if_neg h1, if_neg h2, if_neg h3, if_neg h4, if_neg h5, if_neg h6, if_neg h7]
  exact ⟨rfl, h1, h2, fun ha e => h5 ⟨ha, e⟩⟩
theorem escOne_bytes (a : Bool) (c : UInt8) : ∀ x ∈ escOne a c, x.toNat ≠ 60 ∧ (a = true → x.toNat ≠ 34) := by
  intro x hx
  rcases escOne_cases a c with ⟨h, hr⟩ | ⟨h, hr⟩
  · rw [h] at hx
    simp only [List.mem_cons, List.not_mem_nil, or_false] at hx
    subst hx
    rcases rep_cases a x with h | h | h | h | h | h | h | h
    · exact ⟨h.2.2.1, h.2.2.2⟩
    all_goals (rw [hr] at h; exact absurd h.1 (by simp))
  · rw [h] at hx
    rcases rep_cases a c with h | h | h | h | h | h | h | h
    · exact absurd h.1 hr
    all_goals
      rw [h.1] at hx
      simp only [List.mem_cons, List.not_mem_nil, or_false] at hx
      rcases hx with rfl | rfl | rfl | rfl | rfl | rfl <;> simp
theorem esc_bytes (a : Bool) (l : Bytes) : ∀ x ∈ esc a l, x.toNat ≠ 60 ∧ (a = true → x.toNat ≠ 34) := by
  intro x hx
  unfold esc at hx
  rw [List.mem_flatMap] at hx
  obtain ⟨c, _, hc⟩ := hx
  exact escOne_bytes a c x hc
theorem escOne_ne (a : Bool) (c : UInt8) : escOne a c ≠ [] := by
  rcases escOne_cases a c with ⟨h, hr⟩ | ⟨h, hr⟩ <;> rw [h]
  · simp
  · exact hr
theorem u8_ext {a b : UInt8} (h : a.toNat = b.toNat) : a = b := by rw [← u8_eq (a := a) rfl, h, u8_eq rfl]
theorem escOne_pre (a : Bool) (c d : UInt8) (x y : Bytes) (h : escOne a c ++ x = escOne a d ++ y) : c = d ∧ x = y := by
  have e38 : ∀ {c : UInt8}, rep a c = [] → c.toNat ≠ 38 := fun {c} hr => by
    rcases rep_cases a c with h | h | h | h | h | h | h | h
    · exact h.2.1
    all_goals (rw [hr] at h; exact absurd h.1 (by simp))
  have hd : ∀ {c : UInt8}, rep a c ≠ [] → ∃ t, rep a c = 38 :: t := fun {c} hr => by
    rcases rep_cases a c with h | h | h | h | h | h | h | h
    · exact absurd h.1 hr
    all_goals exact ⟨_, h.1⟩
  rcases escOne_cases a c with ⟨h1, hr1⟩ | ⟨h1, hr1⟩ <;> rcases escOne_cases a d with ⟨h2, hr2⟩ | ⟨h2, hr2⟩
  · rw [h1, h2] at h; simpa using h
  · obtain ⟨t, ht⟩ := hd hr2
    rw [h1, h2, ht] at h
    simp only [List.cons_append, List.cons.injEq] at h
    exact absurd (by rw [h.1]; rfl) (e38 hr1)
  · obtain ⟨t, ht⟩ := hd hr1
    rw [h1, h2, ht] at h
    simp only [List.cons_append, List.cons.injEq] at h
    exact absurd (by rw [← h.1]; rfl) (e38 hr2)
  · rw [h1, h2] at h
    rcases rep_cases a c with e | e | e | e | e | e | e | e <;> rcases rep_cases a d with g | g | g | g | g | g | g | g
    all_goals first
      | exact absurd e.1 hr1
      | exact absurd g.1 hr2
      | (rw [e.1, g.1] at h
         first
           | (exfalso; revert h; simp; done)
           | exact ⟨u8_ext (e.2.trans g.2.symm), by simpa using h⟩)
theorem esc_inj (a : Bool) : ∀ {l m : Bytes}, esc a l = esc a m → l = m
  | [], [], _ => rfl
  | [], d :: m, h => by
    simp only [esc, List.flatMap_nil, List.flatMap_cons] at h
    have := escOne_ne a d
    have h' := h.symm
    rw [List.append_eq_nil_iff] at h'
    exact absurd h'.1 this
  | c :: l, [], h => by
    simp only [esc, List.flatMap_nil, List.flatMap_cons] at h
    rw [List.append_eq_nil_iff] at h
    exact absurd h.1 (escOne_ne a c)
  | c :: l, d :: m, h => by
    simp only [esc, List.flatMap_cons] at h
    obtain ⟨h1, h2⟩ := escOne_pre a c d _ _ h
    rw [h1, esc_inj a (show esc a l = esc a m from h2)]
theorem esc_nil (a : Bool) {l : Bytes} (h : l ≠ []) : esc a l ≠ [] := by
  cases l with
  | nil => exact absurd rfl h
  | cons c l => simp only [esc, List.flatMap_cons]; intro e; rw [List.append_eq_nil_iff] at e; exact escOne_ne a c e.1

/-! The canonical form of attributes. -/
theorem attsOkS_of : ∀ {l : List Att} {s : List Bytes}, attsOkS s l = true → ∀ a ∈ l, a.space = [] ∧ isQName a.name = true
  | [], _, _, a, ha => by simp at ha
  | x :: l, s, h, a, ha => by
    rw [attsOkS] at h
    simp only [Bool.and_eq_true] at h
    rcases List.mem_cons.1 ha with rfl | ha
    · exact ⟨by simpa using h.1.1.1.1, h.1.1.2⟩
    · exact attsOkS_of h.2 a ha
theorem attC_form (a : Att) (r : Bytes) : attC a ++ r = 32 :: (a.name ++ 61 :: 34 :: (esc true a.value ++ 34 :: r)) := by
  simp [attC]
/-- What follows the attributes: '/' or '>'. -/
theorem attsC_inj : ∀ {l m : List Att} {x y : UInt8} {r s : Bytes}, (∀ a ∈ l, a.space = [] ∧ isQName a.name = true) → (∀ a ∈ m, a.space = [] ∧ isQName a.name = true) → (x.toNat = 47 ∨ x.toNat = 62) → (y.toNat = 47 ∨ y.toNat = 62) →
    attsC l ++ x :: r = attsC m ++ y :: s → l.length = m.length ∧ attsEqv false l m = true ∧ x = y ∧ r = s
  | [], [], x, y, r, s, _, _, _, _, h => by
    simp only [attsC, List.nil_append, List.cons.injEq] at h
    exact ⟨rfl, attsEqv_nil _ _, h.1, h.2⟩
  | [], b :: m, x, y, r, s, _, _, hx, _, h => by
    rw [attsC, attsC, List.append_assoc, attC_form] at h
    simp only [List.nil_append, List.cons.injEq] at h
    rw [h.1] at hx
    exact absurd hx (by decide)
  | a :: l, [], x, y, r, s, _, _, _, hy, h => by
    rw [attsC, attsC, List.append_assoc, attC_form] at h
    simp only [List.nil_append, List.cons.injEq] at h
    rw [← h.1] at hy
    exact absurd hy (by decide)
  | a :: l, b :: m, x, y, r, s, hl, hm, hx, hy, h => by
    rw [attsC, attsC, List.append_assoc, attC_form, List.append_assoc, attC_form] at h
    simp only [List.cons.injEq, true_and] at h
    have ha := qname_bytes (hl a (by simp)).2
    have hb := qname_bytes (hm b (by simp)).2
    obtain ⟨h1, _, h2⟩ := split_at ha.2 hb.2 (by decide) (by decide) h
    simp only [List.cons.injEq, true_and] at h2
    obtain ⟨h3, _, h4⟩ := split_at (p := fun c => c.toNat == 34) (fun c hc => by simpa using (esc_bytes true _ c hc).2 rfl) (fun c hc => by simpa using (esc_bytes true _ c hc).2 rfl) (by decide) (by decide) h2
    obtain ⟨h5, h6, h7, h8⟩ := attsC_inj (fun z hz => hl z (by simp [hz])) (fun z hz => hm z (by simp [hz])) hx hy h4
    refine ⟨by simp [h5], ?_, h7, h8⟩
    rw [attsEqv, h6, attEqv, h1, esc_inj true h3, (hl a (by simp)).1, (hm b (by simp)).1]
    simp

/-! The canonical form of a valid tree tells the tree. -/
theorem vld_head {lim : Bool} {n : Node} {d : Nat} (h : vld lim n d = true) : n.kind = 0 ∧ n.space = [] ∧ n.text = [] ∧ isQName n.name = true ∧ attsOk n.attrs = true ∧ vldL lim n.kids d false = true := by
  rw [vld_eq] at h
  simp only [Bool.and_eq_true, headOk, beq_iff_eq] at h
  obtain ⟨⟨_, ⟨⟨⟨h1, h2⟩, h3⟩, h4⟩, h5⟩, h6⟩ := h
  exact ⟨h1, h2, h3, h4, h5, h6⟩
theorem canon_vld {lim : Bool} {n : Node} {d : Nat} (h : vld lim n d = true) (r : Bytes) : canon n ++ r = 60 :: (n.name ++ (attsC n.attrs ++ (if n.kids.length = 0 then 47 :: 62 :: r else 62 :: (canonL n.kids ++ 60 :: 47 :: (n.name ++ 62 :: r))))) := by
  have hk := (vld_head h).1
  rw [canon_elem (by rw [hk]; decide)]
  split <;> simp
theorem data_form {k : Node} (h : dataOk k = true) : k.text ≠ [] ∧ k.space = [] ∧ k.name = [] ∧ k.attrs = [] ∧ k.kids = [] := by
  unfold dataOk at h
  simp only [Bool.and_eq_true, bne_iff_ne, beq_iff_eq] at h
  obtain ⟨⟨⟨⟨⟨h1, _⟩, h2⟩, h3⟩, h4⟩, h5⟩ := h
  exact ⟨h1, h2, h3, List.eq_nil_of_length_eq_zero h4, List.eq_nil_of_length_eq_zero h5⟩
theorem starts {ks : List Node} {d : Nat} {r : Bytes} (h : vldL false ks d true = true) : ∃ t, canonL ks ++ 60 :: r = 60 :: t := by
  cases ks with
  | nil => exact ⟨r, by simp [canonL]⟩
  | cons k ks =>
    rw [vldL] at h
    split at h
    · simp at h
    · simp only [Bool.and_eq_true] at h
      rw [canonL, List.append_assoc, canon_vld h.1]
      exact ⟨_, rfl⟩
theorem head_eqv {n m : Node} (h1 : n.kind = m.kind) (h2 : n.space = m.space) (h3 : n.name = m.name) (h4 : n.text = m.text) (h5 : n.attrs.length = m.attrs.length) (h6 : n.kids.length = m.kids.length) : headEqv false n m = true := by
  simp [headEqv, h1, h2, h3, h4, h5, h6]
theorem canon_inj (g : Nat) : ∀ (n m : Node) (d e : Nat) (r s : Bytes), nsz n ≤ g → vld false n d = true → vld false m e = true → canon n ++ r = canon m ++ s → eqv false n m = true ∧ r = s := by
  induction g with
  | zero => intro n m d e r s h; cases n; rw [nsz] at h; omega
  | succ g ih =>
    intro n m d e r s hg hn hm h
    have kidsInj : ∀ (ks ms : List Node) (data : Bool) (r s : Bytes), (∀ k ∈ ks, nsz k ≤ g) → vldL false ks d data = true → vldL false ms e data = true → canonL ks ++ 60 :: 47 :: r = canonL ms ++ 60 :: 47 :: s → ks.length = ms.length ∧ kidsEqv false ks ms = true ∧ r = s := by
      intro ks
      induction ks with
      | nil =>
        intro ms data r s _ _ hms h
        cases ms with
        | nil => simp [canonL] at h; exact ⟨rfl, kidsEqv_nil _ _, h⟩
        | cons m ms =>
          exfalso
          rw [vldL] at hms
          rw [canonL, canonL] at h
          split at hms
          · rename_i hk
            simp only [Bool.and_eq_true] at hms
            rw [canon_text (by simpa using hk)] at h
            obtain ⟨ht, _⟩ := data_form hms.1.2
            have hne := esc_nil false ht
            cases hE : esc false m.text with
            | nil => exact hne hE
            | cons c l =>
              have hb := (esc_bytes false m.text c (by rw [hE]; simp)).1
              rw [hE] at h
              simp only [List.nil_append, List.cons_append, List.cons.injEq] at h
              rw [← h.1] at hb
              exact hb rfl
          · simp only [Bool.and_eq_true] at hms
            rw [List.append_assoc, canon_vld hms.1] at h
            obtain ⟨hne, hb⟩ := qname_bytes (vld_head hms.1).2.2.2.1
            cases hE : m.name with
            | nil => exact hne hE
            | cons c l =>
              rw [hE] at h
              simp only [List.nil_append, List.cons_append, List.cons.injEq, true_and] at h
              have := hb c (by rw [hE]; simp)
              rw [← h.1] at this
              exact absurd this (by decide)
      | cons k ks ihk =>
        intro ms data r s hsz hks hms h
        cases ms with
        | nil =>
          exfalso
          rw [vldL] at hks
          rw [canonL, canonL] at h
          split at hks
          · rename_i hk
            simp only [Bool.and_eq_true] at hks
            rw [canon_text (by simpa using hk)] at h
            obtain ⟨ht, _⟩ := data_form hks.1.2
            have hne := esc_nil false ht
            cases hE : esc false k.text with
            | nil => exact hne hE
            | cons c l =>
              have hb := (esc_bytes false k.text c (by rw [hE]; simp)).1
              rw [hE] at h
              simp only [List.nil_append, List.cons_append, List.cons.injEq] at h
              rw [h.1] at hb
              exact hb rfl
          · simp only [Bool.and_eq_true] at hks
            rw [List.append_assoc, canon_vld hks.1] at h
            obtain ⟨hne, hb⟩ := qname_bytes (vld_head hks.1).2.2.2.1
            cases hE : k.name with
            | nil => exact hne hE
            | cons c l =>
              rw [hE] at h
              simp only [List.nil_append, List.cons_append, List.cons.injEq, true_and] at h
              have := hb c (by rw [hE]; simp)
              rw [h.1] at this
              exact absurd this (by decide)
        | cons m ms =>
          rw [vldL] at hks hms
          rw [canonL, canonL, List.append_assoc, List.append_assoc] at h
          cases hk1 : (k.kind == 1) <;> cases hm1 : (m.kind == 1)
          · rw [hk1] at hks
            rw [hm1] at hms
            simp only [Bool.and_eq_true, Bool.false_eq_true, if_false] at hks hms
            obtain ⟨h1, h2⟩ := ih k m (d + 1) (e + 1) _ _ (hsz k (by simp)) hks.1 hms.1 h
            obtain ⟨h3, h4, h5⟩ := ihk ms false r s (fun z hz => hsz z (by simp [hz])) hks.2 hms.2 h2
            exact ⟨by simp [h3], by rw [kidsEqv, h1, h4]; rfl, h5⟩
          · exfalso
            rw [hk1] at hks
            rw [hm1] at hms
            simp only [Bool.and_eq_true, Bool.false_eq_true, if_false, if_true] at hks hms
            rw [canon_vld hks.1, canon_text (by simpa using hm1)] at h
            obtain ⟨ht, _⟩ := data_form hms.1.2
            have hne := esc_nil false ht
            cases hE : esc false m.text with
            | nil => exact hne hE
            | cons c l =>
              have hb := (esc_bytes false m.text c (by rw [hE]; simp)).1
              rw [hE] at h
              simp only [List.cons_append, List.cons.injEq] at h
              rw [← h.1] at hb
              exact hb rfl
          · exfalso
            rw [hk1] at hks
            rw [hm1] at hms
            simp only [Bool.and_eq_true, Bool.false_eq_true, if_false, if_true] at hks hms
            rw [canon_vld hms.1, canon_text (by simpa using hk1)] at h
            obtain ⟨ht, _⟩ := data_form hks.1.2
            have hne := esc_nil false ht
            cases hE : esc false k.text with
            | nil => exact hne hE
            | cons c l =>
              have hb := (esc_bytes false k.text c (by rw [hE]; simp)).1
              rw [hE] at h
              simp only [List.cons_append, List.cons.injEq] at h
              rw [h.1] at hb
              exact hb rfl
          · rw [hk1] at hks
            rw [hm1] at hms
            simp only [Bool.and_eq_true, if_true] at hks hms
            rw [canon_text (by simpa using hk1), canon_text (by simpa using hm1)] at h
            obtain ⟨t1, h1⟩ := starts (r := 47 :: r) hks.2
            obtain ⟨t2, h2⟩ := starts (r := 47 :: s) hms.2
            rw [h1, h2] at h
            obtain ⟨h3, _, h4⟩ := split_at (p := fun c => c.toNat == 60) (fun c hc => by simpa using (esc_bytes false _ c hc).1) (fun c hc => by simpa using (esc_bytes false _ c hc).1) (by decide) (by decide) h
            obtain ⟨h5, h6, h7⟩ := ihk ms true r s (fun z hz => hsz z (by simp [hz])) hks.2 hms.2 (by rw [h1, h2, h4])
            have ek : k.kind = m.kind := by rw [show k.kind = 1 by simpa using hk1, show m.kind = 1 by simpa using hm1]
            obtain ⟨_, f1, f2, f3, f4⟩ := data_form hks.1.2
            obtain ⟨_, g1, g2, g3, g4⟩ := data_form hms.1.2
            refine ⟨by simp [h5], ?_, h7⟩
            rw [kidsEqv, h6, eqv_eq, head_eqv ek (by rw [f1, g1]) (by rw [f2, g2]) (esc_inj false h3) (by rw [f3, g3]) (by rw [f4, g4]), f3, f4, attsEqv_nil, kidsEqv_nil]
            rfl
    rw [canon_vld hn, canon_vld hm] at h
    simp only [List.cons.injEq, true_and] at h
    obtain ⟨a1, a2, a3, a4, a5, a6⟩ := vld_head hn
    obtain ⟨b1, b2, b3, b4, b5, b6⟩ := vld_head hm
    have hA := attsOkS_of a5
    have hB := attsOkS_of b5
    -- the name ends at a blank, a slash or a '>'
    have form : ∀ (ats : List Att) (c : Prop) [Decidable c] (x y : Bytes), ∃ z t, attsC ats ++ (if c then 47 :: x else 62 :: y) = z :: t ∧ sep z = true := by
      intro ats c _ x y
      cases ats with
      | nil =>
        by_cases hc : c
        · exact ⟨47, x, by simp [attsC, hc], by decide⟩
        · exact ⟨62, y, by simp [attsC, hc], by decide⟩
      | cons a ats => exact ⟨32, _, by rw [attsC, List.append_assoc, attC_form], by decide⟩
    obtain ⟨z, t, hz, hzs⟩ := form n.attrs (n.kids.length = 0) (62 :: r) (canonL n.kids ++ 60 :: 47 :: (n.name ++ 62 :: r))
    obtain ⟨z', t', hz', hzs'⟩ := form m.attrs (m.kids.length = 0) (62 :: s) (canonL m.kids ++ 60 :: 47 :: (m.name ++ 62 :: s))
    rw [hz, hz'] at h
    obtain ⟨hname, hzz, htt⟩ := split_at (qname_bytes a4).2 (qname_bytes b4).2 hzs hzs' h
    have h2 : attsC n.attrs ++ (if n.kids.length = 0 then 47 :: 62 :: r else 62 :: (canonL n.kids ++ 60 :: 47 :: (n.name ++ 62 :: r))) = attsC m.attrs ++ (if m.kids.length = 0 then 47 :: 62 :: s else 62 :: (canonL m.kids ++ 60 :: 47 :: (m.name ++ 62 :: s))) := by rw [hz, hz', hzz, htt]
    have hfin : ∀ (x : n.attrs.length = m.attrs.length) (y : attsEqv false n.attrs m.attrs = true) (z : n.kids.length = m.kids.length) (w : kidsEqv false n.kids m.kids = true), eqv false n m = true := by
      intro x y z w
      rw [eqv_eq, head_eqv (by rw [a1, b1]) (by rw [a2, b2]) hname (by rw [a3, b3]) x z, y, w]; rfl
    by_cases hk : n.kids.length = 0 <;> by_cases hk' : m.kids.length = 0
    · rw [if_pos hk, if_pos hk'] at h2
      obtain ⟨c1, c2, c3, c4⟩ := attsC_inj hA hB (by decide) (by decide) h2
      simp only [List.cons.injEq, true_and] at c4
      exact ⟨hfin c1 c2 (by omega) (by rw [List.eq_nil_of_length_eq_zero hk, kidsEqv_nil]), c4⟩
    · rw [if_pos hk, if_neg hk'] at h2
      obtain ⟨c1, c2, c3, c4⟩ := attsC_inj hA hB (by decide) (by decide) h2
      exact absurd c3 (by decide)
    · rw [if_neg hk, if_pos hk'] at h2
      obtain ⟨c1, c2, c3, c4⟩ := attsC_inj hA hB (by decide) (by decide) h2
      exact absurd c3 (by decide)
    · rw [if_neg hk, if_neg hk'] at h2
      obtain ⟨c1, c2, c3, c4⟩ := attsC_inj hA hB (by decide) (by decide) h2
      obtain ⟨e1, e2, e3⟩ := kidsInj n.kids m.kids false _ _ (fun k hk => by have := nsz_lt n hk; omega) a6 b6 c4
      rw [hname] at e3
      have e4 := List.append_cancel_left e3
      simp only [List.cons.injEq, true_and] at e4
      exact ⟨hfin c1 c2 e1 e2, e4⟩
theorem attsC_eqv : ∀ {l m : List Att}, l.length = m.length → attsEqv false l m = true → attsC l = attsC m
  | [], [], _, _ => rfl
  | [], b :: m, h, _ => by simp at h
  | a :: l, [], h, _ => by simp at h
  | a :: l, b :: m, h, he => by
    rw [attsEqv] at he
    simp only [Bool.and_eq_true, attEqv, beq_iff_eq] at he
    obtain ⟨⟨⟨⟨_, h1⟩, h2⟩, _⟩, h3⟩ := he
    rw [attsC, attsC, attsC_eqv (by simpa using h) h3, attC, attC, h1, h2]
mutual
theorem canon_eqv : ∀ (n m : Node), eqv false n m = true → canon n = canon m
  | .mk k s nm ats ks t p, m, h => by
    rw [eqv] at h
    simp only [Bool.and_eq_true, headEqv, beq_iff_eq] at h
    obtain ⟨⟨⟨⟨⟨⟨⟨⟨h1, h2⟩, h3⟩, h4⟩, _⟩, h5⟩, h6⟩, h7⟩, h8⟩ := h
    have ea := attsC_eqv h5 h7
    have ek := canonL_eqv ks m.kids h6 h8
    obtain ⟨k', s', nm', ats', ks', t', p'⟩ := m
    simp only [Node.kind, Node.space, Node.name, Node.attrs, Node.kids, Node.text] at *
    rw [canon, canon, h1, h3, h4, h6, ea, ek]
theorem canonL_eqv : ∀ (ks ms : List Node), ks.length = ms.length → kidsEqv false ks ms = true → canonL ks = canonL ms
  | [], [], _, _ => rfl
  | [], b :: m, h, _ => by simp at h
  | k :: ks, [], h, _ => by simp at h
  | k :: ks, m :: ms, h, he => by
    rw [kidsEqv] at he
    simp only [Bool.and_eq_true] at he
    rw [canonL, canonL, canon_eqv k m he.1, canonL_eqv ks ms (by simpa using h) he.2]
end
/-- Two valid trees have the same canonical document exactly if they are equal apart from offsets. -/
theorem doc_eqv {n m : Node} {d e : Nat} (hn : vld false n d = true) (hm : vld false m e = true) : (doc n == doc m) = eqv false n m := by
  rw [Bool.eq_iff_iff, beq_iff_eq]
  constructor
  · intro h
    unfold doc at h
    rw [List.append_assoc, List.append_assoc] at h
    exact (canon_inj _ n m d e _ _ (Nat.le_refl _) hn hm (List.append_cancel_left h)).1
  · intro h
    unfold doc
    rw [canon_eqv n m h]

/-! Validity with the limit: validity without it, and the depth. -/
mutual
theorem vld_depth : ∀ (n : Node) (d : Nat), n.kind ≠ 1 → vld true n d = (vld false n d && decide (d + depth n ≤ 101))
  | .mk k s nm ats ks t p, d, hk => by
    have hk' : ¬ k = 1 := hk
    rw [vld, vld, depth, if_neg hk', vldL_depth ks d false]
    cases headOk (.mk k s nm ats ks t p)
    · simp
    · cases hv : vldL false ks d false
      · simp
      · have e : ∀ D, d + (D + 1) ≤ 101 ↔ d ≤ 100 ∧ d + D ≤ 100 := by omega
        rw [Bool.eq_iff_iff]
        simp [e]
        omega
theorem vldL_depth : ∀ (ks : List Node) (d : Nat) (b : Bool), vldL true ks d b = (vldL false ks d b && decide (depthL ks 0 = 0 ∨ d + depthL ks 0 ≤ 100))
  | [], d, b => by rw [vldL, vldL, depthL]; simp
  | k :: ks, d, b => by
    rw [vldL, vldL, depthL, depthL_max, vldL_depth ks d]
    by_cases h : k.kind = 1
    · have h0 : depth k = 0 := by rw [depth_eq, if_pos h]
      have h1 : (k.kind == 1) = true := by rw [h]; rfl
      rw [h1, h0, Nat.max_self, Nat.zero_max]
      simp only [if_true, Bool.and_assoc]
    · have h1 : (k.kind == 1) = false := by rw [beq_eq_false_iff_ne]; exact h
      rw [h1]
      simp only [Bool.false_eq_true, if_false]
      rw [vld_depth k (d + 1) h]
      have hpos : 1 ≤ depth k := by rw [depth_eq, if_neg h]; omega
      rw [Bool.eq_iff_iff]
      simp only [Bool.and_eq_true, decide_eq_true_eq]
      generalize depth k = x at *
      generalize depthL ks 0 = y at *
      have e : (d + 1 + x ≤ 101 ∧ (y = 0 ∨ d + y ≤ 100)) ↔ (max (max 0 x) y = 0 ∨ d + max (max 0 x) y ≤ 100) := by omega
      rw [← e]
      constructor
      · rintro ⟨⟨a, b⟩, c, d⟩; exact ⟨⟨a, c⟩, b, d⟩
      · rintro ⟨⟨a, c⟩, b, d⟩; exact ⟨⟨a, b⟩, c, d⟩
theorem depthL_max : ∀ (ks : List Node) (a : Nat), depthL ks a = max a (depthL ks 0)
  | [], a => by rw [depthL, depthL]; simp
  | k :: ks, a => by rw [depthL, depthL, depthL_max ks (max a (depth k)), depthL_max ks (max 0 (depth k))]; omega
end
/-- What the reference asks of a whole tree. -/
def refOk (n : Node) : Bool := n.kind == 0 && decide (depth n ≤ 100) && (if n.kind == 1 then dataOk n else vld false n 0)
theorem refOk_eq (n : Node) : refOk n = vld true n 1 := by
  unfold refOk
  by_cases h : n.kind = 1
  · have h1 : (n.kind == 0) = false := by rw [h]; rfl
    rw [h1, vld_eq true n 1, headOk, h1]; simp
  · have h1 : (n.kind == 1) = false := by rw [beq_eq_false_iff_ne]; exact h
    rw [vld_depth n 1 h, h1, vld_any n 0 1]
    simp only [Bool.false_eq_true, if_false]
    have e : decide (1 + depth n ≤ 101) = decide (depth n ≤ 100) := by rw [Bool.eq_iff_iff]; simp; omega
    rw [e]
    cases hv : vld false n 1
    · simp
    · rw [show (n.kind == 0) = true from by rw [(vld_head hv).1]; rfl]; simp

/-! How long a canonical form is. -/
theorem attsC_len : ∀ l : List Att, (attsC l).length ≤ 6 * attsF l
  | [] => by simp [attsC]
  | a :: l => by
    have h1 := attsC_len l
    have h2 := esc_len true a.value
    simp only [attsC, attC, attsF, attF, List.length_append, List.length_cons, List.length_nil]
    omega
mutual
theorem canon_len : ∀ n : Node, (canon n).length ≤ 6 * full n
  | .mk k s nm ats ks t p => by
    rw [canon, full]
    have h1 := attsC_len ats
    have h2 := esc_len false t
    have h3 := canonL_len ks
    split
    · omega
    · split <;> (simp only [List.length_append, List.length_cons, List.length_nil]; omega)
theorem canonL_len : ∀ ks : List Node, (canonL ks).length ≤ 6 * fullL ks
  | [] => by simp [canonL]
  | k :: ks => by rw [canonL, fullL, List.length_append]; have := canon_len k; have := canonL_len ks; omega
end
end Go.Proofs.YthilaolkkamedaaDoor
set_option linter.unusedVariables false
namespace Go.Proofs.YthilaolkkamedaaDoor
open Go.RowKit

theorem NodesIn.one {w : World} {n : Node} {k p : Int} {s nm t : ByteArray} {A K : Option Addr} {i c j d : Nat} (h : NodeV w w.heap.size n (.agg #[.int .i64 k, .string s, .string nm, .slice A i c, .slice K j d, .string t, .int .i64 p])) :
    NodesIn (w.alloc (.cells #[.int .i64 k, .string s, .string nm, .slice A i c, .slice K j d, .string t, .int .i64 p] 25)) (w.alloc (.cells #[.int .i64 k, .string s, .string nm, .slice A i c, .slice K j d, .string t, .int .i64 p] 25)).heap.size (.slice (some ⟨w.heap.size, 0, none⟩) 1 1) [n] := by
  rw [World.size_alloc]
  obtain ⟨cs, hv, hn⟩ := h
  have hcs : cs = [.int .i64 k, .string s, .string nm, .slice A i c, .slice K j d, .string t, .int .i64 p] := by
    have := congrArg (fun v => match v with | Value.agg a => a.toList | _ => []) hv
    simpa using this.symm
  refine ⟨_, 1, rfl, Nat.le_refl _, .inr ⟨w.heap.size, 0, rfl, by omega, ?_⟩⟩
  rw [KidsIn, KidsIn]
  refine ⟨⟨cs, NodeIn.keep (fun j hj => Below.heap_alloc w _ j hj) (Nat.le_succ _) n cs hn, ?_⟩, trivial⟩
  rw [hcs]
  exact range_of_heap (heap_alloc_new w _)
theorem StrsIn.two_new (w : World) (a b : Bytes) : StrsIn (w.alloc (.cells #[.string (S a), .string (S b)] 9)) (w.alloc (.cells #[.string (S a), .string (S b)] 9)).heap.size (.slice (some ⟨w.heap.size, 0, none⟩) 2 2) [a, b] := by
  rw [World.size_alloc]
  refine ⟨_, 2, rfl, Nat.le_refl _, by omega, .inr ⟨w.heap.size, 0, rfl, by omega, fun i s hi => ?_⟩⟩
  rw [Nat.zero_add, Lib.cell_of_heap (heap_alloc_new w _)]
  match i, hi with
  | 0, hi => simp at hi; subst hi; rfl
  | 1, hi => simp at hi; subst hi; rfl

def example9 : Node := withNode (elemNode [97] [textNode [120]]) [[98], [60]]
def wrong9 : Node := elemNode [49, 97] []
theorem example9_ok : vld true example9 1 = true := by decide +kernel
theorem wrong9_no : vld true wrong9 1 = false := by decide +kernel
theorem example9_canon : canon example9 = [60, 97, 32, 98, 61, 34, 38, 108, 116, 59, 34, 62, 120, 60, 47, 97, 62] := by decide +kernel

set_option maxHeartbeats 4000000 in
set_option maxRecDepth 100000 in
theorem alive9_any (w : World) (hT : Tabs w) :
    Calls Tryd.prog 8 #[] w fun e w' => e = .returned (.bool true) ∧ Below w.heap.size w w' := by
  have HT := Lib.hid hT
  clear hT
  go_enter Tryd.func8, Tryd.ntmps8
  go_wp2_with fail
  refine (text9_any [120] _).mono ?_
  rintro e w1 ⟨v1, rfl, hn1, hb1⟩
  obtain ⟨A1, c1, K1, d1, hv1, _, _, _, _⟩ := hn1.open_
  subst hv1
  have hk1 := NodesIn.one hn1
  have HK1 := Lib.hid hk1
  have HB1 := Lib.hid (hb1.alloc (B := w.heap.size) hb1.size (.cells #[.int .i64 (textNode [120]).kind, .string (S (textNode [120]).space), .string (S (textNode [120]).name), .slice A1 (textNode [120]).attrs.length c1, .slice K1 (textNode [120]).kids.length d1, .string (S (textNode [120]).text), .int .i64 (textNode [120]).pos] 25))
  clear hk1 hn1 hb1
  go_wp2_with fail
  refine (elem9_any [97] [textNode [120]] _ _ (by decide) HK1.out).mono ?_
  rintro e w2 ⟨v2, rfl, hn2, hb2⟩
  have HB2 := Lib.hid (HB1.out.trans (hb2.mono HB1.out.size))
  have HN2 := Lib.hid hn2
  clear HK1 HB1 hb2 hn2
  go_wp2_with fail
  obtain ⟨W2, hW2⟩ : ∃ W2, W2 = w2.alloc (.cells #[.string (S [98]), .string (S [60])] 9) := ⟨_, rfl⟩
  have hst := StrsIn.two_new w2 [98] [60]
  have hb2 := HB2.out.alloc (HB2.out.size) (.cells #[.string (S [98]), .string (S [60])] 9)
  have hn2 : NodeV W2 W2.heap.size (elemNode [97] [textNode [120]]) v2 := by
    rw [hW2]; exact HN2.out.keep (fun j hj => Below.heap_alloc _ _ j hj) (by rw [World.size_alloc]; omega)
  rw [← hW2] at hst hb2
  change Calls _ _ _ (w2.alloc (.cells #[.string (S [98]), .string (S [60])] 9)) _
  rw [← hW2]
  refine (with9_any (elemNode [97] [textNode [120]]) v2 [[98], [60]] _ W2 (by decide) (by decide) hn2 hst).mono ?_
  rintro e w3 ⟨v3, rfl, hn3, hb3⟩
  have hn4 : NodeV w3 w3.heap.size example9 v3 := hn3.nodeV hb3.size
  have hb4 := hb2.trans (hb3.mono hb2.size)
  clear hW2 hst hb2 hn2 hn3 hb3 HB2 HN2
  have hwr := fun W => fun (hW : Below w3.heap.size w3 W) => write9_any example9 v3 W (by decide +kernel) (by rw [example9_canon]; decide) (HT.out.below (hb4.trans (hW.mono hb4.size)) (Nat.le_refl _)) (hn4.keep hW.block hW.size)
  have hck := fun W => fun (hW : Below w3.heap.size w3 W) => check9_any example9 v3 W (by decide +kernel) (HT.out.below (hb4.trans (hW.mono hb4.size)) (Nat.le_refl _)) (hn4.keep hW.block hW.size)
  rw [example9_ok] at hwr hck
  have hdoc : outOf example9 true = [60, 63, 120, 109, 108, 32, 118, 101, 114, 115, 105, 111, 110, 61, 34, 49, 46, 48, 34, 32, 101, 110, 99, 111, 100, 105, 110, 103, 61, 34, 85, 84, 70, 45, 56, 34, 63, 62, 10, 60, 97, 32, 98, 61, 34, 38, 108, 116, 59, 34, 62, 120, 60, 47, 97, 62, 10] := by rw [outOf, doc, example9_canon]; rfl
  rw [hdoc] at hwr
  obtain ⟨A4, c4, K4, d4, hv4, _, _, _, _⟩ := hn4.open_
  generalize example9.kind = x1, S example9.space = x2, S example9.name = x3, example9.attrs.length = x4, example9.kids.length = x5, S example9.text = x6, example9.pos = x7 at *
  subst hv4
  have HWR := Lib.hid hwr
  have HCK := Lib.hid hck
  have HB4 := Lib.hid hb4
  clear hwr hck hb4 hn4 hdoc
  go_wp2_with fail
  refine (HWR.out _ ((Below.refl _ _).alloc (Nat.le_refl _) _)).mono ?_
  rintro e w5 ⟨rfl, hb5⟩
  have hbx : w5.heap[w3.heap.size]? = some (.cells #[.int .i64 x1, .string x2, .string x3, .slice A4 x4 c4, .slice K4 x5 d4, .string x6, .int .i64 x7] 25) := (hb5.block w3.heap.size (by simp)).trans (heap_alloc_new w3 _)
  have h35 : Below w3.heap.size w3 w5 := ((Below.refl _ _).alloc (Nat.le_refl _) _).trans (hb5.mono (by simp))
  have HBX := Lib.hid hbx
  have H35 := Lib.hid h35
  have hl5 : w3.heap.size < w5.heap.size := heap_lt hbx
  clear hbx h35 hb5
  go_wp2_with fail
  refine (elem9_any [49, 97] [] _ _ (by decide) ⟨none, 0, rfl, Nat.le_refl _, .inl rfl⟩).mono ?_
  rintro e w6 ⟨v6, rfl, hn6, hb6⟩
  have h36 : Below w3.heap.size w3 w6 := H35.out.trans (hb6.mono (by omega))
  have hwr := write9_any wrong9 v6 w6 (by decide +kernel) (by decide +kernel) (HT.out.below (HB4.out.trans (h36.mono HB4.out.size)) (Nat.le_refl _)) hn6
  rw [wrong9_no] at hwr
  have H36 := Lib.hid h36
  have HWR2 := Lib.hid hwr
  have HBX2 := Lib.hid ((hb6.block _ (by omega)).trans HBX.out)
  clear h36 hwr hn6 hb6
  go_wp2_with fail
  refine HWR2.out.mono ?_
  rintro e w7 ⟨rfl, hb7⟩
  have hl6 := heap_lt HBX2.out
  have HBX3 := Lib.hid ((hb7.block _ hl6).trans HBX2.out)
  have H37 := Lib.hid (H36.out.trans (hb7.mono (by omega)))
  obtain ⟨k0, k1, k2, k3, k4, k5, k6⟩ := cells7 HBX3.out
  clear hb7
  go_wp2_with (go_at_call 11; refine (HCK.out _ H37.out).mono ?_; rintro e w8 ⟨rfl, hb8⟩)
  go_ret
  exact ⟨rfl, HB4.out.trans ((H37.out.trans (hb8.mono H37.out.size)).mono HB4.out.size)⟩
end Go.Proofs.YthilaolkkamedaaDoor
set_option linter.unusedVariables false
namespace Go.Proofs.YthilaolkkamedaaDoor
open Go.RowKit

set_option maxHeartbeats 1000000 in
set_option maxRecDepth 100000 in
theorem refChars_any (l : Bytes) (w : World) (hl : l.length ≤ 4611686018427387904) :
    Calls Tryd.prog 37 #[.string (S l)] w fun e w' => e = .returned (.bool (charsOk l)) ∧ Below w.heap.size w w' := by
  have hc := refCheck_any l w hl
  have he : charsOk l = ((((check l).2 : Nat) : Int) == 0) := by unfold charsOk; rw [Bool.eq_iff_iff]; simp
  rw [he]
  generalize check l = c at *
  obtain ⟨c1, c2⟩ := c
  have HC := Lib.hid hc
  clear hc he
  go_enter Tryd.func37, Tryd.ntmps37
  go_wp2_with (go_at_call 42; refine HC.out.mono ?_; rintro e w' ⟨rfl, hb⟩)
  go_ret
  exact ⟨rfl, hb⟩

set_option maxHeartbeats 4000000 in
set_option maxRecDepth 100000 in
theorem refNode_text (n : Node) (v : Value) (w : World) (hk : n.kind = 1) (hs : full n ≤ 1000000) (hv : NodeV w w.heap.size n v) :
    Calls Tryd.prog 26 #[v] w fun e w' => e = .returned (.string (S (canon n))) ∧ Below w.heap.size w w' := by
  obtain ⟨A, cap, K, kcap, rfl, ha, hkk, hcap, hkcap⟩ := hv.open_
  have hp := (parts n hs).text
  rw [canon_text hk]
  have t : (n.kind == 1) = true := by rw [hk]; rfl
  have hes := fun W => refEscape_any false n.text W (by omega)
  have HES := Lib.hid hes
  generalize esc false n.text = E at *
  clear hk hs hv ha hkk hp hes
  go_enter Tryd.func26, Tryd.ntmps26
  go_wp2_with (go_at_call 33; refine (HES.out _).mono ?_; rintro e w1 ⟨rfl, hb1⟩)
  go_ret
  exact ⟨rfl, ((Below.refl _ _).alloc (Nat.le_refl _) _).trans (hb1.mono (by simp))⟩

set_option maxHeartbeats 4000000 in
set_option maxRecDepth 100000 in
theorem refNode_any (m : Nat) : ∀ (n : Node) (v : Value) (w : World), nsz n ≤ m → full n ≤ 1000000 → NodeV w w.heap.size n v → (canon n).length ≤ 140737488355000 →
    Calls Tryd.prog 26 #[v] w fun e w' => e = .returned (.string (S (canon n))) ∧ Below w.heap.size w w' := by
  induction m with
  | zero => intro n v w h; cases n; rw [nsz] at h; omega
  | succ m ih =>
    intro n v w hm hs hv hl
    by_cases h1 : n.kind = 1
    · exact refNode_text n v w h1 hs hv
    obtain ⟨A, cap, K, kcap, rfl, ha, hk, hcap, hkcap⟩ := hv.open_
    have hp := parts n hs
    have hge := fun (i : Nat) (h : i < n.kids.length) => nsz_get n h
    have hcan := canon_elem h1
    have t : (n.kind == 1) = false := by rw [beq_eq_false_iff_ne]; exact h1
    have hkl : n.kids.length < 1000000 := hp.kids
    have hal : n.attrs.length < 1000000 := hp.attrs
    have hnl : n.name.length < 1000000 := hp.name
    generalize hT : canon n = T at *
    clear hT
    have HIH := Lib.hid ih
    have HA := Lib.hid ha
    have HK := Lib.hid hk
    have HM := Lib.hid hm
    have HP := Lib.hid hp
    have HGE := Lib.hid hge
    have hst1 : ([60] ++ n.name) ++ (attsC (n.attrs.drop 0) ++ (if n.kids.length = 0 then [47, 62] else [62] ++ canonL n.kids ++ [60, 47] ++ n.name ++ [62])) = T := by rw [hcan, List.drop_zero]; simp only [List.append_assoc]
    generalize hZ : (if n.kids.length = 0 then [47, 62] else [62] ++ canonL n.kids ++ [60, 47] ++ n.name ++ [62]) = Z at *
    obtain ⟨L0, e0⟩ : ∃ L0 : Bytes, L0 = [60] ++ n.name := ⟨_, rfl⟩
    rw [← e0] at hst1
    have g0 : ∀ W : World, (Op.stringOp .add ⟨#[60]⟩ (S n.name)).run Tryd.prog W = .ok (.string (S L0)) W := run_cat [60] n.name L0 e0 (by simp only [List.length_cons, List.length_nil]; omega)
    have HST1 := Lib.hid hst1
    have HZ := Lib.hid hZ
    have hb0 := heap_alloc_new w (nodeBox n A cap K kcap)
    have HB0 := Lib.hid hb0
    clear ih ha hk hm hp hge hst1 hZ hv hs h1 hcan e0 hb0
    go_enter Tryd.func26, Tryd.ntmps26
    go_wp2_with fail
    clear g0
    go_loopw [3, 4] (fun s3 i4 wr => ∃ (i : Nat) (Y : Bytes), i ≤ n.attrs.length ∧ i4 = .int .i64 i ∧ s3 = .string (S Y) ∧ Y ++ (attsC (n.attrs.drop i) ++ Z) = T ∧ Below w.heap.size w wr ∧ wr.heap[w.heap.size]? = some (nodeBox n A cap K kcap)) (fun _ i4 _ => n.attrs.length - (intOf i4).toNat)
    case atStart => exact ⟨0, L0, Nat.zero_le _, rfl, rfl, HST1.out, (Below.refl _ _).alloc (Nat.le_refl _) _, HB0.out⟩
    case round =>
      obtain ⟨i, Y, hi, rfl, rfl, hY, hb, hbox⟩ := hrel
      have hszx : w.heap.size < wr.heap.size := (Array.getElem?_eq_some_iff.1 hbox).1
      have HB := Lib.hid hb
      have HBX := Lib.hid hbox
      have HY := Lib.hid hY
      have c3 := (box_cells hbox).2.2.2.1
      clear HST1 HB0
      by_cases hlt : i < n.attrs.length
      · obtain ⟨bb, off, hAA, hbb, hr⟩ := HA.out.at_ hlt
        subst hAA
        have hr' : wr.rangeAt bb (off + i * 4) (attCells n.attrs[i]) := rangeAt_keep hr (HB.out.block bb hbb)
        have hav : n.attrs[i].value.length < 1000000 ∧ n.attrs[i].name.length < 1000000 := by have := HP.out.att n.attrs[i] (List.getElem_mem hlt); omega
        have hstep := attsC_step hlt
        rw [hstep] at hY
        generalize n.attrs[i] = a at *
        obtain ⟨hav1, hav2⟩ := hav
        have hes := fun W => refEscape_any true a.value W (by omega)
        have hes6 := esc_len true a.value
        have hY2 : (Y ++ attC a) ++ (attsC (n.attrs.drop (i + 1)) ++ Z) = T := by rw [← hY]; simp only [List.append_assoc]
        have hl2 : Y.length + (attC a).length ≤ 140737488355000 := by rw [← hY2] at hl; simp only [List.length_append] at hl ⊢; omega
        have d1 : wr.cell? ⟨bb, off + i * 4 + 1, none⟩ = some (.string (S a.name)) := hr' 1 _ rfl
        have d2 : wr.cell? ⟨bb, off + i * 4 + 2, none⟩ = some (.string (S a.value)) := hr' 2 _ rfl
        unfold attC at hl2
        have HY2 := Lib.hid hY2
        have HES := Lib.hid hes
        clear hr hr' hY hY2 hes hstep hb hbox HY
        generalize hE : esc true a.value = E at *
        have HE := Lib.hid hE
        clear hE
        simp only [List.length_append] at hl2
        obtain ⟨L1, e1⟩ : ∃ L1 : Bytes, L1 = [32] ++ a.name := ⟨_, rfl⟩
        obtain ⟨L2, e2⟩ : ∃ L2 : Bytes, L2 = L1 ++ [61, 34] := ⟨_, rfl⟩
        obtain ⟨L3, e3⟩ : ∃ L3 : Bytes, L3 = L2 ++ E := ⟨_, rfl⟩
        obtain ⟨L4, e4⟩ : ∃ L4 : Bytes, L4 = L3 ++ [34] := ⟨_, rfl⟩
        obtain ⟨L5, e5⟩ : ∃ L5 : Bytes, L5 = Y ++ L4 := ⟨_, rfl⟩
        have g1 : ∀ W : World, (Op.stringOp .add ⟨#[32]⟩ (S a.name)).run Tryd.prog W = .ok (.string (S L1)) W := run_cat [32] a.name L1 e1 (by simp only [List.length_cons, List.length_nil]; omega)
        have g2 : ∀ W : World, (Op.stringOp .add (S L1) ⟨#[61, 34]⟩).run Tryd.prog W = .ok (.string (S L2)) W := run_cat L1 [61, 34] L2 e2 (by rw [e1]; simp only [List.length_append, List.length_cons, List.length_nil]; omega)
        have g3 : ∀ W : World, (Op.stringOp .add (S L2) (S E)).run Tryd.prog W = .ok (.string (S L3)) W := run_cat L2 E L3 e3 (by rw [e2, e1]; simp only [List.length_append, List.length_cons, List.length_nil]; omega)
        have g4 : ∀ W : World, (Op.stringOp .add (S L3) ⟨#[34]⟩).run Tryd.prog W = .ok (.string (S L4)) W := run_cat L3 [34] L4 e4 (by rw [e3, e2, e1]; simp only [List.length_append, List.length_cons, List.length_nil]; omega)
        have g5 : ∀ W : World, (Op.stringOp .add (S Y) (S L4)).run Tryd.prog W = .ok (.string (S L5)) W := run_cat Y L4 L5 e5 (by rw [e4, e3, e2, e1]; simp only [List.length_append, List.length_cons, List.length_nil]; simp only [List.length_cons, List.length_nil] at hl2; omega)
        have hL4 : L5 = Y ++ ([32] ++ a.name ++ [61, 34] ++ E ++ [34]) := by rw [e5, e4, e3, e2, e1]
        have HL4 := Lib.hid hL4
        clear hL4 e1 e2 e3 e4 e5 hl2
        have hlt' : (i : Int) < n.attrs.length := by omega
        go_wp2_with fail
        go_region_held3 (fun x => x.cell? ⟨w.heap.size, 3, none⟩ = some (.slice (some ⟨bb, off, none⟩) n.attrs.length cap) ∧ x.cell? ⟨bb, off + i * 4 + 1, none⟩ = some (.string (S a.name)) ∧ x.cell? ⟨bb, off + i * 4 + 2, none⟩ = some (.string (S a.value)))
          (first | exact ⟨c3, d1, d2⟩ | exact ⟨k3, k1, k2⟩)
          (first
            | ((go_at_call 33; refine (HES.out _).mono ?_; rintro e w2 ⟨rfl, hb2⟩; have k3 := (hb2.cell (p := ⟨w.heap.size, 3, none⟩) (show w.heap.size < wr.heap.size from hszx)).trans c3; have k1 := (hb2.cell (p := ⟨bb, off + i * 4 + 1, none⟩) (show bb < wr.heap.size by omega)).trans d1; have k2 := (hb2.cell (p := ⟨bb, off + i * 4 + 2, none⟩) (show bb < wr.heap.size by omega)).trans d2)))
        have HB2 := Lib.hid hb2
        have hsz2 : wr.heap.size ≤ w2.heap.size := by simpa using hb2.size
        clear hb2 k1 k2 k3 c3 d1 d2 g1 g2 g3 g4 g5
        go_wp2_with fail
        go_roundw
        case rel =>
          refine ⟨i + 1, L5, by omega, by go_num, rfl, ?_, HB.out.drew.trans (HB2.out.mono (Nat.le_of_lt hszx)), (HB2.out.block w.heap.size (by simp; omega)).trans HBX.out⟩
          rw [HL4.out, ← HE.out]
          exact HY2.out
        case measure => simp [intOf]; omega
      · obtain rfl : i = n.attrs.length := by omega
        rw [List.drop_length] at hY
        have hY2 : Y ++ Z = T := by rw [← hY]; rfl
        have hYl : Y.length ≤ 140737488355000 := by rw [← hY2, List.length_append] at hl; omega
        have HY2 := Lib.hid hY2
        have c4 := (box_cells hbox).2.2.2.2.1
        have c2 := (box_cells hbox).2.2.1
        clear hY HY hY2 hb hbox
        by_cases hk0 : n.kids.length = 0
        · have hZ := HZ.out
          rw [if_pos hk0] at hZ
          have hk1 : (((n.kids.length : Nat) : Int) == 0) = true := by rw [hk0]; rfl
          have g1 : ∀ W : World, (Op.stringOp .add (S Y) ⟨#[47, 62]⟩).run Tryd.prog W = .ok (.string (S T)) W := run_cat Y [47, 62] T (by rw [← HY2.out, hZ]) (by simp only [List.length_cons, List.length_nil]; omega)
          clear hZ hk0
          go_wp2_with fail
          go_ret
          exact ⟨rfl, HB.out⟩
        · have hZ := HZ.out
          rw [if_neg hk0] at hZ
          have hk1 : (((n.kids.length : Nat) : Int) == 0) = false := by rw [beq_eq_false_iff_ne]; omega
          obtain ⟨M0, e0⟩ : ∃ M0 : Bytes, M0 = Y ++ [62] := ⟨_, rfl⟩
          have g1 : ∀ W : World, (Op.stringOp .add (S Y) ⟨#[62]⟩).run Tryd.prog W = .ok (.string (S M0)) W := run_cat Y [62] M0 e0 (by simp only [List.length_cons, List.length_nil]; omega)
          have hst2 : M0 ++ (canonL (n.kids.drop 0) ++ ([60, 47] ++ n.name ++ [62])) = T := by rw [← HY2.out, ← hZ, List.drop_zero, e0]; simp only [List.append_assoc]
          have HST2 := Lib.hid hst2
          clear hZ hk0 HZ e0 hst2 HY2
          go_wp2_with fail
          clear g1
          obtain ⟨wo, rfl⟩ : ∃ wo : World, wo = wr := ⟨_, rfl⟩
          go_loopw [3, 5] (fun s3 i5 wr => ∃ (i : Nat) (Y : Bytes), i ≤ n.kids.length ∧ i5 = .int .i64 i ∧ s3 = .string (S Y) ∧ Y ++ (canonL (n.kids.drop i) ++ ([60, 47] ++ n.name ++ [62])) = T ∧ Below w.heap.size w wr ∧ wr.heap[w.heap.size]? = some (nodeBox n A cap K kcap)) (fun _ i5 _ => n.kids.length - (intOf i5).toNat)
          case atStart => exact ⟨0, M0, Nat.zero_le _, rfl, rfl, HST2.out, HB.out, HBX.out⟩
          case round =>
            obtain ⟨i, Y, hi, rfl, rfl, hY, hb, hbox⟩ := hrel
            clear HST2 HB HBX hlt c2 c4 hYl
            have hszx2 : w.heap.size < wr.heap.size := (Array.getElem?_eq_some_iff.1 hbox).1
            have HB := Lib.hid hb
            have HBX := Lib.hid hbox
            have HY := Lib.hid hY
            have c4 := (box_cells hbox).2.2.2.2.1
            have c2 := (box_cells hbox).2.2.1
            by_cases hlt : i < n.kids.length
            · obtain ⟨bb, off, cs, hKK, hbb, hr, hcs⟩ := HK.out.at_ hlt
              subst hKK
              have hr' : wr.rangeAt bb (off + i * 7) cs := rangeAt_keep hr (HB.out.block bb hbb)
              have hnv : NodeV w w.heap.size n.kids[i] (.agg cs.toArray) := ⟨cs, rfl, hcs⟩
              have hfk : full n.kids[i] ≤ 1000000 := by have := HP.out.kid n.kids[i] (List.getElem_mem hlt); omega
              have hsn : nsz n.kids[i] ≤ m := by have := HGE.out i hlt; have := HM.out; omega
              have hstep := canonL_step hlt
              rw [hstep] at hY
              generalize n.kids[i] = kid at *
              have hY2 : (Y ++ canon kid) ++ (canonL (n.kids.drop (i + 1)) ++ ([60, 47] ++ n.name ++ [62])) = T := by rw [← hY]; simp only [List.append_assoc]
              have hl2 : Y.length + (canon kid).length ≤ 140737488355000 := by rw [← hY2] at hl; simp only [List.length_append] at hl; omega
              have hcall := HIH.out kid (.agg cs.toArray) wr hsn hfk (hnv.keep hb.block hb.size) (by omega)
              obtain ⟨A', c', K', d', rfl, _, _, _, _⟩ := hcs.open_
              generalize canon kid = N at *
              obtain ⟨L5, e5⟩ : ∃ L5 : Bytes, L5 = Y ++ N := ⟨_, rfl⟩
              have g5 : ∀ W : World, (Op.stringOp .add (S Y) (S N)).run Tryd.prog W = .ok (.string (S L5)) W := run_cat Y N L5 e5 (by omega)
              rw [← e5] at hY2
              have HC := Lib.hid hcall
              have HY2 := Lib.hid hY2
              have HRR := Lib.hid hr'
              have hlt' : (i : Int) < n.kids.length := by omega
              clear hr hr' hcs hnv hfk hsn hstep hY hY2 hcall hb hbox HY c2 e5
              go_wp2_with (first
                | (with_reducible refine gate ?_; refine wp_load_node rfl _ rfl bb (off + i * 7) rfl _ rfl HRR.out ?_)
                | (go_at_call 26; refine HC.out.mono ?_; rintro e w3 ⟨rfl, hb3⟩))
              have HB3 := Lib.hid hb3
              clear hb3
              go_roundw
              case rel => exact ⟨i + 1, L5, by omega, by go_num, rfl, HY2.out, HB.out.trans (HB3.out.mono (by omega)), (HB3.out.block w.heap.size (by omega)).trans HBX.out⟩
              case measure => simp [intOf]; omega
            · obtain rfl : i = n.kids.length := by omega
              rw [List.drop_length] at hY
              have hY2 : Y ++ ([60, 47] ++ n.name ++ [62]) = T := by rw [← hY]; rfl
              have hl2 := hl
              rw [← hY2] at hl2
              simp only [List.length_append, List.length_cons, List.length_nil] at hl2
              obtain ⟨L1, e1⟩ : ∃ L1 : Bytes, L1 = Y ++ [60, 47] := ⟨_, rfl⟩
              obtain ⟨L2, e2⟩ : ∃ L2 : Bytes, L2 = L1 ++ n.name := ⟨_, rfl⟩
              have g1 : ∀ W : World, (Op.stringOp .add (S Y) ⟨#[60, 47]⟩).run Tryd.prog W = .ok (.string (S L1)) W := run_cat Y [60, 47] L1 e1 (by simp only [List.length_cons, List.length_nil]; omega)
              have g2 : ∀ W : World, (Op.stringOp .add (S L1) (S n.name)).run Tryd.prog W = .ok (.string (S L2)) W := run_cat L1 n.name L2 e2 (by rw [e1]; simp only [List.length_append, List.length_cons, List.length_nil]; omega)
              have g3 : ∀ W : World, (Op.stringOp .add (S L2) ⟨#[62]⟩).run Tryd.prog W = .ok (.string (S T)) W := run_cat L2 [62] T (by rw [← hY2, e2, e1]; simp only [List.append_assoc]) (by rw [e2, e1]; simp only [List.length_append, List.length_cons, List.length_nil]; omega)
              clear e1 e2 hY hY2 HY hl2
              go_wp2_with fail
              go_ret
              exact ⟨rfl, hb⟩
end Go.Proofs.YthilaolkkamedaaDoor
