/-
  Walk of chapter 6: the reference's Tokens.
-/
import Derived.Test.YthbfahbjfioghaaGreatDoorTokR6
set_option linter.unusedVariables false
namespace Go.Proofs.YthbfahbjfioghaaGreatDoor
open Go.RowKit

/-- What Tokens returns: a row of tokens of its own (over the type T), all in blocks from B on. -/
def ToksRes (T : TypeId) (B : Nat) (w' : World) (r : List Tok × Nat × Nat) (e : Ending) : Prop :=
  ∃ v, e = .returned (.tuple #[v, .int .i64 r.2.1, .int .i64 r.2.2]) ∧ TokRow T w' B (fun b => B ≤ b ∧ b < w'.heap.size ∧ v.ownBlock ≠ some b) v r.1
theorem ToksRes.none {T : TypeId} {B : Nat} {w' : World} {x y : Nat} : ToksRes T B w' ([], x, y) (.returned (.tuple #[.slice .none 0 0, .int .i64 x, .int .i64 y])) := ⟨_, rfl, TokRow.nil _ _ _ _⟩
theorem consAt_err {l : Bytes} {a : Nat} {q : Nat × Nat} (h : consAt l a = .error q) : q.2 ≠ 0 := by
  have hm : ∀ a x, (missing l a x).2 ≠ 0 := fun a x => by unfold missing; split <;> simp
  have hsk : ∀ {k : Nat} {s : Bytes} {q : Nat × Nat}, skipAt l a k s = .error q → q.2 ≠ 0 := by
    intro k s q h
    unfold skipAt at h
    split at h
    · cases h; simp
    · cases h
  have hsm : ∀ {k : Nat} {s : Bytes} {g : Nat → Tok × Nat}, (skipAt l a k s).map g = .error q → q.2 ≠ 0 := by
    intro k s g h
    cases hq : skipAt l a k s with
    | error y => rw [hq] at h; cases h; exact hsk hq
    | ok y => rw [hq] at h; cases h
  have htg : ∀ (f n : Nat) (bs : List Att) (q : Nat × Nat), tagF l a (f + (l.length + 1 - n)) n bs = .error q → n ≤ l.length → q.2 ≠ 0 := by
    intro f n
    induction h : l.length + 1 - n using Nat.strongRecOn generalizing n f with
    | _ m ih =>
      intro bs q hq hn
      obtain ⟨m', rfl⟩ : ∃ m', m = m' + 1 := ⟨m - 1, by omega⟩
      rw [show f + (m' + 1) = (f + m') + 1 by omega, tagF] at hq
      have s1 := spEnd_ge l n
      have s2 := spEnd_le hn
      split at hq
      · cases hq
      · split at hq
        · cases hq
        · split at hq
          · cases hq; exact hm _ _
          · split at hq
            · cases hq; exact hm _ _
            · cases hat : attAt l a (spEnd l n) with
              | error y => rw [hat] at hq; cases hq; exact attAt_err hat
              | ok p =>
                obtain ⟨b, e⟩ := p
                rw [hat] at hq
                have hok := attAt_ok s2 hat
                simp only at hq
                split at hq
                · cases hq; simp
                · exact ih (l.length + 1 - e) (by omega) (f + m' - (l.length + 1 - e)) e rfl _ q (by rw [show f + m' - (l.length + 1 - e) + (l.length + 1 - e) = f + m' by omega]; exact hq) hok.2.1
  unfold consAt at h
  split at h
  · exact hsm h
  · split at h
    · exact hsm h
    · split at h
      · exact hsm h
      · split at h
        · cases h; simp
        · split at h
          · cases h; simp
          · split at h
            · unfold endAt at h
              split at h
              · cases h; exact hm _ _
              · split at h
                · cases h
                · cases h; exact hm _ _
            · split at h
              · unfold startAt at h
                have hk := nameLen_le (l.drop (a + 1))
                rw [List.length_drop] at hk
                split at h
                · cases h; exact hm _ _
                · rename_i hk0
                  unfold tagS at h
                  cases ht : tagF l a (l.length + 1) (a + 1 + nameLen (l.drop (a + 1))) [] with
                  | error y =>
                    rw [ht] at h
                    cases h
                    exact htg (a + 1 + nameLen (l.drop (a + 1))) _ [] q (by rw [show a + 1 + nameLen (l.drop (a + 1)) + (l.length + 1 - (a + 1 + nameLen (l.drop (a + 1)))) = l.length + 1 by omega]; exact ht) (by omega)
                  | ok p => rw [ht] at h; cases h
              · split at h
                · cases h; simp
                · cases h

set_option maxHeartbeats 4000000 in
set_option maxRecDepth 100000 in
theorem refTokens_any (l : Bytes) (w : World) (hl : l.length ≤ 100000000000) :
    Calls Tryz.prog 16 #[.string (S l)] w fun e w' => ToksRes 43 w.heap.size w' (toks l) e ∧ Below w.heap.size w w' := by
  obtain ⟨R, hR⟩ : ∃ R, toks l = R := ⟨_, rfl⟩
  rw [hR]
  unfold toks at hR
  have c1 := fun w => refCheck_any l w (by omega)
  by_cases hch : (check l).2 = 0
  · rw [if_neg (by simp [hch])] at hR
    have t6 : (((check l).2 : Int) == 0) = true := by rw [hch]; rfl
    have t7 : (((check l).2 : Int) != 0) = false := by rw [bne, t6]; rfl
    have d1 : ∀ w, Calls Tryz.prog 43 #[.string (S l), .int .i64 0, .string ⟨#[239, 187, 191]⟩] w fun e w' => e = .returned (.bool (hasAt l 0 sBom)) ∧ w = w' := fun w => refHas_any l 0 sBom w (by omega) (by omega) (by decide) (by simp [sBom])
    have hz0 : (if hasAt l 0 sBom = true then 3 else 0) ≤ l.length := by
      split
      · rename_i h
        have := hasAt_le h
        simp [sBom] at this; omega
      · omega
    obtain ⟨X, hX⟩ : ∃ X, tokS l (if hasAt l 0 sBom = true then 3 else 0) [] = X := ⟨_, rfl⟩
    rw [hX] at hR
    unfold tokS at hX
    have C1 := Lib.hid c1
    have HR := Lib.hid hR
    clear c1 hR hch
    have HS : ∃ (b : Bool) (z : Nat), hasAt l 0 sBom = b ∧ (b = true ∧ z = 3 ∨ b = false ∧ z = 0) ∧ z ≤ l.length ∧ tokF l (l.length + 1) z [] = X := by
      cases h : hasAt l 0 sBom
      · rw [h] at hX; exact ⟨_, 0, rfl, .inr ⟨rfl, rfl⟩, by omega, hX⟩
      · rw [h] at hX hz0; exact ⟨_, 3, rfl, .inl ⟨rfl, rfl⟩, hz0, hX⟩
    clear hX hz0
    obtain ⟨b, z0, hb, hbz, hz0, hX⟩ := HS
    rw [hb] at d1
    have D1 := Lib.hid d1
    have HX := Lib.hid hX
    clear d1 hb hX
    rcases hbz with ⟨rfl, rfl⟩ | ⟨rfl, rfl⟩
    all_goals
      go_enter Tryz.func16, Tryz.ntmps16
      go_wp2_with fail
      refine (C1.out _).mono ?_
      rintro e w1 ⟨rfl, hb1⟩
      have HB1 := Lib.hid hb1
      clear hb1
      go_wp2_with (go_at_call 43; refine (D1.out _).mono ?_; rintro e w' ⟨rfl, rfl⟩)
      go_loopw [5, 7] (fun i5 v7 wr => ∃ (z f : Nat) (ts : List Tok) (A : Option Addr) (c : Nat), z ≤ l.length ∧ l.length < z + f ∧ i5 = .int .i64 z ∧ v7 = .slice A ts.length c ∧ ts.length ≤ z ∧ tokF l f z ts = X ∧ TokRow 43 wr w.heap.size (fun b => w.heap.size ≤ b ∧ b < wr.heap.size ∧ (Value.slice A ts.length c).ownBlock ≠ some b) (.slice A ts.length c) ts ∧ Below w.heap.size w wr) (fun i5 _ _ => l.length - (intOf i5).toNat)
      case atStart => exact ⟨_, l.length + 1, [], none, 0, hz0, by omega, rfl, rfl, by simp, HX.out, TokRow.nil _ _ _ _, HB1.out⟩
      case round =>
        clear HB1 HX D1 C1 hz0
        obtain ⟨z, f, ts, A, c, hz, hzf, rfl, rfl, htl, htk, hrow, hB⟩ := hrel
        obtain ⟨f, rfl⟩ : ∃ g, f = g + 1 := ⟨f - 1, by omega⟩
        rw [tokF] at htk
        have HROW := Lib.hid hrow
        have HB := Lib.hid hB
        have hsz := hB.size
        clear hrow hB
        by_cases hlt : z < l.length
        · rw [if_pos hlt] at htk
          have hlt' : (z : Int) < l.length := by omega
          have c2 := fun w => refCons_any l z w hlt hl
          cases hc : consAt l z with
          | error q =>
            have hq := consAt_err hc
            have t8 : ((q.2 : Int) == 0) = false := by rw [beq_eq_false_iff_ne]; omega
            have t9 : ((q.2 : Int) != 0) = true := by rw [bne, t8]; rfl
            rw [hc] at c2 htk
            simp only at htk
            have hr := HR.out
            rw [← htk] at hr
            simp only at hr
            have HRR := Lib.hid hr
            have C2 := Lib.hid c2
            clear c2 htk hr hc hq HR
            go_wp2_with fail
            refine (C2.out _).mono ?_
            rintro e w5 ⟨⟨t, A5, c5, rfl⟩, hb5⟩
            have HB5 := Lib.hid ((HB.out.trans (hb5.mono hsz)).alloc (by have := hb5.size; omega) (.cells (tokCells t A5 c5) 43))
            clear hb5
            go_wp2_with fail
            go_ret3
            exact ⟨by rw [← HRR.out]; exact ToksRes.none, HB5.out⟩
          | ok p =>
            obtain ⟨t, k⟩ := p
            have hk := consAt_ok hlt hc
            rw [hc] at c2 htk
            simp only at htk
            have HTK := Lib.hid htk
            have C2 := Lib.hid c2
            clear c2 htk hc
            go_wp2_with fail
            refine (C2.out _).mono ?_
            rintro e w5 ⟨ht, hb5⟩
            unfold TokRes at ht
            simp only at ht
            obtain ⟨A5, c5, rfl, hatt⟩ := ht
            have hlt5 := hb5.size
            have HB6 := Lib.hid ((HB.out.trans (hb5.mono hsz)).alloc (by omega) (.cells (tokCells t A5 c5) 43))
            have hg6 := heap_alloc_new w5 (.cells (tokCells t A5 c5) 43)
            have hs6 : (w5.alloc (.cells (tokCells t A5 c5) 43)).heap.size = w5.heap.size + 1 := by simp
            have hal : Below w5.heap.size w5 (w5.alloc (.cells (tokCells t A5 c5) 43)) := (Below.refl _ _).alloc (Nat.le_refl _) _
            have hown := HROW.out.lt
            have RW6 : TokRow 43 (w5.alloc (.cells (tokCells t A5 c5) 43)) w.heap.size (fun b => w.heap.size ≤ b ∧ b < w5.heap.size ∧ (Value.slice A ts.length c).ownBlock ≠ some b) (.slice A ts.length c) ts :=
              (((HROW.out.below hb5 (fun b hb => hb.2.1)).more (fun b hb => ⟨hb.1, by have := hb.2.1; omega, hb.2.2⟩)).below hal (fun b hb => hb.2.1))
            have hat6 : TokP (w5.alloc (.cells (tokCells t A5 c5) 43)) (fun b => w.heap.size ≤ b ∧ b < w5.heap.size ∧ (Value.slice A ts.length c).ownBlock ≠ some b) t [.int .i64 t.kind, .string (S t.name), .slice A5 t.attrs.length c5, .bool t.empty, .string (S t.text), .int .i64 t.pos] :=
              ⟨_, rfl, hatt.keep (fun b hb => hal.block b hb.2) (fun b hb => ⟨by have := hb.1; omega, hb.2, fun e => by have := hown b e; have := hb.1; omega⟩)⟩
            clear hb5 hatt hal
            obtain ⟨q0, q1, q2, q3, q4, q5⟩ := cells6 hg6
            have hra : (w5.alloc (.cells (tokCells t A5 c5) 43)).rangeAt w5.heap.size 0 [.int .i64 t.kind, .string (S t.name), .slice A5 t.attrs.length c5, .bool t.empty, .string (S t.text), .int .i64 t.pos] := range_of_heap hg6
            have HR6 := Lib.hid RW6
            have HT6 := Lib.hid hat6
            have HOWN := Lib.hid hown
            clear RW6 hat6 hg6 hown C2 HROW HB q1 q2 q3 q5
            have F1 : Hid (∀ (g' c' : Nat) (w' : World), ((Value.slice A ts.length c).ownBlock = some g' ∨ (w5.alloc (.cells (tokCells t A5 c5) 43)).heap.size ≤ g') → g' < w'.heap.size → TokRow 43 w' w.heap.size (fun b => w.heap.size ≤ b ∧ b < w5.heap.size ∧ (Value.slice A ts.length c).ownBlock ≠ some b) (.slice (some ⟨g', 0, none⟩) (ts.length + 1) c') (ts ++ [t]) → Grew (w5.alloc (.cells (tokCells t A5 c5) 43)) (.slice A ts.length c) (.slice (some ⟨g', 0, none⟩) (ts.length + 1) c') w' → Below w.heap.size (w5.alloc (.cells (tokCells t A5 c5) 43)) w' →
                TokRow 43 w' w.heap.size (fun b => w.heap.size ≤ b ∧ b < w'.heap.size ∧ (Value.slice (some ⟨g', 0, none⟩) (ts ++ [t]).length c').ownBlock ≠ some b) (.slice (some ⟨g', 0, none⟩) (ts ++ [t]).length c') (ts ++ [t]) ∧ Below w.heap.size w w') := by
              intro g' c' w' r1 r2 r3 r4 r5
              have hz6 := r5.size
              rw [show (ts ++ [t]).length = ts.length + 1 by simp]
              refine ⟨r3.more fun b hb => ⟨hb.1, by have := hb.2.1; omega, ?_⟩, HB6.out.trans r5⟩
              intro e
              simp only [Value.ownBlock, Option.some.injEq] at e
              rcases r1 with r1 | r1
              · exact hb.2.2 (by rw [r1, e])
              · have := hb.2.1; omega
            by_cases hkeep : keepTok t = true
            · have htk := HTK.out
              rw [if_pos hkeep] at htk
              have HTN := Lib.hid htk
              have hk2 : ((t.kind == 3) = false) ∨ ((t.kind == 3) = true ∧ (t.text == []) = false ∧ t.text.isEmpty = false) := by
                unfold keepTok at hkeep
                cases h1 : (t.kind == 3)
                · exact .inl rfl
                · right
                  refine ⟨rfl, ?_⟩
                  have h2 : (t.kind != 3) = false := by rw [bne, h1]; rfl
                  rw [h2, Bool.false_or] at hkeep
                  cases h3 : t.text with
                  | nil => rw [h3] at hkeep; exact absurd hkeep (by decide)
                  | cons x y => exact ⟨rfl, rfl⟩
              have hts : ts.length < 1000000000000 := by omega
              clear hkeep htk
              rcases hk2 with t1 | ⟨t1, t2, t3⟩
              · have t1' : (t.kind != 3) = true := by rw [bne, t1]; rfl
                go_wp2_with (first
                  | (with_reducible refine gate ?_; refine wp_load_tok refTokTy rfl _ rfl w5.heap.size 0 rfl _ rfl hra ?_)
                  | (at_builtin; refine toks_append refTokTy rfl _ _ rfl (w5.alloc (.cells (tokCells t A5 c5) 43)) w.heap.size _ (.slice A ts.length c) ts rfl HR6.out t _ (w5.heap.size + 1) (by simp) rfl HT6.out (fun b hb => hb.2.2) (fun b hb => by have := hb.2.1; omega) (by omega) hts ?_; intro g' c' w6 r1 r2 r3 r4 r5; obtain ⟨f1, f2⟩ := F1.out g' c' w6 r1 r2 r3 r4 r5))
                go_roundw
                case rel => exact ⟨k, f, ts ++ [t], some ⟨g', 0, none⟩, c', hk.2, by omega, rfl, by simp, by simp; omega, HTN.out, f1, f2⟩
                case measure => simp [intOf]; omega
              · have t1' : (t.kind != 3) = false := by rw [bne, t1]; rfl
                go_wp2_with (first
                  | (with_reducible refine gate ?_; refine wp_load_tok refTokTy rfl _ rfl w5.heap.size 0 rfl _ rfl hra ?_)
                  | (at_builtin; refine toks_append refTokTy rfl _ _ rfl (w5.alloc (.cells (tokCells t A5 c5) 43)) w.heap.size _ (.slice A ts.length c) ts rfl HR6.out t _ (w5.heap.size + 1) (by simp) rfl HT6.out (fun b hb => hb.2.2) (fun b hb => by have := hb.2.1; omega) (by omega) hts ?_; intro g' c' w6 r1 r2 r3 r4 r5; obtain ⟨f1, f2⟩ := F1.out g' c' w6 r1 r2 r3 r4 r5))
                go_roundw
                case rel => exact ⟨k, f, ts ++ [t], some ⟨g', 0, none⟩, c', hk.2, by omega, rfl, by simp, by simp; omega, HTN.out, f1, f2⟩
                case measure => simp [intOf]; omega
            · have htk := HTK.out
              rw [if_neg hkeep] at htk
              have HTN := Lib.hid htk
              have hk2 : (t.kind == 3) = true ∧ t.text = [] := by
                unfold keepTok at hkeep
                cases h1 : (t.kind == 3)
                · have h2 : (t.kind != 3) = true := by rw [bne, h1]; rfl
                  rw [h2] at hkeep; exact absurd rfl hkeep
                · refine ⟨rfl, ?_⟩
                  cases h3 : t.text with
                  | nil => rfl
                  | cons x y => rw [h3] at hkeep; exact absurd (by simp) hkeep
              obtain ⟨t1, t2⟩ := hk2
              have t1' : (t.kind != 3) = false := by rw [bne, t1]; rfl
              have HTX := Lib.hid t2
              rw [t2] at q4
              clear hkeep htk t2
              go_wp2_with fail
              go_roundw
              case rel => exact ⟨k, f, ts, A, c, hk.2, by omega, rfl, rfl, by omega, HTN.out, HR6.out.more (fun b hb => ⟨hb.1, by have := hb.2.1; simp; omega, hb.2.2⟩), HB6.out⟩
              case measure => simp [intOf]; omega
        · rw [if_neg hlt] at htk
          have hlt' : ¬ (z : Int) < l.length := by omega
          have hr := HR.out
          rw [← htk] at hr
          simp only at hr
          have HRR := Lib.hid hr
          clear htk hr HR
          go_wp2_with fail
          go_ret3
          exact ⟨by rw [← HRR.out]; exact ⟨_, rfl, HROW.out⟩, HB.out⟩
  · rw [if_pos hch] at hR
    have t6 : (((check l).2 : Int) == 0) = false := by rw [beq_eq_false_iff_ne]; omega
    have t7 : (((check l).2 : Int) != 0) = true := by rw [bne, t6]; rfl
    have C1 := Lib.hid c1
    have HR := Lib.hid hR
    clear c1 hR hch
    generalize check l = ch at *
    go_enter Tryz.func16, Tryz.ntmps16
    go_wp2_with fail
    refine (C1.out _).mono ?_
    rintro e w1 ⟨rfl, hb1⟩
    go_wp2_with fail
    go_ret3
    exact ⟨by rw [← HR.out]; exact ToksRes.none, hb1⟩
end Go.Proofs.YthbfahbjfioghaaGreatDoor
