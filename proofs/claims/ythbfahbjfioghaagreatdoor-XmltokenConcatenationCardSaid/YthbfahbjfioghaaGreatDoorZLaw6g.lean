/-
  Walk of chapter 6's statement Concatenation.
-/
import Derived.Test.YthbfahbjfioghaaGreatDoorZLaw6e
import Derived.Test.YthbfahbjfioghaaGreatDoorG6
set_option linter.unusedVariables false
namespace Go.Proofs.YthbfahbjfioghaaGreatDoor
open Go.RowKit

set_option maxHeartbeats 4000000 in
set_option maxRecDepth 100000 in
theorem law6concat_any (l l' : Bytes) (m : Int) (w : World) (hT : Tabs w) (hM : MaxLen m w) (hl : l.length ≤ 4611686018427387903) (hl' : l'.length ≤ 4611686018427387903) :
    Calls Tryz.prog 7 #[.string (S l), .string (S l')] w fun e w' => e = .returned (.bool true) ∧ Below w.heap.size w w' := by
  have hal := fun W => fun (hW : Below w.heap.size w W) => alive6_any m W (hT.next hW) (hM.below hW)
  have i3 := fun W => Tryz.strings_HasPrefix (S l') (S [239, 187, 191]) W
  rw [S_data, S_data, show Lib.hasPrefix l' [239, 187, 191] = hasAt l' 0 sBom from rfl] at i3
  have i4 := fun W => Tryz.strings_HasSuffix (S l) (S [62]) W (by rw [S_size]; omega)
  rw [S_data, S_data] at i4
  have HAL := Lib.hid hal
  have I3 := Lib.hid i3
  have I4 := Lib.hid i4
  clear hal i3 i4
  -- sizes may be too large for their sum
  by_cases h5 : l.length + l'.length ≤ 3000
  · have h5' : ¬ (3000 : Int) < (l.length : Int) + l'.length := by omega
    cases hbom : hasAt l' 0 sBom with
    | true =>
      rw [hbom] at I3
      clear hT hM
      go_enter Tryz.func7, Tryz.ntmps7
      go_wp2_with (first
        | (go_at_call 19; refine (I3.out _).mono ?_; rintro e w1 ⟨rfl, rfl⟩)
        | (go_at_call 14; refine (HAL.out _ (Below.refl _ _)).mono ?_; rintro e w1 ⟨rfl, hb1⟩))
      go_ret
      exact ⟨rfl, hb1⟩
    | false =>
      rw [hbom] at I3
      have h1 := refTokens_any l w (by omega)
      have h2 := fun W => refTokens_any l' W (by omega)
      have h3 := fun W (hW : Below w.heap.size w W) => tokens_any (l ++ l') m W (hT.next hW) (hM.below hW) (by simp; omega)
      have hx := (toks_facts l).2.2
      have happ := fun (ls : List Tok) h a b => toks_app (s := l) (t := l') (ls := ls) h a b hbom
      have hof := toks_facts l'
      have hat := toks_atts l'
      have hn1 := (toks_all l).1
      have hn2 := (toks_all l').1
      have hn3 := (toks_facts l).2.1
      generalize toks (l ++ l') = R3 at *
      generalize toks l' = R2 at *
      generalize toks l = R1 at *
      obtain ⟨ls, x1, y1⟩ := R1
      have HX := Lib.hid hx
      have HAPP := Lib.hid happ
      have HOF := Lib.hid hof
      have HAT := Lib.hid hat
      have H1 := Lib.hid h1
      have H2 := Lib.hid h2
      have H3 := Lib.hid h3
      clear hT hM hbom h1 h2 h3 hx happ hof hat
      by_cases hy : y1 = 0
      · subst hy
        cases ls with
        | nil =>
          go_enter Tryz.func7, Tryz.ntmps7
          go_wp2_with (first
            | (go_at_call 19; refine (I3.out _).mono ?_; rintro e w1 ⟨rfl, rfl⟩)
            | (go_at_call 16; refine H1.out.mono ?_; rintro e w1 ⟨⟨v1, rfl, hr1⟩, hb1⟩; obtain ⟨A1, c1, rfl, _⟩ := hr1.slice)
            | (go_at_call 14; refine (HAL.out _ hb1).mono ?_; rintro e w2 ⟨rfl, hb2⟩))
          go_ret
          exact ⟨rfl, hb1.trans (hb2.mono hb1.size)⟩
        | cons l0 ls0 =>
          obtain ⟨k, tk, hk, htk⟩ : ∃ k tk, (l0 :: ls0).length = k + 1 ∧ (l0 :: ls0)[k]? = some tk := ⟨ls0.length, (l0 :: ls0)[ls0.length], rfl, List.getElem?_eq_getElem _⟩
          have hlast : (l0 :: ls0).getLast? = some tk := by rw [List.getLast?_eq_getElem?, hk]; exact htk
          have hnil : (l0 :: ls0) ≠ [] := by simp
          generalize l0 :: ls0 = ls at *
          have hzz : ((tk.kind == 3) = true) ∨ ((tk.kind == 3) = false ∧ Lib.hasSuffix l [62] = false) ∨ ((tk.kind == 3) = false ∧ Lib.hasSuffix l [62] = true) := by
            cases (tk.kind == 3) <;> cases Lib.hasSuffix l [62] <;> simp
          have hx1 := HX.out.2.1 rfl
          simp only at hx1
          subst hx1
          simp only at hn1 hn3
          rw [hk] at hn1
          have hk0 : ((k : Int) + 1 == 0) = false := by rw [beq_eq_false_iff_ne]; omega
          rcases hzz with hz | ⟨hz, hz2⟩ | ⟨hz, hz2⟩
          · have hz2 : (tk.kind != 3) = false := by rw [bne, hz]; rfl
            go_enter Tryz.func7, Tryz.ntmps7
            go_wp2_with (first
              | (go_at_call 19; refine (I3.out _).mono ?_; rintro e w0 ⟨rfl, hw⟩; rw [hw]; clear hw w0)
              | fail)
            refine H1.out.mono ?_
            rintro e w1 ⟨⟨v1, rfl, hr1⟩, hb1⟩
            have p1 := hr1.toksP (p' := fun k => k < w1.heap.size) (fun k hk => hk.2.1) (fun k hk => (hr1.lt k hk).2)
            obtain ⟨A1, c1, rfl, hcap1⟩ := p1.slice
            rw [hk] at p1 hcap1
            rw [hk] at hr1
            obtain ⟨b, cs, rfl, hb, hr, ht⟩ := p1.at_ (i := k) (by rw [hk]; omega)
            obtain rfl : ls[k]'(by rw [hk]; omega) = tk := Option.some.inj ((List.getElem?_eq_getElem (by rw [hk]; omega)).symm.trans htk)
            obtain ⟨A2, c2, rfl, _, _⟩ := ht.open_
            have x0 : w1.cell? ⟨b, k * 6, none⟩ = some (.int .i64 (ls[k]'(by rw [hk]; omega)).kind) := hr 0 _ rfl
            generalize hKD : (ls[k]'(by rw [hk]; omega)).kind = KD at *
            have HR1 := Lib.hid hr1
            have B1 := Lib.hid hb1
            clear p1 hr ht hr1 hb1 hb
            go_wp2_with (go_at_call 14; refine (HAL.out _ B1.out).mono ?_; rintro e w2 ⟨rfl, hb2⟩)
            go_ret
            exact ⟨rfl, B1.out.trans (hb2.mono B1.out.size)⟩
          · rw [hz2] at I4
            go_enter Tryz.func7, Tryz.ntmps7
            go_wp2_with (first
              | (go_at_call 19; refine (I3.out _).mono ?_; rintro e w0 ⟨rfl, hw⟩; rw [hw]; clear hw w0)
              | fail)
            refine H1.out.mono ?_
            rintro e w1 ⟨⟨v1, rfl, hr1⟩, hb1⟩
            have p1 := hr1.toksP (p' := fun k => k < w1.heap.size) (fun k hk => hk.2.1) (fun k hk => (hr1.lt k hk).2)
            obtain ⟨A1, c1, rfl, hcap1⟩ := p1.slice
            rw [hk] at p1 hcap1
            rw [hk] at hr1
            obtain ⟨b, cs, rfl, hb, hr, ht⟩ := p1.at_ (i := k) (by rw [hk]; omega)
            obtain rfl : ls[k]'(by rw [hk]; omega) = tk := Option.some.inj ((List.getElem?_eq_getElem (by rw [hk]; omega)).symm.trans htk)
            obtain ⟨A2, c2, rfl, _, _⟩ := ht.open_
            have x0 : w1.cell? ⟨b, k * 6, none⟩ = some (.int .i64 (ls[k]'(by rw [hk]; omega)).kind) := hr 0 _ rfl
            generalize hKD : (ls[k]'(by rw [hk]; omega)).kind = KD at *
            have HR1 := Lib.hid hr1
            have B1 := Lib.hid hb1
            clear p1 hr ht hr1 hb1 hb
            go_wp2_with (first
              | (go_at_call 24; refine (I4.out _).mono ?_; rintro e w0 ⟨rfl, hw⟩; rw [hw]; clear hw w0)
              | (go_at_call 14; refine (HAL.out _ B1.out).mono ?_; rintro e w2 ⟨rfl, hb2⟩))
            go_ret
            exact ⟨rfl, B1.out.trans (hb2.mono B1.out.size)⟩
          · rw [hz2] at I4
            have happ := HAPP.out ls rfl hnil (fun t ht h3 => by rw [hlast] at ht; cases ht; rw [h3] at hz; revert hz; decide)
            clear HX HAPP hlast hnil
            obtain ⟨us, x2, y2⟩ := R2
            simp only at happ
            obtain ⟨h4, h6, h7, h8, h9⟩ := HOF.out
            have HAT2 := HAT
            simp only at h4 h6 h7 h8 h9
            by_cases hy2 : y2 = 0
            · rw [if_pos hy2] at happ
              subst hy2
              subst happ
              simp only at hn2
              have hS : ∀ (A B : Option Addr) (c d n1 n2 : Nat) (p q : Nat → Prop) (W : World), n1 = k + 1 + us.length → n2 = k + 1 + us.length → (∀ j, p j → j < W.heap.size) → (∀ j, q j → j < W.heap.size) → ToksP W p (.slice A n1 c) (ls ++ us.map (shT l.length)) → ToksP W q (.slice B n2 d) (ls ++ us.map (shT l.length)) → Calls Tryz.prog 17 #[.slice A n1 c, .slice B n2 d] W fun e w' => e = .returned (.bool true) ∧ Below W.heap.size W w' := by
                intro A B c d n1 n2 p q W e1 e2 hp hq h1 h2
                have hz : (ls ++ us.map (shT l.length)).length = k + 1 + us.length := by simp [hk]
                subst e1
                subst e2
                rw [← hz] at h1 h2 ⊢
                refine sameToks_any (ls ++ us.map (shT l.length)) A B c d p q W hp hq h1 h2 (by rw [hz]; omega) (fun t ht => ?_)
                rcases List.mem_append.1 ht with h | h
                · have := hn3 t h; omega
                · obtain ⟨u, hu, rfl⟩ := List.mem_map.1 h
                  have := h6 u hu
                  simp [shT]; omega
              have HS := Lib.hid hS
              clear hS
              go_enter Tryz.func7, Tryz.ntmps7
              go_wp2_with (first
                | (go_at_call 19; refine (I3.out _).mono ?_; rintro e w0 ⟨rfl, hw⟩; rw [hw]; clear hw w0)
                | fail)
              refine H1.out.mono ?_
              rintro e w1 ⟨⟨v1, rfl, hr1⟩, hb1⟩
              have p1 := hr1.toksP (p' := fun k => k < w1.heap.size) (fun k hk => hk.2.1) (fun k hk => (hr1.lt k hk).2)
              obtain ⟨A1, c1, rfl, hcap1⟩ := p1.slice
              rw [hk] at p1 hcap1
              rw [hk] at hr1
              obtain ⟨b, cs, rfl, hb, hr, ht⟩ := p1.at_ (i := k) (by rw [hk]; omega)
              obtain rfl : ls[k]'(by rw [hk]; omega) = tk := Option.some.inj ((List.getElem?_eq_getElem (by rw [hk]; omega)).symm.trans htk)
              obtain ⟨A2, c2, rfl, _, _⟩ := ht.open_
              have x0 : w1.cell? ⟨b, k * 6, none⟩ = some (.int .i64 (ls[k]'(by rw [hk]; omega)).kind) := hr 0 _ rfl
              generalize hKD : (ls[k]'(by rw [hk]; omega)).kind = KD at *
              have HR1 := Lib.hid hr1
              have B1 := Lib.hid hb1
              clear p1 hr ht hr1 hb1 hb
              go_wp2_with (first
                | (go_at_call 24; refine (I4.out _).mono ?_; rintro e w0 ⟨rfl, hw⟩; rw [hw]; clear hw w0)
                | fail)
              refine (H2.out _).mono ?_
              rintro e w2 ⟨⟨v2, rfl, hr2⟩, hb2⟩
              have q2 := hr2.toksP (p' := fun k => w1.heap.size ≤ k ∧ k < w2.heap.size) (fun k hk => ⟨hk.1, hk.2.1⟩) (fun k hk => hr2.lt k hk)
              obtain ⟨A3, c3, rfl, _⟩ := q2.slice
              have Q2 := Lib.hid q2
              have B12 := Lib.hid hb2
              have B2 := Lib.hid (B1.out.trans (hb2.mono B1.out.size))
              clear hb2 hr2 q2
              go_wp2_with fail
              have h3' := H3.out _ B2.out
              refine h3'.mono ?_
              clear h3'
              rintro e w3 ⟨⟨v3, rfl, hr3⟩, hb3⟩
              have q3 := hr3.toksP (p' := fun k => w2.heap.size ≤ k ∧ k < w3.heap.size) (fun k hk => ⟨hk.1, hk.2.1⟩) (fun k hk => hr3.lt k hk)
              obtain ⟨A4, c4, rfl, _⟩ := q3.slice
              rw [show (ls ++ us.map (shT l.length)).length = k + 1 + us.length by simp [hk]] at q3
              have Q3 := Lib.hid q3
              have B23 := Lib.hid hb3
              have B13 := Lib.hid (B12.out.trans (hb3.mono B12.out.size))
              have B3 := Lib.hid (B2.out.trans (hb3.mono B2.out.size))
              have hz13 := B13.out.size
              have hz12 := B12.out.size
              have hz23 := B23.out.size
              have hz01 := B1.out.size
              have RW := Lib.hid (HR1.out.below (w' := w3) B13.out (fun k hk => hk.2.1))
              have P2 := Lib.hid (ToksP.keep Q2.out (w' := w3) (p' := fun k => w1.heap.size ≤ k ∧ k < w3.heap.size) (fun k hk => B23.out.block k hk.2) (fun k hk => ⟨hk.1, by have := hk.2; omega⟩))
              have OWN1 := Lib.hid (fun g hg => HR1.out.lt g hg)
              clear hb3 hr3 q3 HR1 Q2
              go_wp2_with fail
              go_loopw [5, 90] (fun v5 i90 wr => ∃ (i N c : Nat) (A : Option Addr), i ≤ us.length ∧ i90 = .int .i64 i ∧ N = k + 1 + i ∧ v5 = .slice A N c ∧ TokRow 43 wr w.heap.size (fun j => w.heap.size ≤ j ∧ j < wr.heap.size ∧ (Value.slice A N c).ownBlock ≠ some j) (.slice A N c) (ls ++ (us.take i).map (shT l.length)) ∧ (∀ g, (Value.slice A N c).ownBlock = some g → g < w1.heap.size ∨ w3.heap.size ≤ g) ∧ (∀ j, w1.heap.size ≤ j → j < w3.heap.size → wr.heap[j]? = w3.heap[j]?) ∧ w3.heap.size ≤ wr.heap.size ∧ Below w.heap.size w wr) (fun _ i90 _ => us.length - (intOf i90).toNat)
              case atStart => exact ⟨0, k + 1, c1, _, Nat.zero_le _, rfl, rfl, rfl, by simpa using (RW.out.more (fun j hj => ⟨hj.1, by have := hj.2.1; omega, hj.2.2⟩)), fun g hg => .inl (OWN1.out g hg).2, fun j _ _ => rfl, Nat.le_refl _, B3.out⟩
              case round =>
                obtain ⟨i, N, c, A, hi, rfl, hN, rfl, hrow, hown, hsame, hge, hB⟩ := hrel
                subst hN
                have HROW := Lib.hid hrow
                have HOWN := Lib.hid hown
                have HSAME := Lib.hid hsame
                have HB := Lib.hid hB
                have hBz := hB.size
                clear hrow hown hsame hB
                by_cases hlt : i < us.length
                · have hlt' : (i : Int) < us.length := by omega
                  have k1 := ToksP.keep P2.out (w' := wr) (p' := fun j => w1.heap.size ≤ j ∧ j < w3.heap.size) (fun j hj => HSAME.out j hj.1 hj.2) (fun _ h => h)
                  obtain ⟨b2, cs2, rfl, hb2, hr2, ht2⟩ := k1.at_ hlt
                  obtain ⟨A5, c5, rfl, hat5, hc5⟩ := ht2.open_
                  have hpos := h4.ge_mem (List.getElem_mem hlt)
                  have hatl := h6 _ (List.getElem_mem hlt)
                  have hatp := HAT2.out _ (List.getElem_mem hlt)
                  have htake : us.take (i + 1) = us.take i ++ [us[i]] := List.take_succ_eq_append_getElem hlt
                  generalize us[i] = u at *
                  have HATP := Lib.hid hatp
                  have HAT5 := Lib.hid hat5
                  have HTAKE := Lib.hid htake
                  obtain ⟨wo, ewo⟩ : ∃ x, x = wr := ⟨_, rfl⟩
                  subst ewo
                  obtain ⟨W1, hW1⟩ : ∃ W1, wo.alloc (.cells #[.int .i64 u.kind, .string (S u.name), .slice A5 u.attrs.length c5, .bool u.empty, .string (S u.text), .int .i64 (u.pos + l.length)] 43) = W1 := ⟨_, rfl⟩
                  have hg1 : W1.heap[wo.heap.size]? = some (.cells #[.int .i64 u.kind, .string (S u.name), .slice A5 u.attrs.length c5, .bool u.empty, .string (S u.text), .int .i64 (u.pos + l.length)] 43 (0, 0)) := by rw [← hW1]; exact heap_alloc_new _ _
                  have hz1 : W1.heap.size = wo.heap.size + 1 := by rw [← hW1]; simp
                  have hb1 : Below wo.heap.size wo W1 := by rw [← hW1]; exact (Below.refl _ _).alloc (Nat.le_refl _) _
                  obtain ⟨WA, hWA⟩ : ∃ WA, W1.alloc (.cells #[] 42) = WA := ⟨_, rfl⟩
                  have hzA : WA.heap.size = wo.heap.size + 2 := by rw [← hWA]; simp [hz1]
                  have hbA : Below wo.heap.size wo WA := by rw [← hWA]; exact hb1.alloc (by omega) _
                  have hgA : WA.heap[wo.heap.size]? = some (.cells #[.int .i64 u.kind, .string (S u.name), .slice A5 u.attrs.length c5, .bool u.empty, .string (S u.text), .int .i64 (u.pos + l.length)] 43 (0, 0)) := by rw [← hWA]; exact alloc_old hg1
                  have hF : ElRow attE WA (wo.heap.size + 1) (fun j => w1.heap.size ≤ j ∧ j < w3.heap.size) (.slice (some ⟨wo.heap.size + 1, 0, none⟩) 0 0) [] := by
                    have := ElRow.fresh attE W1 (wo.heap.size + 1) (fun j => w1.heap.size ≤ j ∧ j < w3.heap.size) (by omega)
                    rw [hz1] at this
                    rw [← hWA]
                    exact this
                  have hE5 : ElsP attE WA (fun j => w1.heap.size ≤ j ∧ j < w3.heap.size) (.slice A5 u.attrs.length c5) u.attrs := attE_elsP.2 (HAT5.out.keep (fun j hj => hbA.block j (by have := hj.2; omega)) (fun _ h => h))
                  have HW := Lib.hid (show (wo.alloc (.cells #[.int .i64 u.kind, .string (S u.name), .slice A5 u.attrs.length c5, .bool u.empty, .string (S u.text), .int .i64 (u.pos + l.length)] 43)).alloc (.cells #[] 42) = WA by rw [hW1, hWA])
                  have HF := Lib.hid hF
                  have HE5 := Lib.hid hE5
                  have HGA := Lib.hid hgA
                  have HBA := Lib.hid hbA
                  obtain ⟨x0, x1, x2, x3, x4, x5⟩ := cells6 (show (wo.alloc (.cells (tokCells u A5 c5) 43)).heap[wo.heap.size]? = _ from heap_alloc_new _ _)
                  have f5 : (wo.alloc (.cells (tokCells u A5 c5) 43)).frozen? ⟨wo.heap.size, 5, none⟩ = false := Lib.frozen_of_heap (heap_alloc_new _ _) 5
                  clear k1 ht2 hatp hat5 htake hF hE5 hgA hbA hWA hW1 hg1 hb1
                  go_wp2_with (first
                    | (with_reducible refine gate ?_; refine wp_load_tok refTokTy rfl _ rfl b2 (i * 6) rfl _ rfl hr2 ?_)
                    | (at_builtin; rw [HW.out]; refine els_append_all attE_ok rfl _ _ rfl WA (wo.heap.size + 1) (fun j => w1.heap.size ≤ j ∧ j < w3.heap.size) (.slice (some ⟨wo.heap.size + 1, 0, none⟩) 0 0) [] rfl HF.out A5 u.attrs.length c5 u.attrs rfl HE5.out (by omega) (by simp; omega) (fun j hj e => by have := hj.2; simp [Value.ownBlock] at e; omega) (fun j hj => by have := hj.2; omega) ?_; intro v5 w5 hrow hgr hb5 hat; rw [List.nil_append] at hrow; obtain ⟨A6, c6, rfl, hc6⟩ := hrow.slice))
                  have HR0 := Lib.hid hrow
                  have HB5 := Lib.hid hb5
                  clear hrow hgr hb5 hat x0 x1 x2 x3 x4 x5 f5 hr2 HF HE5 HW HAT5
                  go_wp2_with fail
                  go_loopw [106] (fun i106 wr => ∃ j : Nat, j ≤ u.attrs.length ∧ i106 = .int .i64 j ∧ ElRow attE wr (wo.heap.size + 1) (fun j => w1.heap.size ≤ j ∧ j < w3.heap.size) (.slice A6 u.attrs.length c6) (attsTo l.length u.attrs j) ∧ Below (wo.heap.size + 1) WA wr) (fun i106 _ => u.attrs.length - (intOf i106).toNat)
                  case atStart => exact ⟨0, Nat.zero_le _, rfl, by rw [attsTo_zero]; exact HR0.out, HB5.out⟩
                  case round =>
                    obtain ⟨j, hj, rfl, hER, hBW⟩ := hrel
                    have HER := Lib.hid hER
                    have HBW := Lib.hid hBW
                    have hzw := hBW.size
                    clear hER hBW HR0 HB5
                    by_cases hjl : j < u.attrs.length
                    · have hjl' : (j : Int) < u.attrs.length := by omega
                      obtain ⟨g, rfl, hg1, hg2⟩ := HER.out.ptr (by rw [attsTo_len]; omega)
                      obtain ⟨cs, hcs, hrg⟩ := HER.out.at_ attE_ok (i := j) (by rw [attsTo_len]; omega)
                      rw [attsTo_get hjl] at hcs
                      have hcs' : cs = attCells u.attrs[j] := hcs
                      subst hcs'
                      have hpp := HATP.out _ (List.getElem_mem hjl)
                      unfold PosIn at hpp
                      have y3 : wr.cell? ⟨g, j * 4 + 3, none⟩ = some (.int .i64 u.attrs[j].pos) := hrg 3 _ rfl
                      have fz := HER.out.free (j * 4 + 3)
                      have hset := HER.out.setCell attE_ok (i := j) (j := 3) (by rw [attsTo_len]; omega) (by decide) (u := .int .i64 (u.attrs[j].pos + l.length)) (a := shA l.length u.attrs[j]) (fun cs hcs => by
                        rw [attsTo_get hjl] at hcs
                        have hcs' : cs = attCells u.attrs[j] := hcs
                        subst hcs'
                        rfl) (fun k hk => by have := hk.2; omega)
                      rw [← attsTo_next hjl] at hset
                      have HSET := Lib.hid hset
                      generalize u.attrs[j].pos = ap at *
                      clear hrg hset hcs
                      go_wp2_with fail
                      go_roundw
                      case rel => exact ⟨j + 1, by omega, by go_num, HSET.out, HBW.out.setCell (by simp; omega) _⟩
                      case measure => simp [intOf]; omega
                    · obtain rfl : j = u.attrs.length := by omega
                      have hgw : wr.heap[wo.heap.size]? = some (.cells #[.int .i64 u.kind, .string (S u.name), .slice A5 u.attrs.length c5, .bool u.empty, .string (S u.text), .int .i64 (u.pos + l.length)] 43 (0, 0)) := (HBW.out.block _ (by omega)).trans HGA.out
                      obtain ⟨x0, x1, x2, x3, x4, x5⟩ := cells6 hgw
                      have f2 := Lib.frozen_of_heap hgw 2
                      obtain ⟨W6, hW6⟩ : ∃ W6, wr.setCell ⟨wo.heap.size, 2, none⟩ (.slice A6 u.attrs.length c6) = W6 := ⟨_, rfl⟩
                      have hz6 : W6.heap.size = wr.heap.size := by rw [← hW6]; simp
                      have hg6 : W6.heap[wo.heap.size]? = some (.cells #[.int .i64 u.kind, .string (S u.name), .slice A6 u.attrs.length c6, .bool u.empty, .string (S u.text), .int .i64 (u.pos + l.length)] 43 (0, 0)) := by rw [← hW6]; exact heap_set (i := 2) hgw _
                      have hr6 : W6.rangeAt wo.heap.size 0 [.int .i64 u.kind, .string (S u.name), .slice A6 u.attrs.length c6, .bool u.empty, .string (S u.text), .int .i64 (u.pos + l.length)] := range_of_heap hg6
                      have hlow : ∀ q, q < wo.heap.size → W6.heap[q]? = wo.heap[q]? := fun q hq => by
                        rw [← hW6, Below.heap_setCell _ _ _ _ (show q ≠ (⟨wo.heap.size, 2, none⟩ : Addr).block by simp; omega)]
                        exact (HBW.out.block q (by omega)).trans (HBA.out.block q hq)
                      have hB6 : Below w.heap.size wo W6 := by
                        have e1 := (HBA.out.mono (show w.heap.size ≤ wo.heap.size from hBz)).trans (HBW.out.mono (by omega))
                        rw [← hW6]
                        exact e1.setCell (by simp; omega) _
                      obtain ⟨TS, hTS⟩ : ∃ TS, ls ++ (us.take i).map (shT l.length) = TS := ⟨_, rfl⟩
                      have hTL : TS.length = k + 1 + i := by rw [← hTS]; simp [hk]; omega
                      have hrw := HROW.out
                      rw [hTS] at hrw
                      have hlt6 := fun g hg => hrw.lt g hg
                      have ROW6 : TokRow 43 W6 w.heap.size (fun j => w.heap.size ≤ j ∧ j < W6.heap.size ∧ (Value.slice A (k + 1 + i) c).ownBlock ≠ some j) (.slice A (k + 1 + i) c) TS := (hrw.heap (w' := W6) (fun q hq => hlow q (hlt6 q hq).2) (fun q hq => hlow q hq.2.1)).more (fun q hq => ⟨hq.1, by have := hq.2.1; omega, hq.2.2⟩)
                      have hel := HER.out
                      rw [attsTo_all] at hel
                      have hatt : AttsP wr (fun q => (w1.heap.size ≤ q ∧ q < w3.heap.size) ∨ (wo.heap.size + 1 ≤ q ∧ q < wr.heap.size)) (.slice A6 u.attrs.length c6) (u.attrs.map (shA l.length)) := attE_elsP.1 (hel.elsP attE_ok (fun q hq => .inl hq) (fun q hq => .inr (hel.lt q hq)))
                      have hTP : TokP W6 (fun j => w.heap.size ≤ j ∧ j < W6.heap.size ∧ (Value.slice A (k + 1 + i) c).ownBlock ≠ some j) (shT l.length u) [.int .i64 u.kind, .string (S u.name), .slice A6 u.attrs.length c6, .bool u.empty, .string (S u.text), .int .i64 (u.pos + l.length)] :=
                        ⟨_, rfl, hatt.keep (fun q hq => by
                          rw [← hW6]
                          exact Below.heap_setCell _ _ _ _ (show q ≠ (⟨wo.heap.size, 2, none⟩ : Addr).block by rcases hq with hq | hq <;> (simp; omega))) (fun q hq => by
                          refine ⟨by rcases hq with hq | hq <;> omega, by rcases hq with hq | hq <;> omega, fun e => ?_⟩
                          have e1 := hlt6 q e
                          have e2 := HOWN.out q e
                          rcases hq with hq | hq <;> omega)⟩
                      have F1 : Hid (∀ (g' c' : Nat) (w' : World), ((Value.slice A (k + 1 + i) c).ownBlock = some g' ∨ W6.heap.size ≤ g') → g' < w'.heap.size → TokRow 43 w' w.heap.size (fun j => w.heap.size ≤ j ∧ j < W6.heap.size ∧ (Value.slice A (k + 1 + i) c).ownBlock ≠ some j) (.slice (some ⟨g', 0, none⟩) (TS.length + 1) c') (TS ++ [shT l.length u]) → Grew W6 (.slice A (k + 1 + i) c) (.slice (some ⟨g', 0, none⟩) (TS.length + 1) c') w' → Below w.heap.size W6 w' →
                          TokRow 43 w' w.heap.size (fun j => w.heap.size ≤ j ∧ j < w'.heap.size ∧ (Value.slice (some ⟨g', 0, none⟩) (TS.length + 1) c').ownBlock ≠ some j) (.slice (some ⟨g', 0, none⟩) (TS.length + 1) c') (ls ++ (us.take (i + 1)).map (shT l.length)) ∧ (∀ g, (Value.slice (some ⟨g', 0, none⟩) (TS.length + 1) c').ownBlock = some g → g < w1.heap.size ∨ w3.heap.size ≤ g) ∧ (∀ j, w1.heap.size ≤ j → j < w3.heap.size → w'.heap[j]? = w3.heap[j]?) ∧ w3.heap.size ≤ w'.heap.size ∧ Below w.heap.size w w') := by
                        intro g' c' w' r1 r2 r3 r4 r5
                        have hz7 := r5.size
                        refine ⟨?_, ?_, ?_, by omega, (HB.out.trans hB6).trans r5⟩
                        · rw [HTAKE.out, List.map_append, ← List.append_assoc, hTS]
                          refine r3.more fun q hq => ⟨hq.1, by have := hq.2.1; omega, ?_⟩
                          intro e
                          simp only [Value.ownBlock, Option.some.injEq] at e
                          rcases r1 with r1 | r1
                          · exact hq.2.2 (by rw [r1, e])
                          · have := hq.2.1; omega
                        · intro g hg
                          simp only [Value.ownBlock, Option.some.injEq] at hg
                          subst hg
                          rcases r1 with r1 | r1
                          · exact HOWN.out _ r1
                          · right; omega
                        · intro q hq1 hq2
                          have e1 : w3.heap[q]? = some (w3.heap[q]'hq2) := Array.getElem?_eq_getElem hq2
                          rw [e1]
                          refine r4.heap ?_ (fun e => ?_)
                          · rw [hlow q (by omega), HSAME.out q hq1 hq2, e1]
                          · have := HOWN.out q e; omega
                      have HROW6 := Lib.hid ROW6
                      have HTP := Lib.hid hTP
                      have HW6 := Lib.hid hW6
                      have hts : TS.length < 1000000000000 := by omega
                      clear ROW6 hTP hatt hel hrw hlow hlt6 hB6 hg6 HROW HER
                      go_wp2_with (first
                        | (with_reducible refine gate ?_; refine wp_load_tok refTokTy rfl _ rfl wo.heap.size 0 rfl _ rfl hr6 ?_)
                        | (at_builtin; refine toks_append refTokTy rfl _ _ rfl W6 w.heap.size _ (.slice A (k + 1 + i) c) TS rfl HROW6.out (shT l.length u) _ wr.heap.size hz6 rfl HTP.out (fun b hb => hb.2.2) (fun b hb => hb.2.1) (by omega) hts ?_; intro g' c' w6 r1 r2 r3 r4 r5; obtain ⟨f1, f2, f3, f4, f5⟩ := F1.out g' c' w6 r1 r2 r3 r4 r5))
                      go_roundw
                      case rel => exact ⟨i + 1, TS.length + 1, c', some ⟨g', 0, none⟩, by omega, by go_num, by omega, by rw [hTL], f1, f2, f3, f4, f5⟩
                      case measure => simp [intOf]; omega
                · obtain rfl : i = us.length := by omega
                  have BE := Lib.hid (show Below w.heap.size w wr from HB.out)
                  have PK := Lib.hid (ToksP.keep Q3.out (w' := wr) (p' := fun j => j < wr.heap.size) (fun j hj => HSAME.out j (by have := hj.1; omega) hj.2) (fun j hj => by have := hj.2; omega))
                  have hrw := HROW.out
                  rw [List.take_length] at hrw
                  have PL := Lib.hid (hrw.toksP (p' := fun j => j < wr.heap.size) (fun j hj => hj.2.1) (fun j hj => (hrw.lt j hj).2))
                  clear hrw
                  go_wp2_with (first
                    | (go_at_call 14; refine (HAL.out _ BE.out).mono ?_; rintro e w4 ⟨rfl, hb4⟩; have B4 := Lib.hid hb4; clear hb4)
                    | (go_at_call 17; refine (HS.out _ _ _ _ _ _ (fun j => j < wr.heap.size) (fun j => j < wr.heap.size) w4 rfl rfl (fun j hj => Nat.lt_of_lt_of_le hj B4.out.size) (fun j hj => Nat.lt_of_lt_of_le hj B4.out.size) (ToksP.keep PK.out (fun j hj => B4.out.block j hj) (fun _ h => h)) (ToksP.keep PL.out (fun j hj => B4.out.block j hj) (fun _ h => h))).mono ?_; rintro e w5 ⟨rfl, hb5⟩))
                  go_ret
                  exact ⟨rfl, BE.out.trans ((B4.out.trans (hb5.mono B4.out.size)).mono BE.out.size)⟩
            · rw [if_neg hy2] at happ
              subst happ
              have t8 : ((y2 : Int) == 0) = false := by simp; omega
              have t9 : ((y2 : Int) != 0) = true := by rw [bne, t8]; rfl
              have e1 : ((l.length : Int) + (x2 : Int) == (l.length : Int) + (x2 : Int)) = true := by simp
              have e3 : (((l.length + x2 : Nat) : Int) == (l.length : Int) + (x2 : Int)) = true := by simp
              have e2 : ((y2 : Int) == (y2 : Int)) = true := by simp
              have h7' : (x2 : Int) ≤ l'.length := by omega
              go_enter Tryz.func7, Tryz.ntmps7
              go_wp2_with (first
                | (go_at_call 19; refine (I3.out _).mono ?_; rintro e w0 ⟨rfl, hw⟩; rw [hw]; clear hw w0)
                | fail)
              refine H1.out.mono ?_
              rintro e w1 ⟨⟨v1, rfl, hr1⟩, hb1⟩
              have p1 := hr1.toksP (p' := fun k => k < w1.heap.size) (fun k hk => hk.2.1) (fun k hk => (hr1.lt k hk).2)
              obtain ⟨A1, c1, rfl, hcap1⟩ := p1.slice
              rw [hk] at p1 hcap1
              rw [hk] at hr1
              obtain ⟨b, cs, rfl, hb, hr, ht⟩ := p1.at_ (i := k) (by rw [hk]; omega)
              obtain rfl : ls[k]'(by rw [hk]; omega) = tk := Option.some.inj ((List.getElem?_eq_getElem (by rw [hk]; omega)).symm.trans htk)
              obtain ⟨A2, c2, rfl, _, _⟩ := ht.open_
              have x0 : w1.cell? ⟨b, k * 6, none⟩ = some (.int .i64 (ls[k]'(by rw [hk]; omega)).kind) := hr 0 _ rfl
              generalize hKD : (ls[k]'(by rw [hk]; omega)).kind = KD at *
              have HR1 := Lib.hid hr1
              have B1 := Lib.hid hb1
              clear p1 hr ht hr1 hb1 hb
              go_wp2_with (first
                | (go_at_call 24; refine (I4.out _).mono ?_; rintro e w0 ⟨rfl, hw⟩; rw [hw]; clear hw w0)
                | fail)
              refine (H2.out _).mono ?_
              rintro e w2 ⟨⟨v2, rfl, hr2⟩, hb2⟩
              have B2 := Lib.hid (B1.out.trans (hb2.mono B1.out.size))
              clear hb2 hr2
              go_wp2_with fail
              have h3' := H3.out _ B2.out
              refine h3'.mono ?_
              clear h3'
              rintro e w3 ⟨⟨v3, rfl, hr3⟩, hb3⟩
              have B3 := Lib.hid (B2.out.trans (hb3.mono B2.out.size))
              clear hb3 hr3
              go_wp2_with (go_at_call 14; refine (HAL.out _ B3.out).mono ?_; rintro e w4 ⟨rfl, hb4⟩)
              go_ret
              exact ⟨rfl, B3.out.trans (hb4.mono B3.out.size)⟩
      · have t6 : ((y1 : Int) == 0) = false := by simp; omega
        have t7 : ((y1 : Int) != 0) = true := by rw [bne, t6]; rfl
        go_enter Tryz.func7, Tryz.ntmps7
        go_wp2_with (first
          | (go_at_call 19; refine (I3.out _).mono ?_; rintro e w1 ⟨rfl, rfl⟩)
          | (go_at_call 16; refine H1.out.mono ?_; rintro e w1 ⟨⟨v1, rfl, hr1⟩, hb1⟩)
          | (go_at_call 14; refine (HAL.out _ hb1).mono ?_; rintro e w2 ⟨rfl, hb2⟩))
        go_ret
        exact ⟨rfl, hb1.trans (hb2.mono hb1.size)⟩
  · have h5' : (3000 : Int) < (l.length : Int) + l'.length := by omega
    clear hT hM
    go_enter Tryz.func7, Tryz.ntmps7
    go_wp2_with (first
      | (go_at_call 19; refine (I3.out _).mono ?_; rintro e w1 ⟨rfl, rfl⟩)
      | (go_at_call 14; refine (HAL.out _ (Below.refl _ _)).mono ?_; rintro e w1 ⟨rfl, hb1⟩))
    go_ret
    exact ⟨rfl, hb1⟩
end Go.Proofs.YthbfahbjfioghaaGreatDoor
