/-
  Walk of chapter 6: the reference's start.
-/
import Derived.Test.YthbfahbjfioghaaGreatDoorGen
import Derived.Test.YthbfahbjfioghaaGreatDoorTokR4
import Derived.StillTailTactics
import Derived.RegionTactic
set_option linter.unusedVariables false
namespace Go.Proofs.YthbfahbjfioghaaGreatDoor
open Go.RowKit

theorem AttRow.attsP {w : World} {base : Nat} {p : Nat → Prop} {v : Value} {ats : List Att} (h : AttRow w base v ats) (hr : ∀ k, v.ownBlock = some k → p k) : AttsP w p v ats := by
  rcases h.2 with ⟨hv, hn⟩ | ⟨g, cap, cur, hv, hg, hh, hc, _⟩
  · have : ats = [] := List.eq_nil_of_length_eq_zero hn
    subst this
    exact ⟨none, 0, hv, by simp, .inl rfl⟩
  · refine ⟨_, cap, hv, hc, .inr ⟨g, 0, rfl, hr g (by rw [hv]; rfl), fun i a hi j u hu => ?_⟩⟩
    have hj : j < 4 := by have := (List.getElem?_eq_some_iff.1 hu).1; rw [attCells_len] at this; exact this
    have hx := flat_at (c := 4) (css := ats.map attCells) (by simp [attCells_len]) (i := i) (j := j) (cs := attCells a) (by simp [hi]) hj
    have := h.cells (g := g) (by rw [hv]; rfl) (i * 4 + j) u (by rw [hx]; exact hu)
    rw [add_zero_block] at this
    rw [show 0 + i * 4 + j = i * 4 + j by omega]
    exact this
theorem AttRow.heap {w w' : World} {base : Nat} {v : Value} {ats : List Att} (h : AttRow w base v ats) (hb : ∀ k, v.ownBlock = some k → w'.heap[k]? = w.heap[k]?) : AttRow w' base v ats := ownsRow_heap h hb
theorem AttRow.upd {w w' : World} {base b : Nat} {v : Value} {ats : List Att} (h : AttRow w base v ats) (hb : b < base) (hu : Upd b w w') : AttRow w' base v ats :=
  h.heap fun k hk => by have := h.lt k hk; exact hu.block k this.2 (by omega)
theorem any_take {bs : List Att} {j : Nat} {p : Att → Bool} (h : j < bs.length) : (bs.take (j + 1)).any p = ((bs.take j).any p || p bs[j]) := by
  rw [← List.take_append_getElem h, List.any_append]; simp
theorem any_hit {bs : List Att} {j : Nat} {p : Att → Bool} (h : j < bs.length) (hp : p bs[j] = true) : bs.any p = true :=
  List.any_eq_true.2 ⟨_, List.getElem_mem h, hp⟩
theorem attAt_err {l : Bytes} {a n : Nat} {q : Nat × Nat} (h : attAt l a n = .error q) : q.2 ≠ 0 := by
  have hm : ∀ x, (missing l a x).2 ≠ 0 := fun x => by unfold missing; split <;> simp
  unfold attAt at h
  split at h
  · cases h; exact hm _
  · split at h
    · cases h; exact hm _
    · split at h
      · cases h; exact hm _
      · unfold valAt at h
        split at h
        · cases h; simp
        · split at h
          · cases h; simp
          · split at h
            · cases h; simp
            · cases h
theorem still_load_tok {ops : Array Oper} {rest : List Oper} {o : Oper} {a : Act} {w : World} {Q : Act → Prop} (hgd : o.guard = none) (x : Operand) (ho : o.op = .load 43 x)
    (b off : Nat) (hx : a.eval x = .pointer (some ⟨b, off, none⟩)) (cs : List Value) (hl : cs.length = 6) (hr : w.rangeAt b off cs)
    (h : wpStill Tryz.prog ops w Q rest (a.put o.dst (.agg cs.toArray))) : wpStill Tryz.prog ops w Q (o :: rest) a := by
  refine wpStill_step fun K hK => ?_
  rw [if_pos (by simp [Region.wanted, hgd])]
  unfold Oper.still execOp
  simp only [ho, hx, Instr.loadAt, Instr.sureAddr, Sem.run_bind, Sem.run_pure, Result.andThen_ok, run_loadVar_mid w b off 43 cs _ hr Tryz.underlying43 rfl (by rw [hl]; exact tokSize)]
  rw [Oper.stillUpon_value]
  exact hK _ h
theorem Tkb.keep {w w' : World} {b : Nat} {k : Int} {nm : Bytes} {A : Option Addr} {n c : Nat} {em : Bool} {p : Int} {v v' : Value} (h : Tkb w b k nm A n c em p) (hg : Grew w v v' w') (hl : ∀ k, v.ownBlock = some k → b + 2 ≤ k) : Tkb w' b k nm A n c em p :=
  ⟨hg.heap h.res (fun e => by have := hl _ e; omega), hg.heap h.tok (fun e => by have := hl _ e; omega)⟩
theorem drew_heap (w : World) : w.drew.heap = w.heap := rfl
theorem six_set {W : World} {b : Nat} {t : TypeId} {c0 c1 c2 c3 c4 c5 : Value} (h : W.heap[b]? = some (.cells #[c0, c1, c2, c3, c4, c5] t (0, 0))) (v0 v1 v2 v3 v4 v5 : Value) :
    ((((((W.setCell ⟨b, 0, none⟩ v0).setCell ⟨b, 1, none⟩ v1).setCell ⟨b, 2, none⟩ v2).setCell ⟨b, 3, none⟩ v3).setCell ⟨b, 4, none⟩ v4).setCell ⟨b, 5, none⟩ v5).drew.heap[b]? = some (.cells #[v0, v1, v2, v3, v4, v5] t (0, 0)) := by
  rw [drew_heap]
  exact heap_set (heap_set (heap_set (heap_set (heap_set (heap_set h v0) v1) v2) v3) v4) v5
theorem cells6 {w : World} {b : Nat} {c0 c1 c2 c3 c4 c5 : Value} {t : TypeId} {fr : Nat × Nat} (h : w.heap[b]? = some (.cells #[c0, c1, c2, c3, c4, c5] t fr)) :
    w.cell? ⟨b, 0, none⟩ = some c0 ∧ w.cell? ⟨b, 1, none⟩ = some c1 ∧ w.cell? ⟨b, 2, none⟩ = some c2 ∧ w.cell? ⟨b, 3, none⟩ = some c3 ∧ w.cell? ⟨b, 4, none⟩ = some c4 ∧ w.cell? ⟨b, 5, none⟩ = some c5 := by
  refine ⟨?_, ?_, ?_, ?_, ?_, ?_⟩ <;> (rw [Lib.cell_of_heap h]; rfl)
theorem cells4 {w : World} {b : Nat} {c0 c1 c2 c3 : Value} {t : TypeId} {fr : Nat × Nat} (h : w.heap[b]? = some (.cells #[c0, c1, c2, c3] t fr)) :
    w.cell? ⟨b, 0, none⟩ = some c0 ∧ w.cell? ⟨b, 1, none⟩ = some c1 ∧ w.cell? ⟨b, 2, none⟩ = some c2 ∧ w.cell? ⟨b, 3, none⟩ = some c3 := by
  refine ⟨?_, ?_, ?_, ?_⟩ <;> (rw [Lib.cell_of_heap h]; rfl)
/-- What start makes of its tag. -/
def tagR (nm : Bytes) (a : Nat) : Except (Nat × Nat) (List Att × Bool × Nat) → Except (Nat × Nat) (Tok × Nat)
  | .error e => .error e
  | .ok (bs, em, e) => .ok (⟨1, nm, bs, em, [], a⟩, e)
theorem startAt_eq (l : Bytes) (a : Nat) : startAt l a = if nameLen (l.drop (a + 1)) = 0 then .error (missing l a (a + 1)) else tagR ((l.drop (a + 1)).take (nameLen (l.drop (a + 1)))) a (tagF l a (l.length + 1) (a + 1 + nameLen (l.drop (a + 1))) []) := by
  unfold startAt tagS tagR
  split
  · rfl
  · cases tagF l a (l.length + 1) (a + 1 + nameLen (l.drop (a + 1))) [] <;> rfl

set_option maxHeartbeats 4000000 in
set_option maxRecDepth 100000 in
theorem refStart_any (l : Bytes) (a : Nat) (w : World) (ha : a + 1 ≤ l.length) (hl : l.length ≤ 100000000000) :
    Calls Tryz.prog 80 #[.string (S l), .int .i64 a] w fun e w' => TokRes w' (fun b => w.heap.size ≤ b ∧ b < w'.heap.size) (startAt l a) e ∧ Below w.heap.size w w' := by
  obtain ⟨R, hR⟩ : ∃ R, startAt l a = R := ⟨_, rfl⟩
  rw [hR]
  rw [startAt_eq] at hR
  have hk := nameLen_le (l.drop (a + 1))
  rw [List.length_drop] at hk
  have c1 := fun w => refName_any l (a + 1) w (by omega) ha
  obtain ⟨k, hkk⟩ : ∃ k, nameLen (l.drop (a + 1)) = k := ⟨_, rfl⟩
  rw [hkk] at hR hk c1
  rw [Int.natCast_add] at c1
  have h0 := Tkb.new w 1 a
  have H0 := Lib.hid h0
  have HBa := Lib.hid (show Below w.heap.size w ((w.alloc (.cells zTokC 43)).alloc (.cells #[.int .i64 1, .string ⟨#[]⟩, .slice none 0 0, .bool false, .string ⟨#[]⟩, .int .i64 a] 43)) from ((Below.refl _ _).alloc (Nat.le_refl _) _).alloc (by simp) _)
  have C1 := Lib.hid c1
  have HR := Lib.hid hR
  clear h0 c1 hR hkk
  have hkn : (a : Int) + 1 + k ≤ l.length := by omega
  go_enter Tryz.func80, Tryz.ntmps80
  go_wp2_with fail
  refine (C1.out _).mono ?_
  rintro e w1 ⟨rfl, hb1⟩
  have A1 := H0.out.below hb1
  have HB1 := HBa.out.trans (hb1.mono HBa.out.size)
  clear hb1
  by_cases hk0 : k = 0
  · have hr := HR.out
    rw [if_pos hk0] at hr
    have c2 := fun w => refMissing_any l a (a + 1) w (by omega)
    rw [Int.natCast_add] at c2
    subst hk0
    have C2 := Lib.hid c2
    have HRR := Lib.hid hr
    have ht : ((a : Int) + 1 == (a : Int) + 1) = true := by simp
    clear hr c2
    generalize (missing l a (a + 1)) = M at *
    have hra := A1.range
    have hres := A1.res
    go_wp2_with (first
      | (go_at_call 110; refine (C2.out _).mono ?_; rintro e w' ⟨rfl, rfl⟩)
      | (with_reducible refine gate ?_; refine wp_load_tok refTokTy rfl _ rfl (w.heap.size + 1) 0 rfl _ rfl hra ?_)
      | (with_reducible refine gate ?_; refine wp_store_tok rfl _ _ rfl w.heap.size _ _ _ _ _ _ _ _ _ rfl rfl hres rfl ?_; intro w2 hw2 hu2))
    refine bodyPost_ret (v := .tuple #[.agg _, _, _]) (res_whole3 Tryz.results80 _ _ w.heap.size rfl _ _ hw2 Tryz.underlying43 rfl tokSize _ _ rfl rfl) rfl ⟨?_, ?_⟩
    · rw [← HRR.out]; exact TokRes.err (t := ⟨1, [], [], false, [], a⟩)
    · exact HB1.trans (hu2.below (Nat.le_refl _) HB1.size)
  · have hr := HR.out
    rw [if_neg hk0] at hr
    have ht : ((a : Int) + 1 + k == (a : Int) + 1) = false := by rw [beq_eq_false_iff_ne]; omega
    have e3 : ((a : Int) + 1 + k).toNat = a + 1 + k := by omega
    have e4 : (a : Int) + 1 ≤ (a : Int) + 1 + k := by omega
    obtain ⟨T, hT⟩ : ∃ T, tagF l a (l.length + 1) (a + 1 + k) [] = T := ⟨_, rfl⟩
    rw [hT] at hr
    have HT := Lib.hid hT
    have HRT := Lib.hid hr
    have hc1 := A1.c1
    have hf1 := A1.free 1
    have A2 := Lib.hid (A1.name ((l.drop (a + 1)).take k))
    have HB2 := Lib.hid (HB1.setCell (p := ⟨w.heap.size + 1, 1, none⟩) (by simp) (.string (S ((l.drop (a + 1)).take k))))
    clear hr hT HR C1 H0 HBa
    go_wp2_with fail
    generalize hnm : (l.drop (a + 1)).take k = nm at *
    generalize w1.setCell ⟨w.heap.size + 1, 1, none⟩ (.string (S nm)) = W2 at *
    clear hnm hc1 hf1 A1 HB1
    go_loopw [8] (fun i8 wr => ∃ (z f : Nat) (bs : List Att) (A : Option Addr) (c : Nat), a < z ∧ z ≤ l.length ∧ l.length < z + f ∧ i8 = .int .i64 z ∧ bs.length ≤ z ∧ tagF l a f z bs = T ∧ AttRow wr (w.heap.size + 2) (.slice A bs.length c) bs ∧ Tkb wr w.heap.size 1 nm A bs.length c false a ∧ Below w.heap.size w wr) (fun i8 _ => l.length - (intOf i8).toNat)
    case atStart => exact ⟨a + 1 + k, l.length + 1, [], none, 0, by omega, by omega, by omega, by go_num, by simp, HT.out, AttRow.nil _ _, A2.out, HB2.out⟩
    case round =>
      clear A2 HB2 HT ht e3 e4 hkn hk
      obtain ⟨z, f, bs, A, c, haz, hzl, hzf, rfl, hbl, htg, hrow, htk, hB⟩ := hrel
      obtain ⟨f, rfl⟩ : ∃ g, f = g + 1 := ⟨f - 1, by omega⟩
      rw [tagF] at htg
      have c2 := fun w => refSpaces_any l z w (by omega) hzl
      have s1 := spEnd_ge l z
      have s2 := spEnd_le hzl
      obtain ⟨x, hx⟩ : ∃ x, spEnd l z = x := ⟨_, rfl⟩
      rw [hx] at htg c2 s1 s2
      have d1 : ∀ w, Calls Tryz.prog 43 #[.string (S l), .int .i64 x, .string ⟨#[62]⟩] w fun e w' => e = .returned (.bool (hasAt l x [62])) ∧ w = w' := fun w => refHas_any l x [62] w (by omega) (by omega) (by decide) (by simp)
      have d2 : ∀ w, Calls Tryz.prog 43 #[.string (S l), .int .i64 x, .string ⟨#[47, 62]⟩] w fun e w' => e = .returned (.bool (hasAt l x [47, 62])) ∧ w = w' := fun w => refHas_any l x [47, 62] w (by omega) (by omega) (by decide) (by simp)
      have d3 : ∀ w, Calls Tryz.prog 43 #[.string (S l), .int .i64 x, .string ⟨#[47]⟩] w fun e w' => e = .returned (.bool (hasAt l x [47])) ∧ w = w' := fun w => refHas_any l x [47] w (by omega) (by omega) (by decide) (by simp)
      have HROW := Lib.hid hrow
      have HTK := Lib.hid htk
      have HB := Lib.hid hB
      have hsz := hB.size
      have hsz2 := heap_lt htk.tok
      have C2 := Lib.hid c2
      clear hrow htk hB c2 hx
      cases b1 : hasAt l x [62]
      case true =>
        rw [b1, if_pos rfl] at htg
        have hr := HRT.out
        rw [← htg] at hr
        have HRR := Lib.hid hr
        rw [b1] at d1
        have D1 := Lib.hid d1
        clear d1 d2 d3 b1 htg hr HRT
        have hra := HTK.out.range
        have hres := HTK.out.res
        go_wp2_with (first
          | (go_at_call 109; refine (C2.out _).mono ?_; rintro e w' ⟨rfl, rfl⟩)
          | (go_at_call 43; first | (with_reducible refine (D1.out _).mono ?_; rintro e w' ⟨rfl, rfl⟩))
          | (with_reducible refine gate ?_; refine wp_load_tok refTokTy rfl _ rfl (w.heap.size + 1) 0 rfl _ rfl hra ?_)
          | (with_reducible refine gate ?_; refine wp_store_tok rfl _ _ rfl w.heap.size _ _ _ _ _ _ _ _ _ rfl rfl hres rfl ?_; intro w2 hw2 hu2))
        refine bodyPost_ret (v := .tuple #[.agg _, _, _]) (res_whole3 Tryz.results80 _ _ w.heap.size rfl _ _ hw2 Tryz.underlying43 rfl tokSize _ _ rfl rfl) rfl ⟨?_, ?_⟩
        · rw [← HRR.out]; exact TokRes.fine (t := ⟨1, nm, bs, false, [], a⟩) (by simp) ((HROW.out.upd (by omega) hu2).attsP fun k hk => by have := HROW.out.lt k hk; have := hu2.size; exact ⟨by omega, by omega⟩)
        · exact HB.out.trans (hu2.below (Nat.le_refl _) HB.out.size)
      case false =>
        rw [b1, if_neg (by decide)] at htg
        rw [b1] at d1
        have D1 := Lib.hid d1
        clear d1 b1
        cases b2 : hasAt l x [47, 62]
        case true =>
          rw [b2, if_pos rfl] at htg
          have hr := HRT.out
          rw [← htg] at hr
          have HRR := Lib.hid hr
          rw [b2] at d2
          have D2 := Lib.hid d2
          have hc3 := HTK.out.c3
          have hf3 := HTK.out.free 3
          have A3 := Lib.hid (HTK.out.empt true)
          have HB3 := Lib.hid (HB.out.setCell (p := ⟨w.heap.size + 1, 3, none⟩) (by simp) (.bool true))
          have HROW3 : Hid (AttRow (wr.setCell ⟨w.heap.size + 1, 3, none⟩ (.bool true)) (w.heap.size + 2) (.slice A bs.length c) bs) := HROW.out.upd (by omega) (Upd.set_ (w.heap.size + 1) 3 wr (.bool true))
          clear d2 d3 b2 htg hr HRT
          have hra := A3.out.range
          have hres := A3.out.res
          go_wp2_with (first
            | (go_at_call 109; refine (C2.out _).mono ?_; rintro e w' ⟨rfl, rfl⟩)
            | (go_at_call 43; first | (with_reducible refine (D1.out _).mono ?_; rintro e w' ⟨rfl, rfl⟩) | (with_reducible refine (D2.out _).mono ?_; rintro e w' ⟨rfl, rfl⟩))
            | (with_reducible refine gate ?_; refine wp_load_tok refTokTy rfl _ rfl (w.heap.size + 1) 0 rfl _ rfl hra ?_)
            | (with_reducible refine gate ?_; refine wp_store_tok rfl _ _ rfl w.heap.size _ _ _ _ _ _ _ _ _ rfl rfl hres rfl ?_; intro w2 hw2 hu2))
          refine bodyPost_ret (v := .tuple #[.agg _, _, _]) (res_whole3 Tryz.results80 _ _ w.heap.size rfl _ _ hw2 Tryz.underlying43 rfl tokSize _ _ rfl rfl) rfl ⟨?_, ?_⟩
          · rw [← HRR.out]; exact TokRes.fine (t := ⟨1, nm, bs, true, [], a⟩) (by simp) ((HROW3.out.upd (by omega) hu2).attsP fun k hk => by have := HROW3.out.lt k hk; have := hu2.size; exact ⟨by omega, by omega⟩)
          · exact HB3.out.trans (hu2.below (Nat.le_refl _) HB3.out.size)
        case false =>
          rw [b2, if_neg (by decide)] at htg
          rw [b2] at d2
          have D2 := Lib.hid d2
          clear d2 b2
          cases b3 : hasAt l x [47]
          case true =>
            rw [b3, if_pos rfl] at htg
            have hr := HRT.out
            rw [← htg] at hr
            have HRR := Lib.hid hr
            rw [b3] at d3
            have D3 := Lib.hid d3
            have c4 := fun w => refMissing_any l a (x + 1) w (by omega)
            rw [Int.natCast_add] at c4
            have C4 := Lib.hid c4
            clear d3 b3 htg hr HRT c4
            generalize (missing l a (x + 1)) = M at *
            have hra := HTK.out.range
            have hres := HTK.out.res
            go_wp2_with (first
              | (go_at_call 109; refine (C2.out _).mono ?_; rintro e w' ⟨rfl, rfl⟩)
              | (go_at_call 43; first | (with_reducible refine (D1.out _).mono ?_; rintro e w' ⟨rfl, rfl⟩) | (with_reducible refine (D2.out _).mono ?_; rintro e w' ⟨rfl, rfl⟩) | (with_reducible refine (D3.out _).mono ?_; rintro e w' ⟨rfl, rfl⟩))
              | (go_at_call 110; refine (C4.out _).mono ?_; rintro e w' ⟨rfl, rfl⟩)
              | (with_reducible refine gate ?_; refine wp_load_tok refTokTy rfl _ rfl (w.heap.size + 1) 0 rfl _ rfl hra ?_)
              | (with_reducible refine gate ?_; refine wp_store_tok rfl _ _ rfl w.heap.size _ _ _ _ _ _ _ _ _ rfl rfl hres rfl ?_; intro w2 hw2 hu2))
            refine bodyPost_ret (v := .tuple #[.agg _, _, _]) (res_whole3 Tryz.results80 _ _ w.heap.size rfl _ _ hw2 Tryz.underlying43 rfl tokSize _ _ rfl rfl) rfl ⟨?_, ?_⟩
            · rw [← HRR.out]; exact TokRes.err (t := ⟨1, nm, bs, false, [], a⟩)
            · exact HB.out.trans (hu2.below (Nat.le_refl _) HB.out.size)
          case false =>
            rw [b3, if_neg (by decide)] at htg
            rw [b3] at d3
            have D3 := Lib.hid d3
            clear d3 b3
            by_cases hxz : x = z
            · rw [if_pos hxz] at htg
              have hr := HRT.out
              rw [← htg] at hr
              have HRR := Lib.hid hr
              have c4 := fun w => refMissing_any l a z w (by omega)
              have C4 := Lib.hid c4
              have t5 : ((x : Int) == (z : Int)) = true := by rw [hxz]; simp
              have HXZ := Lib.hid hxz
              clear htg hr HRT c4 hxz
              generalize (missing l a z) = M at *
              have hra := HTK.out.range
              have hres := HTK.out.res
              go_wp2_with (first
                | (go_at_call 109; refine (C2.out _).mono ?_; rintro e w' ⟨rfl, rfl⟩)
                | (go_at_call 43; first | (with_reducible refine (D1.out _).mono ?_; rintro e w' ⟨rfl, rfl⟩) | (with_reducible refine (D2.out _).mono ?_; rintro e w' ⟨rfl, rfl⟩) | (with_reducible refine (D3.out _).mono ?_; rintro e w' ⟨rfl, rfl⟩))
                | (go_at_call 110; refine (C4.out _).mono ?_; rintro e w' ⟨rfl, rfl⟩)
                | (with_reducible refine gate ?_; refine wp_load_tok refTokTy rfl _ rfl (w.heap.size + 1) 0 rfl _ rfl hra ?_)
                | (with_reducible refine gate ?_; refine wp_store_tok rfl _ _ rfl w.heap.size _ _ _ _ _ _ _ _ _ rfl rfl hres rfl ?_; intro w2 hw2 hu2))
              refine bodyPost_ret (v := .tuple #[.agg _, _, _]) (res_whole3 Tryz.results80 _ _ w.heap.size rfl _ _ hw2 Tryz.underlying43 rfl tokSize _ _ rfl rfl) rfl ⟨?_, ?_⟩
              · rw [← HRR.out]; exact TokRes.err (t := ⟨1, nm, bs, false, [], a⟩)
              · exact HB.out.trans (hu2.below (Nat.le_refl _) HB.out.size)
            · rw [if_neg hxz] at htg
              have t5 : ((x : Int) == (z : Int)) = false := by rw [beq_eq_false_iff_ne]; omega
              have c4 := fun w => refAttr_any l a x w s2 (by omega) (by omega)
              cases hat : attAt l a x with
              | error q =>
                rw [hat] at htg c4
                have hq := attAt_err hat
                have hr := HRT.out
                simp only at htg
                rw [← htg] at hr
                have HRR := Lib.hid hr
                have C4 := Lib.hid c4
                have t6 : ((q.2 : Int) == 0) = false := by rw [beq_eq_false_iff_ne]; omega
                have t7 : ((q.2 : Int) != 0) = true := by rw [bne, t6]; rfl
                clear htg hr HRT c4 hat hq
                go_wp2_with (first
                  | (go_at_call 109; refine (C2.out _).mono ?_; rintro e w' ⟨rfl, rfl⟩)
                  | (go_at_call 43; first | (with_reducible refine (D1.out _).mono ?_; rintro e w' ⟨rfl, rfl⟩) | (with_reducible refine (D2.out _).mono ?_; rintro e w' ⟨rfl, rfl⟩) | (with_reducible refine (D3.out _).mono ?_; rintro e w' ⟨rfl, rfl⟩))
                  | fail)
                refine (C4.out _).mono ?_
                rintro e w5 ⟨⟨a0, rfl⟩, hb5⟩
                have A5 := Lib.hid ((HTK.out.below hb5).below2 (w' := w5.alloc (.cells #[.string (S a0.space), .string (S a0.name), .string (S a0.value), .int .i64 a0.pos] 42)) ((Below.refl _ _).alloc (by have := hb5.size; omega) _))
                have HB5 := Lib.hid ((HB.out.trans (hb5.mono hsz)).alloc (by have := hb5.size; omega) (.cells #[.string (S a0.space), .string (S a0.name), .string (S a0.value), .int .i64 a0.pos] 42))
                clear hb5
                have hra := A5.out.range
                have hres := A5.out.res
                go_wp2_with (first
                  | (with_reducible refine gate ?_; refine wp_load_tok refTokTy rfl _ rfl (w.heap.size + 1) 0 rfl _ rfl hra ?_)
                  | (with_reducible refine gate ?_; refine wp_store_tok rfl _ _ rfl w.heap.size _ _ _ _ _ _ _ _ _ rfl rfl hres rfl ?_; intro w2 hw2 hu2))
                refine bodyPost_ret (v := .tuple #[.agg _, _, _]) (res_whole3 Tryz.results80 _ _ w.heap.size rfl _ _ hw2 Tryz.underlying43 rfl tokSize _ _ rfl rfl) rfl ⟨?_, ?_⟩
                · rw [← HRR.out]; exact TokRes.err (t := ⟨1, nm, bs, false, [], a⟩)
                · exact HB5.out.trans (hu2.below (Nat.le_refl _) HB5.out.size)
              | ok p =>
                obtain ⟨b, e2⟩ := p
                rw [hat] at htg c4
                have hok := attAt_ok s2 hat
                have C4 := Lib.hid c4
                simp only at htg
                have HTG := Lib.hid htg
                have HOK := Lib.hid hok
                clear htg c4 hat hok
                go_wp2_with (first
                  | (go_at_call 109; refine (C2.out _).mono ?_; rintro e w' ⟨rfl, rfl⟩)
                  | (go_at_call 43; first | (with_reducible refine (D1.out _).mono ?_; rintro e w' ⟨rfl, rfl⟩) | (with_reducible refine (D2.out _).mono ?_; rintro e w' ⟨rfl, rfl⟩) | (with_reducible refine (D3.out _).mono ?_; rintro e w' ⟨rfl, rfl⟩))
                  | fail)
                refine (C4.out _).mono ?_
                rintro e w5 ⟨hret, hb5⟩
                unfold AttRes at hret
                simp only at hret
                subst hret
                obtain ⟨sp, nb, vb, pb⟩ := b
                obtain ⟨o1, o2, o3⟩ := HOK.out
                simp only at o3
                subst o3
                have HB6 := Lib.hid ((HB.out.trans (hb5.mono hsz)).alloc (by have := hb5.size; omega) (.cells #[.string (S sp), .string (S nb), .string (S vb), .int .i64 x] 42))
                have TK6 := Lib.hid ((HTK.out.below hb5).below2 (w' := w5.alloc (.cells #[.string (S sp), .string (S nb), .string (S vb), .int .i64 x] 42)) ((Below.refl _ _).alloc (by have := hb5.size; omega) _))
                have RW6 := Lib.hid ((HROW.out.below hb5).below (w' := w5.alloc (.cells #[.string (S sp), .string (S nb), .string (S vb), .int .i64 x] 42)) ((Below.refl _ _).alloc (Nat.le_refl _) _))
                have GB6 := Lib.hid (heap_alloc_new w5 (.cells #[.string (S sp), .string (S nb), .string (S vb), .int .i64 x] 42))
                have hg6 : w.heap.size + 1 < w5.heap.size := by have := hb5.size; omega
                clear hb5 HB HTK HROW C2 C4 D1 D2 D3 HOK
                go_wp2_with fail
                generalize w5.heap.size = g at *
                generalize w5.alloc (.cells #[.string (S sp), .string (S nb), .string (S vb), .int .i64 x] 42) = W6 at *
                go_loopw [19] (fun i19 wx => ∃ j : Nat, j ≤ bs.length ∧ i19 = .int .i64 j ∧ (bs.take j).any (fun c => c.name == nb) = false ∧ AttRow wx (w.heap.size + 2) (.slice A bs.length c) bs ∧ Tkb wx w.heap.size 1 nm A bs.length c false a ∧ wx.heap[g]? = some (.cells #[.string (S sp), .string (S nb), .string (S vb), .int .i64 x] 42 (0, 0)) ∧ Below w.heap.size w wx) (fun i19 _ => bs.length - (intOf i19).toNat)
                case atStart => exact ⟨0, Nat.zero_le _, rfl, by simp, RW6.out, TK6.out, GB6.out, HB6.out⟩
                case round =>
                  clear RW6 TK6 GB6 HB6
                  obtain ⟨j, hjl, rfl, hany, hrow, htk, hgb, hB⟩ := hrel
                  have HROW := Lib.hid hrow
                  have HTK := Lib.hid htk
                  have HB := Lib.hid hB
                  have HGB := Lib.hid hgb
                  have hsx := hB.size
                  have hsx2 := heap_lt htk.tok
                  have HANY := Lib.hid hany
                  clear hB hany
                  have k2 := htk.c2
                  by_cases hlt : j < bs.length
                  · have hlt' : (j : Int) < bs.length := by omega
                    obtain ⟨ga, off, hAA, hga, hr⟩ := hrow.attsIn.at_ hlt
                    subst hAA
                    have d1 : wr.cell? ⟨ga, off + j * 4 + 1, none⟩ = some (.string (S bs[j].name)) := hr 1 _ rfl
                    obtain ⟨g0, g1, g2, g3⟩ := cells4 hgb
                    have hat := any_take (p := fun c => c.name == nb) hlt
                    rw [HANY.out, Bool.false_or] at hat
                    have hhit := fun h => any_hit (p := fun c : Att => c.name == nb) hlt h
                    try simp only at hat
                    try simp only at hhit
                    generalize bs[j].name = nj at *
                    cases y : (nj == nb)
                    · rw [y] at hat
                      have HAT := Lib.hid hat
                      clear hat hhit hr hrow htk hgb g0 g2 g3
                      go_wp2_with fail
                      go_quiet (fail)
                      go_wp2
                      go_roundw
                      case rel => exact ⟨j + 1, by omega, by go_num, HAT.out, HROW.out, ⟨HTK.out.res, HTK.out.tok⟩, HGB.out, below_drewN6 HB.out _⟩
                      case measure => simp [intOf]; omega
                    · have htg := HTG.out
                      rw [if_pos (hhit y)] at htg
                      have hr2 := HRT.out
                      rw [← htg] at hr2
                      have HRR := Lib.hid hr2
                      clear hat hhit htg hr2 hr hrow hgb g0 g2 HRT
                      have hra := htk.range
                      clear htk
                      go_wp2_with fail
                      go_quiet (fail)
                      go_wp2_with fail
                      have HW : Hid (Below w.heap.size w (wr.drewN nq)) := below_drewN6 HB.out nq
                      have htk2 : Tkb (wr.drewN nq) w.heap.size 1 nm (some ⟨ga, off, none⟩) bs.length c false a := ⟨HTK.out.res, HTK.out.tok⟩
                      have g3' : (wr.drewN nq).cell? ⟨g, 3, none⟩ = some (.int .i64 x) := g3
                      have hgne : ¬ (w.heap.size = g) := by omega
                      generalize wr.drewN nq = W at *
                      obtain ⟨p0, p1, p2, p3, p4, p5⟩ := cells6 htk2.tok
                      obtain ⟨q0, q1, q2, q3, q4, q5⟩ := cells6 htk2.res
                      have hfr : ∀ i, W.frozen? ⟨w.heap.size, i, none⟩ = false := Lib.frozen_of_heap htk2.res
                      have HRES := Lib.hid htk2.res
                      clear htk2 hra g3 k2 HTK HROW HGB
                      go_region
                      all_goals
                        go_wp2_with fail
                        refine bodyPost_ret (v := .tuple #[.agg _, _, _]) (res_whole3 Tryz.results80 _ _ w.heap.size rfl 43 #[.int .i64 1, .string (S nm), .slice (some ⟨ga, off, none⟩) bs.length c, .bool false, .string (S []), .int .i64 a] (six_set HRES.out _ _ _ _ _ _) Tryz.underlying43 rfl tokSize _ _ rfl rfl) rfl ⟨?_, ?_⟩
                        · rw [← HRR.out]; exact TokRes.err (t := ⟨1, nm, bs, false, [], a⟩)
                        · exact ((((((HW.out.setCell (p := ⟨w.heap.size, 0, none⟩) (Nat.le_refl _) _).setCell (p := ⟨w.heap.size, 1, none⟩) (Nat.le_refl _) _).setCell (p := ⟨w.heap.size, 2, none⟩) (Nat.le_refl _) _).setCell (p := ⟨w.heap.size, 3, none⟩) (Nat.le_refl _) _).setCell (p := ⟨w.heap.size, 4, none⟩) (Nat.le_refl _) _).setCell (p := ⟨w.heap.size, 5, none⟩) (Nat.le_refl _) _).drew
                  · obtain rfl : j = bs.length := by omega
                    have hany := HANY.out
                    rw [List.take_length] at hany
                    have htg := HTG.out
                    rw [if_neg (by rw [hany]; decide)] at htg
                    have HTN := Lib.hid htg
                    have hgr : wr.rangeAt g 0 (attCells ⟨sp, nb, vb, x⟩) := range_of_heap (cs := attCells ⟨sp, nb, vb, x⟩) hgb
                    have F1 : Hid (∀ (g' c' : Nat) (w' : World), AttRow w' (w.heap.size + 2) (.slice (some ⟨g', 0, none⟩) (bs.length + 1) c') (bs ++ [⟨sp, nb, vb, x⟩]) → Grew wr (.slice A bs.length c) (.slice (some ⟨g', 0, none⟩) (bs.length + 1) c') w' → Below (w.heap.size + 2) wr w' →
                        w'.cell? ⟨w.heap.size + 1, 2, none⟩ = some (.slice A bs.length c) ∧ w'.frozen? ⟨w.heap.size + 1, 2, none⟩ = false ∧ Hid (AttRow (w'.setCell ⟨w.heap.size + 1, 2, none⟩ (.slice (some ⟨g', 0, none⟩) (bs.length + 1) c')) (w.heap.size + 2) (.slice (some ⟨g', 0, none⟩) (bs.length + 1) c') (bs ++ [⟨sp, nb, vb, x⟩]) ∧ Tkb (w'.setCell ⟨w.heap.size + 1, 2, none⟩ (.slice (some ⟨g', 0, none⟩) (bs.length + 1) c')) w.heap.size 1 nm (some ⟨g', 0, none⟩) (bs.length + 1) c' false a ∧ Below w.heap.size w (w'.setCell ⟨w.heap.size + 1, 2, none⟩ (.slice (some ⟨g', 0, none⟩) (bs.length + 1) c')))) := by
                      intro g' c' w' r1 r2 r3
                      have hk := HTK.out.keep r2 (fun k hk => (HROW.out.lt k hk).1)
                      exact ⟨hk.c2, hk.free 2, r1.upd (by omega) (Upd.set_ (w.heap.size + 1) 2 w' _), hk.atts _ _ _, (HB.out.trans (r3.mono (by omega))).setCell (p := ⟨w.heap.size + 1, 2, none⟩) (by simp) _⟩
                    clear hany htg hrow htk hgb HGB
                    go_wp2_with (first
                      | (with_reducible refine gate ?_; refine wp_load_att rfl _ rfl g 0 rfl ⟨sp, nb, vb, x⟩ hgr ?_)
                      | (at_builtin; refine atts_append rfl _ _ rfl wr (w.heap.size + 2) (.slice A bs.length c) bs rfl HROW.out ⟨sp, nb, vb, x⟩ wr.heap.size rfl rfl (by omega) (by omega) ?_; intro g' c' w6 r1 r2 r3; obtain ⟨f1, f2, f3⟩ := F1.out g' c' w6 r1 r2 r3))
                    go_roundw
                    case rel => exact ⟨e2, f, bs ++ [⟨sp, nb, vb, x⟩], _, c', by omega, by omega, by omega, rfl, by simp; omega, HTN.out, by simpa using f3.out.1, by simpa using f3.out.2.1, f3.out.2.2⟩
                    case measure => simp [intOf]; omega
end Go.Proofs.YthbfahbjfioghaaGreatDoor
