/-
  Several texts in one file, in build order:
  - Walks of chapter 7 (reference): Blank, Parse.
  - Plain laws of chapters 6 and 7: how large the tree of a document is; its texts bear nothing. No program.
  - Plain facts of chapter 7's statements. No program.
  - Variables that hold a tree: their blocks, kept under growth; what both parsers return, in one form.
-/
import Derived.Test.YtclhdppppgjgfaaGreatDoorH16
import Derived.Test.YtclhdppppgjgfaaGreatDoorH15
import Derived.Test.YtclhdppppgjgfaaGreatDoorH13
import Derived.Test.YtclhdppppgjgfaaGreatDoorH4
set_option linter.unusedVariables false
namespace Go.Proofs.YtclhdppppgjgfaaGreatDoor
open Go.RowKit

set_option maxHeartbeats 1000000 in
theorem refBlank_any (l : Bytes) (w : World) (hl : l.length ≤ 4611686018427387904) :
    Calls Tryz.prog 35 #[.string (S l)] w fun e w' => e = .returned (.bool (blank l)) ∧ w = w' := by
  obtain ⟨b, hb⟩ : ∃ b, blank l = b := ⟨_, rfl⟩
  rw [hb]
  have HB := Lib.hid hb
  clear hb
  go_enter Tryz.func35, Tryz.ntmps35
  go_wp2
  go_loop [3] (fun i3 => ∃ i : Nat, i ≤ l.length ∧ i3 = .int .i64 i ∧ (l.drop i).all isSp = b) (fun i3 => l.length - (intOf i3).toNat)
  case atStart => exact ⟨0, Nat.zero_le _, rfl, HB.out⟩
  case round =>
    obtain ⟨i, hi, rfl, hb⟩ := hrel
    by_cases hlt : i < l.length
    · have hlt' : (i : Int) < l.length := by omega
      have hcall := fun w => refIsSpace_is l[i] w
      rw [List.drop_eq_getElem_cons hlt, List.all_cons] at hb
      cases hc : isSp l[i]
      · rw [hc, Bool.false_and] at hb
        rw [hc] at hcall
        have HC := Lib.hid hcall
        have HBB := Lib.hid hb
        clear hcall hb hc
        go_wp2_with (go_at_call 66; refine (HC.out _).mono ?_; rintro e w' ⟨rfl, rfl⟩)
        go_ret
        exact ⟨by rw [← HBB.out]; rfl, rfl⟩
      · rw [hc, Bool.true_and] at hb
        rw [hc] at hcall
        have HC := Lib.hid hcall
        have HBB := Lib.hid hb
        clear hcall hb hc
        go_wp2_with (go_at_call 66; refine (HC.out _).mono ?_; rintro e w' ⟨rfl, rfl⟩)
        go_round
        case rel => exact ⟨i + 1, by omega, by go_num, HBB.out⟩
        case measure => simp [intOf]; omega
    · obtain rfl : i = l.length := by omega
      rw [List.drop_length] at hb
      have HBB := Lib.hid hb
      clear hb
      go_wp2
      go_ret
      exact ⟨by rw [← HBB.out]; rfl, rfl⟩

abbrev zNodeC : List Value := [.int .i64 0, .string ⟨#[]⟩, .string ⟨#[]⟩, .slice none 0 0, .slice none 0 0, .string ⟨#[]⟩, .int .i64 0]
/-- What Parse returns. -/
def ParRes (w w' : World) (l : Bytes) (r : Except (Int × Nat) Node) (e : Ending) : Prop :=
  match r with
  | .error q => e = .returned (.tuple #[zNodeV, .int .i64 q.1, .int .i64 q.2])
  | .ok n => ∃ v, e = .returned (.tuple #[v, .int .i64 l.length, .int .i64 0]) ∧ NodePV w' (fun b => w.heap.size ≤ b ∧ b < w'.heap.size) n v
theorem seven_set {W : World} {b : Nat} {t : TypeId} {c0 c1 c2 c3 c4 c5 c6 : Value} (h : W.heap[b]? = some (.cells #[c0, c1, c2, c3, c4, c5, c6] t (0, 0))) (v0 v1 v2 v3 v4 v5 v6 : Value) :
    (((((((W.setCell ⟨b, 0, none⟩ v0).setCell ⟨b, 1, none⟩ v1).setCell ⟨b, 2, none⟩ v2).setCell ⟨b, 3, none⟩ v3).setCell ⟨b, 4, none⟩ v4).setCell ⟨b, 5, none⟩ v5).setCell ⟨b, 6, none⟩ v6).drew.heap[b]? = some (.cells #[v0, v1, v2, v3, v4, v5, v6] t (0, 0)) := by
  rw [drew_heap]
  have a1 : _ = some (Obj.cells #[v0, c1, c2, c3, c4, c5, c6] t (0, 0)) := heap_set (i := 0) h v0
  have a2 : _ = some (Obj.cells #[v0, v1, c2, c3, c4, c5, c6] t (0, 0)) := heap_set (i := 1) a1 v1
  have a3 : _ = some (Obj.cells #[v0, v1, v2, c3, c4, c5, c6] t (0, 0)) := heap_set (i := 2) a2 v2
  have a4 : _ = some (Obj.cells #[v0, v1, v2, v3, c4, c5, c6] t (0, 0)) := heap_set (i := 3) a3 v3
  have a5 : _ = some (Obj.cells #[v0, v1, v2, v3, v4, c5, c6] t (0, 0)) := heap_set (i := 4) a4 v4
  have a6 : _ = some (Obj.cells #[v0, v1, v2, v3, v4, v5, c6] t (0, 0)) := heap_set (i := 5) a5 v5
  exact heap_set (i := 6) a6 v6
/-- Where Parse stands in its loop: rb the result's block, pb the parser's, rt the root's. -/
structure PLo (ts : List Tok) (l : Bytes) (A : Option Addr) (c pb : Nat) (w0 : World) (R : Except (Int × Nat) Node) (i f : Nat) (r : Option Node) (wr : World) : Prop where
  par : parL ts l.length f i r = R
  res : wr.heap[w0.heap.size]? = some (.cells zNodC 26 (0, 0))
  pbk : PB wr pb A ts.length c i 0 0
  toks : ToksP wr (fun b => w0.heap.size + 1 ≤ b ∧ b < pb) (.slice A ts.length c) ts
  root : ∃ cs : List Value, wr.heap[pb + 1]? = some (.cells cs.toArray 26 (0, 0)) ∧ cs.length = 7 ∧ ∀ n, r = some n → NodeP wr (fun b => (w0.heap.size + 1 ≤ b ∧ b < pb) ∨ (pb + 2 ≤ b ∧ b < wr.heap.size)) n cs
  below : Below w0.heap.size w0 wr
  lt : w0.heap.size < pb ∧ pb + 1 < wr.heap.size

theorem parL_some {ts : List Tok} {en f i : Nat} {r : Option Node} {t : Tok} (h : ts[i]? = some t) : parL ts en (f + 1) i r =
    if t.kind = 1 ∧ r.isSome = true then .error (t.pos, 17) else if t.kind = 2 then .error (t.pos, 14) else if t.kind = 3 ∧ blank t.text = false then .error (t.pos, 7)
    else if t.kind = 3 then parL ts en f (i + 1) r else match elemF ts en (2 * ts.length) 1 i with | .error e => .error e | .ok (n, j) => parL ts en f j (some n) := by
  rw [parL.eq_def]
  simp only [h]
  rfl
theorem parL_none {ts : List Tok} {en f i : Nat} {r : Option Node} (h : ts[i]? = none) : parL ts en (f + 1) i r = match r with | some n => .ok n | none => .error ((en : Int), 8) := by
  rw [parL.eq_def]
  simp only [h]
  cases r <;> rfl
theorem PLo.next {ts : List Tok} {l : Bytes} {A : Option Addr} {c pb : Nat} {w0 : World} {R : Except (Int × Nat) Node} {i f : Nat} {r : Option Node} {wr w' : World} (h : PLo ts l A c pb w0 R i f r wr) (hb : Below wr.heap.size wr w') : PLo ts l A c pb w0 R i f r w' := by
  have hl := h.lt
  refine ⟨h.par, (hb.block _ (heap_lt h.res)).trans h.res, h.pbk.below hb, h.toks.keep (fun b hk => hb.block b (by omega)) (fun _ h => h), ?_, h.below.trans (hb.mono h.below.size), hl.1, Nat.lt_of_lt_of_le hl.2 hb.size⟩
  obtain ⟨cs, h1, h2, h3⟩ := h.root
  exact ⟨cs, (hb.block _ hl.2).trans h1, h2, fun n hn => NodeP.keep (fun b hk => hb.block b (hk.elim (fun x => by omega) (fun x => x.2))) (fun b hk => hk.imp id (fun x => ⟨x.1, Nat.lt_of_lt_of_le x.2 hb.size⟩)) n cs (h3 n hn)⟩

theorem PLo.inc {ts : List Tok} {l : Bytes} {A : Option Addr} {c pb : Nat} {w0 : World} {R : Except (Int × Nat) Node} {i f f' : Nat} {r : Option Node} {wr : World} (h : PLo ts l A c pb w0 R i f r wr) (hp : parL ts l.length f' (i + 1) r = R) : PLo ts l A c pb w0 R (i + 1) f' r (wr.setCell ⟨pb, 1, none⟩ (.int .i64 ((i : Int) + 1))) := by
  have hl := h.lt
  have hset : ∀ b, b ≠ pb → (wr.setCell ⟨pb, 1, none⟩ (.int .i64 ((i : Int) + 1))).heap[b]? = wr.heap[b]? := fun b hb => Below.heap_setCell _ _ _ _ hb
  have hss : (wr.setCell ⟨pb, 1, none⟩ (.int .i64 ((i : Int) + 1))).heap.size = wr.heap.size := by simp [World.setCell]
  obtain ⟨cs, h1, h2, h3⟩ := h.root
  refine ⟨hp, (hset _ (by omega)).trans h.res, ?_, h.toks.keep (fun b hk => hset b (by omega)) (fun _ h => h), ⟨cs, (hset _ (by omega)).trans h1, h2, fun n hn => NodeP.keep (fun b hk => hset b (hk.elim (fun x => by omega) (fun x => by omega))) (fun b hk => hk.imp id (fun x => ⟨x.1, by rw [hss]; exact x.2⟩)) n cs (h3 n hn)⟩, h.below.setCell (p := ⟨pb, 1, none⟩) (by show _ ≤ pb; omega) _, hl.1, by rw [hss]; exact hl.2⟩
  have := h.pbk.move ((i : Int) + 1)
  rw [Int.natCast_add]; exact this
theorem PLo.put {ts : List Tok} {l : Bytes} {A : Option Addr} {c pb : Nat} {w0 : World} {R : Except (Int × Nat) Node} {i j f f' : Nat} {r : Option Node} {W w6 w7 : World} {n : Node} {cs : List Value} (h : PLo ts l A c pb w0 R i f r W) (hu : Upd pb W w6) (hpb : PB w6 pb A ts.length c j 0 0) (hu2 : Upd (pb + 1) w6 w7) (hcs : cs.length = 7) (hw7 : w7.heap[pb + 1]? = some (.cells cs.toArray 26 (0, 0)))
    (hn : NodeP w6 (fun b => (w0.heap.size + 1 ≤ b ∧ b < pb) ∨ (W.heap.size ≤ b ∧ b < w6.heap.size)) n cs) (hp : parL ts l.length f' j (some n) = R) : PLo ts l A c pb w0 R j f' (some n) w7 := by
  have hl := h.lt
  have hs6 := hu.size
  have hs7 := hu2.size
  have hk : ∀ b, b < W.heap.size → b ≠ pb → b ≠ pb + 1 → w7.heap[b]? = W.heap[b]? := fun b h1 h2 h3 => (hu2.block b (by omega) h3).trans (hu.block b h1 h2)
  refine ⟨hp, (hk _ (by omega) (by omega) (by omega)).trans h.res, hpb.upd (by omega) hu2, h.toks.keep (fun b hb => hk b (by omega) (by omega) (by omega)) (fun _ h => h), ⟨cs, hw7, hcs, fun m hm => ?_⟩, ?_, hl.1, by omega⟩
  · cases hm
    exact NodeP.keep (fun b hb => hu2.block b (hb.elim (fun x => by omega) (fun x => x.2)) (hb.elim (fun x => by omega) (fun x => by omega))) (fun b hb => hb.imp id (fun x => ⟨by omega, by omega⟩)) n cs hn
  · exact (h.below.trans (hu.below (by omega) (h.below.size))).trans (hu2.below (by omega) (by have := h.below.size; omega))

set_option maxHeartbeats 4000000 in
set_option maxRecDepth 100000 in
theorem refParse_any (l : Bytes) (w : World) (hl : l.length ≤ 100000) :
    Calls Tryz.prog 13 #[.string (S l)] w fun e w' => ParRes w w' l (parse l) e ∧ Below w.heap.size w w' := by
  obtain ⟨R, hR⟩ : ∃ R, parse l = R := ⟨_, rfl⟩
  rw [hR]
  unfold parse at hR
  have htk := fun w => refTokens_any l w (by omega)
  have hlen := (toks_all l).1
  have htxt := (toks_all l).2
  cases htt : toks l with
  | mk ts q =>
  obtain ⟨at_, er⟩ := q
  rw [htt] at htk hR hlen htxt
  simp only at htk hR hlen htxt
  have HTK := Lib.hid htk
  have HTT := Lib.hid htt
  clear htk htt
  by_cases her : er = 0
  · rw [if_neg (by simp [her])] at hR
    have t6 : ((er : Int) == 0) = true := by rw [her]; rfl
    have t7 : ((er : Int) != 0) = false := by rw [bne, t6]; rfl
    have HR := Lib.hid hR
    have HER := Lib.hid her
    clear hR her
    go_enter Tryz.func13, Tryz.ntmps13
    go_wp2_with fail
    refine (HTK.out _).mono ?_
    rintro e w1 ⟨⟨v, rfl, hrow⟩, hb1⟩
    obtain ⟨A, c, rfl, hAc⟩ := hrow.slice
    simp only [World.size_alloc] at hrow
    have hs1 : w.heap.size + 1 ≤ w1.heap.size := by have := hb1.size; simpa using this
    have hw2 : (w1.alloc (.cells #[.slice A ts.length c, .int .i64 0, .int .i64 0, .int .i64 0] 61)).heap.size = w1.heap.size + 1 := by simp
    have hal : Below w1.heap.size w1 ((w1.alloc (.cells #[.slice A ts.length c, .int .i64 0, .int .i64 0, .int .i64 0] 61)).alloc (.cells zNodC 26)) := ((Below.refl _ _).alloc (Nat.le_refl _) _).alloc (by simp) _
    have hrt : ((w1.alloc (.cells #[.slice A ts.length c, .int .i64 0, .int .i64 0, .int .i64 0] 61)).alloc (.cells zNodC 26)).heap[w1.heap.size + 1]? = some (.cells zNodC 26 (0, 0)) := by rw [← hw2]; exact heap_alloc_new _ _
    have hpb : ((w1.alloc (.cells #[.slice A ts.length c, .int .i64 0, .int .i64 0, .int .i64 0] 61)).alloc (.cells zNodC 26)).heap[w1.heap.size]? = some (.cells #[.slice A ts.length c, .int .i64 0, .int .i64 0, .int .i64 0] 61 (0, 0)) := (Below.heap_alloc _ _ _ (by simp)).trans (heap_alloc_new _ _)
    have hres := (hal.block w.heap.size (by omega)).trans ((hb1.block w.heap.size (by simp)).trans (heap_alloc_new w (.cells zNodC 26)))
    have hbb : Below w.heap.size w _ := (((Below.refl _ _).alloc (Nat.le_refl _) (.cells zNodC 26)).trans (hb1.mono (by simp))).trans (hal.mono (by omega))
    have htoks : ToksP ((w1.alloc (.cells #[.slice A ts.length c, .int .i64 0, .int .i64 0, .int .i64 0] 61)).alloc (.cells zNodC 26)) (fun b => w.heap.size + 1 ≤ b ∧ b < w1.heap.size) (.slice A ts.length c) ts :=
      (hrow.toksP (p' := fun b => w.heap.size + 1 ≤ b ∧ b < w1.heap.size) (fun b hb => ⟨hb.1, hb.2.1⟩) (fun b hb => hrow.lt b hb)).keep (fun b hb => hal.block b hb.2) (fun _ h => h)
    have hs3 : ((w1.alloc (.cells #[.slice A ts.length c, .int .i64 0, .int .i64 0, .int .i64 0] 61)).alloc (.cells zNodC 26)).heap.size = w1.heap.size + 2 := by simp
    have HRES := Lib.hid hres
    have HBB := Lib.hid hbb
    have HTOKS := Lib.hid htoks
    have HPB := Lib.hid hpb
    have HS3 := Lib.hid hs3
    clear hrow hb1 hal hpb hres hbb htoks hs3 hw2
    go_wp2_with (with_reducible refine gate ?_; refine wp_store_node rfl _ _ rfl (w1.heap.size + 1) _ _ _ _ _ _ _ _ _ _ _ _ rfl rfl hrt rfl ?_; intro w4 hw4 hu4)
    have hu4' : Upd (w1.heap.size + 1) ((w1.alloc (.cells #[.slice A ts.length c, .int .i64 0, .int .i64 0, .int .i64 0] 61)).alloc (.cells zNodC 26)) w4 := hu4
    clear hu4
    have hu4 := hu4'
    clear hu4'
    have hs3 := HS3.out
    generalize ((w1.alloc (.cells #[.slice A ts.length c, .int .i64 0, .int .i64 0, .int .i64 0] 61)).alloc (.cells zNodC 26)) = W3 at *
    have hz4 : w1.heap.size + 2 ≤ w4.heap.size := by have := hu4.size; omega
    have h0 : PLo ts l (A) c w1.heap.size w R 0 (ts.length + 1) none w4 :=
      ⟨HR.out, (hu4.block _ (by omega) (by omega)).trans HRES.out, (hu4.block _ (by omega) (by omega)).trans HPB.out, HTOKS.out.keep (fun b hb => hu4.block b (by omega) (by omega)) (fun _ h => h), ⟨zNodeC, hw4, rfl, fun n hn => by cases hn⟩, HBB.out.trans (hu4.below (by omega) (by omega)), by omega, by omega⟩
    have H0 := Lib.hid h0
    clear h0 hs3 hu4 hw4 HR HRES HPB HTOKS HBB HS3 hrt
    go_loopg [10] ts.length (fun k i10 wr => ∃ (i f : Nat) (r : Option Node), i ≤ ts.length ∧ k = ts.length - i ∧ ts.length < i + f ∧ i10 = .bool r.isSome ∧ PLo ts l A c w1.heap.size w R i f r wr)
    case atStart => exact ⟨0, _, none, Nat.zero_le _, by omega, by omega, rfl, H0.out⟩
    case round =>
      clear H0
      obtain ⟨i, f, r, hi, hgk, hf, rfl, hlo⟩ := hrel
      have HGK := Lib.hid hgk
      have HLO := Lib.hid hlo
      obtain ⟨f, rfl⟩ : ∃ g, f = g + 1 := ⟨f - 1, by omega⟩
      obtain ⟨p0, p1, p2, p3⟩ := cells4 hlo.pbk
      have hsz := hlo.lt
      have hpar := hlo.par
      by_cases hlt : i < ts.length
      · have j1 : (0 : Int) ≤ i := by omega
        have j2 : (i : Int) < ts.length := by omega
        obtain ⟨tb, cs, hA, hptb, hrr, hcs⟩ := hlo.toks.at_ hlt
        subst hA
        obtain ⟨TA, tc, rfl, hta, htac⟩ := hcs.open_
        rw [parL_some (List.getElem?_eq_getElem hlt)] at hpar
        have r0 := hrr 0 _ rfl
        have r1 := hrr 1 _ rfl
        have r2 := hrr 2 _ rfl
        have r3 := hrr 3 _ rfl
        have r4 := hrr 4 _ rfl
        have r5 := hrr 5 _ rfl
        rw [Nat.add_zero] at r0
        have htxi := htxt ts[i] (List.getElem_mem hlt)
        generalize ts[i] = u at *
        have HPAR := Lib.hid hpar
        have hL5 : PLo ts l (some ⟨tb, 0, none⟩) c w1.heap.size w R i (f + 1) r (wr.alloc (.cells (tokCells u TA tc) 62)) := hlo.next ((Below.refl _ _).alloc (Nat.le_refl _) _)
        have hu5 : (wr.alloc (.cells (tokCells u TA tc) 62)).heap[wr.heap.size]? = some (.cells (tokCells u TA tc) 62 (0, 0)) := heap_alloc_new wr _
        have hs5 : (wr.alloc (.cells (tokCells u TA tc) 62)).heap.size = wr.heap.size + 1 := by simp
        have HL5 := Lib.hid hL5
        have HU5 := Lib.hid hu5
        have HS5 := Lib.hid hs5
        have pf1 := hlo.pbk.free 1
        clear hlo hrr hL5 hu5 hs5
        have hn1 : ¬ (w1.heap.size = wr.heap.size) := by omega
        have hn2 : ¬ (tb = wr.heap.size) := by omega
        by_cases k1 : u.kind = 1 ∧ r.isSome = true
        · rw [if_pos k1] at hpar
          obtain ⟨k1, k2⟩ := k1
          have y1 : (u.kind == 1) = true := by rw [k1]; rfl
          rw [k2] at *
          clear k1 k2
          have HRR : Hid (R = .error (u.pos, 17)) := hpar.symm
          clear hpar HPAR
          go_wp2_with fail
          generalize wr.alloc (.cells (tokCells u TA tc) 62) = W5 at *
          generalize wr.heap.size = g at *
          obtain ⟨q0, q1, q2, q3, q4, q5⟩ := cells6 HU5.out
          obtain ⟨s0, s1, s2, s3, s4, s5, s6⟩ := cells7 HL5.out.res
          have hfr : ∀ i, W5.frozen? ⟨w.heap.size, i, none⟩ = false := Lib.frozen_of_heap HL5.out.res
          have hgw : ¬ (w.heap.size = g) := by omega
          clear p0 p1 p2 p3 r0 r1 r2 r3 r4 r5
          go_region
          all_goals
            go_wp2_with fail
            refine bodyPost_ret (v := .tuple #[.agg _, _, _]) (res_whole3 Tryz.results13 _ _ w.heap.size rfl 26 zNodC (seven_set HL5.out.res _ _ _ _ _ _ _) Tryz.underlying26 rfl nodeSize _ _ rfl rfl) rfl ⟨?_, ?_⟩
            · rw [HRR.out]; rfl
            · exact (((((((HL5.out.below.setCell (p := ⟨w.heap.size, 0, none⟩) (Nat.le_refl _) _).setCell (p := ⟨w.heap.size, 1, none⟩) (Nat.le_refl _) _).setCell (p := ⟨w.heap.size, 2, none⟩) (Nat.le_refl _) _).setCell (p := ⟨w.heap.size, 3, none⟩) (Nat.le_refl _) _).setCell (p := ⟨w.heap.size, 4, none⟩) (Nat.le_refl _) _).setCell (p := ⟨w.heap.size, 5, none⟩) (Nat.le_refl _) _).setCell (p := ⟨w.heap.size, 6, none⟩) (Nat.le_refl _) _).drew
        · rw [if_neg k1] at hpar
          have y1 : ((u.kind == 1) = true ∧ r.isSome = false) ∨ (u.kind == 1) = false := by
            cases h : (u.kind == 1)
            · exact .inr rfl
            · refine .inl ⟨rfl, ?_⟩
              have h1 : u.kind = 1 := by simpa using h
              cases h2 : r.isSome
              · rfl
              · exact absurd ⟨h1, h2⟩ k1
          clear k1
          by_cases k2 : u.kind = 2
          · rw [if_pos k2] at hpar
            have y1 : (u.kind == 1) = false := by rw [k2]; rfl
            have y2 : (u.kind == 2) = true := by rw [k2]; rfl
            clear k2
            have HRR : Hid (R = .error (u.pos, 14)) := hpar.symm
            clear hpar HPAR
            go_wp2_with fail
            generalize wr.alloc (.cells (tokCells u TA tc) 62) = W5 at *
            generalize wr.heap.size = g at *
            obtain ⟨q0, q1, q2, q3, q4, q5⟩ := cells6 HU5.out
            obtain ⟨s0, s1, s2, s3, s4, s5, s6⟩ := cells7 HL5.out.res
            have hfr : ∀ i, W5.frozen? ⟨w.heap.size, i, none⟩ = false := Lib.frozen_of_heap HL5.out.res
            have hgw : ¬ (w.heap.size = g) := by omega
            clear p0 p1 p2 p3 r0 r1 r2 r3 r4 r5
            go_region
            all_goals
              go_wp2_with fail
              refine bodyPost_ret (v := .tuple #[.agg _, _, _]) (res_whole3 Tryz.results13 _ _ w.heap.size rfl 26 zNodC (seven_set HL5.out.res _ _ _ _ _ _ _) Tryz.underlying26 rfl nodeSize _ _ rfl rfl) rfl ⟨?_, ?_⟩
              · rw [HRR.out]; rfl
              · exact (((((((HL5.out.below.setCell (p := ⟨w.heap.size, 0, none⟩) (Nat.le_refl _) _).setCell (p := ⟨w.heap.size, 1, none⟩) (Nat.le_refl _) _).setCell (p := ⟨w.heap.size, 2, none⟩) (Nat.le_refl _) _).setCell (p := ⟨w.heap.size, 3, none⟩) (Nat.le_refl _) _).setCell (p := ⟨w.heap.size, 4, none⟩) (Nat.le_refl _) _).setCell (p := ⟨w.heap.size, 5, none⟩) (Nat.le_refl _) _).setCell (p := ⟨w.heap.size, 6, none⟩) (Nat.le_refl _) _).drew
          · rw [if_neg k2] at hpar
            have y2 : (u.kind == 2) = false := by rw [beq_eq_false_iff_ne]; exact k2
            have hbl := fun w => refBlank_any u.text w (by omega)
            by_cases k3 : u.kind = 3
            · have y1 : (u.kind == 1) = false := by rw [k3]; rfl
              have y3 : (u.kind == 3) = true := by rw [k3]; rfl
              cases hb : blank u.text
              · rw [hb] at hbl hpar
                rw [if_pos ⟨k3, rfl⟩] at hpar
                have HBL := Lib.hid hbl
                clear hbl k2 k3 hb
                have HRR : Hid (R = .error (u.pos, 7)) := hpar.symm
                clear hpar HPAR
                go_wp2_with (go_at_call 35; refine (HBL.out _).mono ?_; rintro e w' ⟨rfl, rfl⟩)
                generalize wr.alloc (.cells (tokCells u TA tc) 62) = W5 at *
                generalize wr.heap.size = g at *
                obtain ⟨q0, q1, q2, q3, q4, q5⟩ := cells6 HU5.out
                obtain ⟨s0, s1, s2, s3, s4, s5, s6⟩ := cells7 HL5.out.res
                have hfr : ∀ i, W5.frozen? ⟨w.heap.size, i, none⟩ = false := Lib.frozen_of_heap HL5.out.res
                have hgw : ¬ (w.heap.size = g) := by omega
                clear p0 p1 p2 p3 r0 r1 r2 r3 r4 r5
                go_region
                all_goals
                  go_wp2_with fail
                  refine bodyPost_ret (v := .tuple #[.agg _, _, _]) (res_whole3 Tryz.results13 _ _ w.heap.size rfl 26 zNodC (seven_set HL5.out.res _ _ _ _ _ _ _) Tryz.underlying26 rfl nodeSize _ _ rfl rfl) rfl ⟨?_, ?_⟩
                  · rw [HRR.out]; rfl
                  · exact (((((((HL5.out.below.setCell (p := ⟨w.heap.size, 0, none⟩) (Nat.le_refl _) _).setCell (p := ⟨w.heap.size, 1, none⟩) (Nat.le_refl _) _).setCell (p := ⟨w.heap.size, 2, none⟩) (Nat.le_refl _) _).setCell (p := ⟨w.heap.size, 3, none⟩) (Nat.le_refl _) _).setCell (p := ⟨w.heap.size, 4, none⟩) (Nat.le_refl _) _).setCell (p := ⟨w.heap.size, 5, none⟩) (Nat.le_refl _) _).setCell (p := ⟨w.heap.size, 6, none⟩) (Nat.le_refl _) _).drew
              · rw [hb] at hbl hpar
                rw [if_neg (by simp), if_pos k3] at hpar
                have HBL := Lib.hid hbl
                have HP2 := Lib.hid hpar
                clear hbl k2 k3 hb hpar HPAR
                have hn3 : w1.heap.size < wr.heap.size := by omega
                go_wp2_with (go_at_call 35; refine (HBL.out _).mono ?_; rintro e w' ⟨rfl, rfl⟩)
                go_roundg (ts.length - (i + 1))
                case measure => have := HGK.out; omega
                case rel => exact ⟨i + 1, f, r, by omega, rfl, by omega, rfl, (HLO.out.inc HP2.out).next ((Below.refl _ _).alloc (Nat.le_refl _) _)⟩
            · have y3 : (u.kind == 3) = false := by rw [beq_eq_false_iff_ne]; exact k3
              rw [if_neg (by simp [k3]), if_neg k3] at hpar
              clear k2 k3 hbl
              have hcall := refElement_any ts l.length (some ⟨tb, 0, none⟩) c w1.heap.size (fun b => w.heap.size + 1 ≤ b ∧ b < w1.heap.size) (by omega) (fun t ht => by have := htxt t ht; omega) (2 * ts.length) 1 i (wr.alloc (.cells (tokCells u TA tc) 62)) hlt (by omega) (by omega) HL5.out.pbk HL5.out.toks (fun b hb => ⟨by have := HS5.out; omega, by omega⟩)
              cases hel : elemF ts l.length (2 * ts.length) 1 i with
              | error q =>
                have hq := elemF_err hlt (by omega) hel
                rw [hel] at hcall hpar
                simp only at hpar
                have HRR : Hid (R = .error q) := hpar.symm
                have HC := Lib.hid hcall
                have t8 : ((q.2 : Int) == 0) = false := by rw [beq_eq_false_iff_ne]; omega
                have t9 : ((q.2 : Int) != 0) = true := by rw [bne, t8]; rfl
                clear hq hcall hel hpar HPAR
                rcases y1 with ⟨y1, yf⟩ | y1
                all_goals
                  go_wp2_with fail
                  refine (HC.out).mono ?_
                  rintro e w6 ⟨⟨rfl, jj, hpb6⟩, hu6⟩
                  have hs6 := hu6.size
                  have hs5 := HS5.out
                  obtain ⟨csr, hroot, hcsr, _⟩ := HL5.out.root
                  have hrt := (hu6.block (w1.heap.size + 1) (by omega) (by omega)).trans hroot
                  have hcsz : csr.toArray.size = 7 := by simpa using hcsr
                  have hres6 := (hu6.block w.heap.size (by omega) (by omega)).trans HL5.out.res
                  have HB6 := Lib.hid (HL5.out.below.trans (hu6.below (by omega) (HL5.out.below.size)))
                  go_wp2_with ((with_reducible refine gate ?_); (with_reducible refine wp_store_node rfl _ _ rfl (w1.heap.size + 1) _ _ _ _ _ _ _ _ _ _ _ _ rfl rfl hrt hcsz ?_); intro w7 hw7 hu7; have hpb7 := hpb6.upd (by omega) hu7; obtain ⟨z0, z1, z2, z3⟩ := cells4 hpb7)
                  have hres7 := (hu7.block w.heap.size (by omega) (by omega)).trans hres6
                  have HB7 := Lib.hid (HB6.out.trans (hu7.below (by omega) HB6.out.size))
                  obtain ⟨s0, s1, s2, s3, s4, s5, s6⟩ := cells7 hres7
                  have hfr : ∀ i, w7.frozen? ⟨w.heap.size, i, none⟩ = false := Lib.frozen_of_heap hres7
                  have hpw : ¬ (w.heap.size = w1.heap.size) := by omega
                  have HRES := Lib.hid hres7
                  clear hres7 hu7 hw7 hu6 hpb6 hres6 hrt hroot z0 z1 hpb7
                  go_region
                  all_goals
                    go_wp2_with fail
                    refine bodyPost_ret (v := .tuple #[.agg _, _, _]) (res_whole3 Tryz.results13 _ _ w.heap.size rfl 26 zNodC (seven_set HRES.out _ _ _ _ _ _ _) Tryz.underlying26 rfl nodeSize _ _ rfl rfl) rfl ⟨?_, ?_⟩
                    · rw [HRR.out]; rfl
                    · exact (((((((HB7.out.setCell (p := ⟨w.heap.size, 0, none⟩) (Nat.le_refl _) _).setCell (p := ⟨w.heap.size, 1, none⟩) (Nat.le_refl _) _).setCell (p := ⟨w.heap.size, 2, none⟩) (Nat.le_refl _) _).setCell (p := ⟨w.heap.size, 3, none⟩) (Nat.le_refl _) _).setCell (p := ⟨w.heap.size, 4, none⟩) (Nat.le_refl _) _).setCell (p := ⟨w.heap.size, 5, none⟩) (Nat.le_refl _) _).setCell (p := ⟨w.heap.size, 6, none⟩) (Nat.le_refl _) _).drew
              | ok q =>
                obtain ⟨n, j⟩ := q
                have hjj := elemF_ok hel
                rw [hel] at hcall hpar
                simp only at hpar
                have HP2 := Lib.hid hpar
                have HC := Lib.hid hcall
                clear hcall hel hpar HPAR
                rcases y1 with ⟨y1, yf⟩ | y1
                all_goals
                  go_wp2_with fail
                  refine (HC.out).mono ?_
                  rintro e w6 ⟨⟨v, rfl, hnv, hpb6⟩, hu6⟩
                  obtain ⟨cs, rfl, hn6⟩ := hnv
                  obtain ⟨NA, nc, NK, nd, rfl, _, _, _, _⟩ := hn6.open_
                  have hs6 := hu6.size
                  have hs5 := HS5.out
                  obtain ⟨csr, hroot, hcsr, _⟩ := HL5.out.root
                  have hrt := (hu6.block (w1.heap.size + 1) (by omega) (by omega)).trans hroot
                  have hcsz : csr.toArray.size = 7 := by simpa using hcsr
                  go_wp2_with ((with_reducible refine gate ?_); (with_reducible refine wp_store_node rfl _ _ rfl (w1.heap.size + 1) _ _ _ _ _ _ _ _ _ _ _ _ rfl rfl hrt hcsz ?_); intro w7 hw7 hu7; have hpb7 := hpb6.upd (by omega) hu7; obtain ⟨z0, z1, z2, z3⟩ := cells4 hpb7)
                  go_roundg (ts.length - j)
                  case measure => have := HGK.out; omega
                  case rel => exact ⟨j, f, some n, hjj.2, rfl, by omega, rfl, PLo.put HL5.out hu6 hpb6 hu7 rfl hw7 hn6 HP2.out⟩
      · have hil : i = ts.length := by omega
        have j3 : decide ((i : Int) < ts.length) = false := by simp; omega
        have j4 : ¬ (i : Int) < ts.length := by omega
        rw [parL_none (List.getElem?_eq_none (by omega))] at hpar
        have hres := hlo.res
        clear hil
        cases r with
        | none =>
          have HRR : Hid (R = .error ((l.length : Int), 8)) := hpar.symm
          clear hpar hlo
          go_wp2_with (with_reducible refine gate ?_; refine wp_store_node rfl _ _ rfl w.heap.size _ _ _ _ _ _ _ _ _ _ _ _ rfl rfl hres rfl ?_; intro w2 hw2 hu2)
          refine bodyPost_ret (v := .tuple #[.agg _, _, _]) (res_whole3 Tryz.results13 _ _ w.heap.size rfl _ _ hw2 Tryz.underlying26 rfl nodeSize _ _ rfl rfl) rfl ⟨?_, ?_⟩
          · rw [HRR.out]; rfl
          · exact HLO.out.below.trans (hu2.below (Nat.le_refl _) HLO.out.below.size)
        | some n =>
          have HRR : Hid (R = .ok n) := hpar.symm
          obtain ⟨cs, hroot, hcl, hn⟩ := hlo.root
          have hn := hn n rfl
          obtain ⟨NA, nc, NK, nd, rfl, _, _, _, _⟩ := hn.open_
          have hra := range_of_heap hroot
          clear hpar hlo hroot
          go_wp2_with (first
            | (with_reducible refine gate ?_; refine wp_load_node rfl _ rfl (w1.heap.size + 1) 0 rfl _ rfl hra ?_)
            | (with_reducible refine gate ?_; refine wp_store_node rfl _ _ rfl w.heap.size _ _ _ _ _ _ _ _ _ _ _ _ rfl rfl hres rfl ?_; intro w2 hw2 hu2))
          refine bodyPost_ret (v := .tuple #[.agg _, _, _]) (res_whole3 Tryz.results13 _ _ w.heap.size rfl _ _ hw2 Tryz.underlying26 rfl nodeSize _ _ rfl rfl) rfl ⟨?_, ?_⟩
          · rw [HRR.out]
            refine ⟨_, rfl, _, rfl, ?_⟩
            have hz2 := hu2.size
            exact NodeP.keep (fun b hb => hu2.block b (hb.elim (fun x => by omega) (fun x => x.2)) (hb.elim (fun x => by omega) (fun x => by omega))) (fun b hb => hb.elim (fun x => ⟨by omega, by omega⟩) (fun x => ⟨by omega, by omega⟩)) n _ hn
          · exact HLO.out.below.trans (hu2.below (Nat.le_refl _) HLO.out.below.size)
  · rw [if_pos her] at hR
    have t6 : ((er : Int) == 0) = false := by rw [beq_eq_false_iff_ne]; omega
    have t7 : ((er : Int) != 0) = true := by rw [bne, t6]; rfl
    have HR := Lib.hid hR
    clear hR her
    go_enter Tryz.func13, Tryz.ntmps13
    go_wp2_with fail
    refine (HTK.out _).mono ?_
    rintro e w1 ⟨⟨v, rfl, hrow⟩, hb1⟩
    have hres := (hb1.block w.heap.size (by simp)).trans (heap_alloc_new w (.cells zNodC 26))
    have HB1 := Lib.hid (((Below.refl _ _).alloc (Nat.le_refl _) (.cells zNodC 26)).trans (hb1.mono (by simp)))
    clear hrow hb1
    go_wp2_with (with_reducible refine gate ?_; refine wp_store_node rfl _ _ rfl w.heap.size _ _ _ _ _ _ _ _ _ _ _ _ rfl rfl hres rfl ?_; intro w2 hw2 hu2)
    refine bodyPost_ret (v := .tuple #[.agg _, _, _]) (res_whole3 Tryz.results13 _ _ w.heap.size rfl _ _ hw2 Tryz.underlying26 rfl nodeSize _ _ rfl rfl) rfl ⟨?_, ?_⟩
    · rw [← HR.out]; rfl
    · exact HB1.out.trans (hu2.below (Nat.le_refl _) HB1.out.size)
end Go.Proofs.YtclhdppppgjgfaaGreatDoor
set_option linter.unusedVariables false
namespace Go.Proofs.YtclhdppppgjgfaaGreatDoor

theorem attsF_append (a b : List Att) : attsF (a ++ b) = attsF a + attsF b := by
  induction a with
  | nil => simp [attsF]
  | cons x a ih => simp only [List.cons_append, attsF, ih]; omega
theorem attAt_size {l : Bytes} {a n : Nat} {b : Att} {e : Nat} (h : attAt l a n = .ok (b, e)) : n ≤ e ∧ attF b ≤ 4 * (e - n) := by
  unfold attAt at h
  split at h
  · cases h
  · split at h
    · cases h
    · split at h
      · cases h
      · have s1 := spEnd_ge l (n + nameLen (l.drop n))
        have s2 := spEnd_ge l (spEnd l (n + nameLen (l.drop n)) + 1)
        generalize spEnd l (spEnd l (n + nameLen (l.drop n)) + 1) = y at *
        generalize spEnd l (n + nameLen (l.drop n)) = x at *
        unfold valAt at h
        have s3 := valEnd_ge l (l.getD y 0) (y + 1)
        generalize valEnd l (l.getD y 0) (y + 1) = z at *
        cases hc : cont true l (y + 1) z with
        | error q => rw [hc] at h; cases h
        | ok v =>
          rw [hc] at h
          simp only at h
          split at h
          · cases h
          · split at h
            · cases h
            · cases h
              have := contS_len true _ _ _ _ hc
              simp only [List.length_drop, List.length_take] at this
              unfold attF
              simp only [List.length_nil, List.length_take, List.length_drop]
              omega
theorem tagF_size {l : Bytes} {a : Nat} : ∀ {f n : Nat} {bs cs : List Att} {em : Bool} {e : Nat}, tagF l a f n bs = .ok (cs, em, e) → n ≤ e ∧ attsF cs ≤ attsF bs + 4 * (e - n)
  | 0, _, _, _, _, _, h => by rw [tagF] at h; cases h
  | f + 1, n, bs, cs, em, e, h => by
    rw [tagF] at h
    have s1 := spEnd_ge l n
    split at h
    · cases h; omega
    · split at h
      · cases h; omega
      · split at h
        · cases h
        · split at h
          · cases h
          · cases ha : attAt l a (spEnd l n) with
            | error q => rw [ha] at h; cases h
            | ok p =>
              obtain ⟨b, e2⟩ := p
              rw [ha] at h
              have h1 := attAt_size ha
              simp only at h
              split at h
              · cases h
              · have h2 := tagF_size h
                rw [attsF_append] at h2
                simp only [attsF] at h2
                omega
/-- What a token adds to a tree. -/
def tokW (t : Tok) : Nat := 1 + t.name.length + t.text.length + attsF t.attrs
def toksW : List Tok → Nat
  | [] => 0
  | t :: ts => tokW t + toksW ts
theorem toksW_append (a b : List Tok) : toksW (a ++ b) = toksW a + toksW b := by
  induction a with
  | nil => simp [toksW]
  | cons x a ih => simp only [List.cons_append, toksW, ih]; omega
theorem toksW_drop {ts : List Tok} {i : Nat} {t : Tok} (h : ts[i]? = some t) : toksW (ts.drop i) = tokW t + toksW (ts.drop (i + 1)) := by
  obtain ⟨hi, ht⟩ := List.getElem?_eq_some_iff.1 h
  rw [List.drop_eq_getElem_cons hi, toksW, ht]
theorem consAt_size {l : Bytes} {a e : Nat} {t : Tok} (ha : a < l.length) (h : consAt l a = .ok (t, e)) : tokW t ≤ 5 * (e - a) := by
  have hae := consAt_ok ha h
  have hsk : ∀ {m : Nat} {s : Bytes} {g : Nat → Tok × Nat} {t : Tok} {k : Nat}, (skipAt l a m s).map g = .ok (t, k) → ∃ e, (t, k) = g e := by
    intro m s g t k h
    cases hq : skipAt l a m s with
    | error y => rw [hq] at h; cases h
    | ok y => rw [hq] at h; simp [Except.map] at h; exact ⟨y, h.symm⟩
  unfold consAt at h
  split at h
  · obtain ⟨e, he⟩ := hsk h; cases he; simp [tokW, zTok, attsF]; omega
  · split at h
    · obtain ⟨e, he⟩ := hsk h; cases he; simp [tokW, zTok, attsF]; omega
    · split at h
      · obtain ⟨e', he⟩ := hsk h
        obtain ⟨rfl, rfl⟩ := Prod.mk.inj he
        have := linesB_len ((l.drop (a + 9)).take (e - 3 - (a + 9)))
        simp only [List.length_take, List.length_drop] at this
        simp only [tokW, attsF, List.length_nil]
        omega
      · split at h
        · cases h
        · split at h
          · cases h
          · split at h
            · unfold endAt at h
              split at h
              · cases h
              · split at h
                · have s1 := spEnd_ge l (a + 2 + nameLen (l.drop (a + 2)))
                  cases h
                  simp only [tokW, attsF, List.length_nil, List.length_take, List.length_drop]
                  omega
                · cases h
            · split at h
              · unfold startAt at h
                split at h
                · cases h
                · cases ht : tagS l a (a + 1 + nameLen (l.drop (a + 1))) [] with
                  | error y => rw [ht] at h; cases h
                  | ok p =>
                    obtain ⟨bs, em, e2⟩ := p
                    rw [ht] at h
                    have := tagF_size ht
                    cases h
                    simp only [tokW, attsF, List.length_nil, List.length_take, List.length_drop] at *
                    omega
              · cases hc : cont false l a (textEnd l a) with
                | error x => rw [hc] at h; cases h
                | ok x =>
                  rw [hc] at h
                  cases h
                  have := contS_len false _ _ _ _ hc
                  simp only [List.length_drop, List.length_take] at this
                  simp only [tokW, attsF, List.length_nil]
                  omega
theorem tokF_size {l : Bytes} : ∀ (f n : Nat) (ts ts' : List Tok), tokF l f n ts = .ok ts' → n ≤ l.length → toksW ts' ≤ toksW ts + 5 * (l.length - n)
  | 0, _, _, _, h, _ => by rw [tokF] at h; cases h
  | f + 1, n, ts, ts', h, hn => by
    rw [tokF] at h
    split at h
    · rename_i hlt
      cases hc : consAt l n with
      | error e => rw [hc] at h; cases h
      | ok p =>
        obtain ⟨t, k⟩ := p
        rw [hc] at h
        have hk := consAt_ok hlt hc
        have hs := consAt_size hlt hc
        simp only at h
        have := tokF_size f k _ _ h hk.2
        split at this
        · rw [toksW_append] at this; simp only [toksW] at this; omega
        · omega
    · cases h; omega
theorem toks_size (l : Bytes) : toksW (toks l).1 ≤ 5 * l.length := by
  unfold toks
  split
  · simp [toksW]
  · have h0 : (if hasAt l 0 sBom = true then 3 else 0) ≤ l.length := by
      split
      · rename_i h
        have := hasAt_le h
        simp [sBom] at this; omega
      · omega
    generalize (if hasAt l 0 sBom = true then 3 else 0) = z at *
    cases h : tokS l z [] with
    | error e => simp [toksW]
    | ok ts =>
      have := tokF_size _ _ _ _ h h0
      simp only [toksW] at this
      show toksW ts ≤ _
      omega

/-! The tree. -/
theorem fullL_append (a b : List Node) : fullL (a ++ b) = fullL a + fullL b := by
  induction a with
  | nil => simp [fullL]
  | cons x a ih => simp only [List.cons_append, fullL, ih]; omega
theorem last_split {ks : List Node} {n : Node} (h : ks.getLast? = some n) : ks = ks.dropLast ++ [n] := by
  obtain ⟨ys, rfl⟩ := List.getLast?_eq_some_iff.1 h
  simp
theorem addText_full (ks : List Node) (u : Tok) : fullL (addText ks u) ≤ fullL ks + tokW u := by
  have hnew : fullL (ks ++ [.mk 1 [] [] [] [] u.text u.pos]) ≤ fullL ks + tokW u := by
    rw [fullL_append]
    simp only [fullL, full, attsF, List.length_nil, tokW]
    omega
  unfold addText
  split
  · rename_i k s n ats kk t p hl
    have hs := congrArg fullL (last_split hl)
    split
    · rw [fullL_append] at hs ⊢
      simp only [fullL, full, List.length_append, tokW] at *
      omega
    · exact hnew
  · exact hnew
mutual
theorem elemF_full {ts : List Tok} {en : Nat} : ∀ {f d i : Nat} {n : Node} {j : Nat}, elemF ts en f d i = .ok (n, j) → full n + toksW (ts.drop j) ≤ toksW (ts.drop i)
  | 0, _, _, _, _, h => by rw [elemF] at h; cases h
  | f + 1, d, i, n, j, h => by
    rw [elemF] at h
    cases ht : ts[i]? with
    | none => rw [ht] at h; cases h
    | some t =>
      have hd := toksW_drop ht
      rw [ht] at h
      simp only at h
      split at h
      · cases h
      · split at h
        · cases h
          simp only [full, fullL, List.length_nil]
          unfold tokW at hd
          omega
        · cases hk : kidsF ts en f d t.name (i + 1) [] with
          | error e => rw [hk] at h; cases h
          | ok p =>
            obtain ⟨ks, j'⟩ := p
            rw [hk] at h
            cases h
            have := kidsF_full hk
            simp only [full, fullL, List.length_nil] at *
            unfold tokW at hd
            omega
theorem kidsF_full {ts : List Tok} {en : Nat} : ∀ {f d : Nat} {nm : Bytes} {i : Nat} {ks ks' : List Node} {j : Nat}, kidsF ts en f d nm i ks = .ok (ks', j) → fullL ks' + toksW (ts.drop j) ≤ fullL ks + toksW (ts.drop i)
  | 0, _, _, _, _, _, _, h => by rw [kidsF] at h; cases h
  | f + 1, d, nm, i, ks, ks', j, h => by
    rw [kidsF] at h
    cases ht : ts[i]? with
    | none => rw [ht] at h; cases h
    | some t =>
      have hd := toksW_drop ht
      rw [ht] at h
      simp only at h
      split at h
      · split at h
        · cases h; omega
        · cases h
      · split at h
        · cases he : elemF ts en f (d + 1) i with
          | error e => rw [he] at h; cases h
          | ok p =>
            obtain ⟨k, j'⟩ := p
            rw [he] at h
            have h1 := elemF_full he
            have h2 := kidsF_full h
            rw [fullL_append] at h2
            simp only [fullL] at h2
            omega
        · have h2 := kidsF_full h
          have h3 := addText_full ks t
          omega
end
theorem parL_full {ts : List Tok} {en : Nat} : ∀ {f i : Nat} {r : Option Node} {n : Node}, parL ts en f i r = .ok n → (∀ m, r = some m → full m + toksW (ts.drop i) ≤ toksW ts) → toksW (ts.drop i) ≤ toksW ts → full n ≤ toksW ts
  | 0, _, _, _, h, _, _ => by rw [parL.eq_def] at h; simp at h
  | f + 1, i, r, n, h, hr, hi => by
    rw [parL.eq_def] at h
    simp only at h
    cases ht : ts[i]? with
    | none =>
      rw [ht] at h
      cases r with
      | none => cases h
      | some m => cases h; have := hr _ rfl; omega
    | some t =>
      have hd := toksW_drop ht
      rw [ht] at h
      simp only at h
      split at h
      · cases h
      · split at h
        · cases h
        · split at h
          · cases h
          · split at h
            · exact parL_full h (fun m hm => by have := hr m hm; omega) (by omega)
            · cases he : elemF ts en (2 * ts.length) 1 i with
              | error e => rw [he] at h; cases h
              | ok p =>
                obtain ⟨k, j⟩ := p
                rw [he] at h
                have h1 := elemF_full he
                exact parL_full h (fun m hm => by cases hm; omega) (by omega)
theorem parse_full {l : Bytes} {n : Node} (h : parse l = .ok n) : full n ≤ 5 * l.length := by
  unfold parse at h
  split at h
  · cases h
  · have := parL_full h (fun m hm => by cases hm) (by simp)
    have := toks_size l
    omega

/-! A property of all nodes of the tree: what holds of a bare text holds of every text, and so on. -/
end Go.Proofs.YtclhdppppgjgfaaGreatDoor
set_option linter.unusedVariables false
namespace Go.Proofs.YtclhdppppgjgfaaGreatDoor
open Go.RowKit

mutual
theorem eqv_refl7 (o : Bool) : ∀ n : Node, eqv o n n = true
  | .mk k s nm ats ks t p => by
    rw [eqv]
    have h1 : headEqv o (.mk k s nm ats ks t p) (.mk k s nm ats ks t p) = true := by simp [headEqv]
    rw [h1]
    simp only [Node.attrs, Node.kids]
    rw [attsEqv_refl7 o ats, kidsEqv_refl7 o ks]; rfl
theorem kidsEqv_refl7 (o : Bool) : ∀ ks : List Node, kidsEqv o ks ks = true
  | [] => kidsEqv_nil _ _
  | k :: ks => by rw [kidsEqv, eqv_refl7 o k, kidsEqv_refl7 o ks]; rfl
theorem attsEqv_refl7 (o : Bool) : ∀ l : List Att, attsEqv o l l = true
  | [] => attsEqv_nil _ _
  | a :: l => by rw [attsEqv, attsEqv_refl7 o l]; simp [attEqv]
end
theorem slim_full (g : Nat) : ∀ n : Node, nsz n ≤ g → full n ≤ 2600000000 → Slim n := by
  induction g with
  | zero => intro n h; cases n; rw [nsz] at h; omega
  | succ g ih =>
    intro n h hf
    have h1 := full_form n
    have h2 := attsF_len n.attrs
    have h3 := fullL_len n.kids
    exact .mk (by omega) (by omega) (fun k hk => ih k (by have := nsz_lt n hk; omega) (by have := fullL_mem hk; omega))
theorem slim_of_full {n : Node} (h : full n ≤ 2600000000) : Slim n := slim_full _ n (Nat.le_refl _) h
theorem Slim.fit {n : Node} (h : Slim n) : Fit n := by
  induction h with
  | mk ha hk _ ih => exact Fit.of_form (by omega) (by omega) ih
theorem fit_of_full {n : Node} (h : full n ≤ 2600000000) : Fit n := (slim_of_full h).fit
theorem parse_slim {l : Bytes} {n : Node} (hl : l.length ≤ 100000) (h : parse l = .ok n) : Slim n ∧ Fit n ∧ full n ≤ 500000 := by
  have := parse_full h
  exact ⟨slim_of_full (by omega), fit_of_full (by omega), by omega⟩
/-- Both parsers answer alike: the program's answer is the reference's. -/
theorem ParRes7.err {w w' : World} {l : Bytes} {q : Int × Nat} {e : Ending} (h : ParRes7 w w' l (.error q) e) : e = .returned (.tuple #[zNodeV, .int .i64 q.1, .int .i64 q.2]) := h
end Go.Proofs.YtclhdppppgjgfaaGreatDoor
set_option linter.unusedVariables false
namespace Go.Proofs.YtclhdppppgjgfaaGreatDoor
open Go.RowKit

abbrev nodeAgg (n : Node) (A : Option Addr) (c : Nat) (K : Option Addr) (d : Nat) : Value :=
  .agg #[.int .i64 n.kind, .string (S n.space), .string (S n.name), .slice A n.attrs.length c, .slice K n.kids.length d, .string (S n.text), .int .i64 n.pos]
abbrev nodeList (n : Node) (A : Option Addr) (c : Nat) (K : Option Addr) (d : Nat) : List Value :=
  [.int .i64 n.kind, .string (S n.space), .string (S n.name), .slice A n.attrs.length c, .slice K n.kids.length d, .string (S n.text), .int .i64 n.pos]
/-- A variable of type Node. -/
structure Nbx (W : World) (b : Nat) (n : Node) (A : Option Addr) (c : Nat) (K : Option Addr) (d : Nat) : Prop where
  box : W.heap[b]? = some (nodeBox n A c K d)
  tree : NodeV W W.heap.size n (nodeAgg n A c K d)
section
variable {w W W' : World} {b : Nat} {n : Node} {A : Option Addr} {c : Nat} {K : Option Addr} {d : Nat}
theorem Nbx.lt (h : Nbx W b n A c K d) : b < W.heap.size := heap_lt h.box
theorem Nbx.keep (h : Nbx W b n A c K d) (hb : Below W.heap.size W W') : Nbx W' b n A c K d :=
  ⟨(hb.block b h.lt).trans h.box, h.tree.keep (fun k hk => hb.block k hk) hb.size⟩
theorem Nbx.new (h : NodeV w w.heap.size n (nodeAgg n A c K d)) : Nbx (w.alloc (nodeBox n A c K d)) w.heap.size n A c K d :=
  ⟨heap_alloc_new _ _, h.keep (fun k hk => Below.heap_alloc _ _ _ hk) (by simp)⟩
theorem Nbx.range (h : Nbx W b n A c K d) : W.rangeAt b 0 (nodeList n A c K d) := range_of_heap h.box
theorem Nbx.cells (h : Nbx W b n A c K d) :
    W.cell? ⟨b, 0, none⟩ = some (.int .i64 n.kind) ∧ W.cell? ⟨b, 1, none⟩ = some (.string (S n.space)) ∧ W.cell? ⟨b, 2, none⟩ = some (.string (S n.name)) ∧ W.cell? ⟨b, 3, none⟩ = some (.slice A n.attrs.length c) ∧
    W.cell? ⟨b, 4, none⟩ = some (.slice K n.kids.length d) ∧ W.cell? ⟨b, 5, none⟩ = some (.string (S n.text)) ∧ W.cell? ⟨b, 6, none⟩ = some (.int .i64 n.pos) := cells7 h.box
end
/-- The tree, the offset and the error of a parse. -/
def treeR : Except (Int × Nat) Node → Node | .error _ => zNodeN | .ok n => n
def atR (l : Bytes) : Except (Int × Nat) Node → Int | .error q => q.1 | .ok _ => l.length
def erR : Except (Int × Nat) Node → Int | .error q => q.2 | .ok _ => 0
theorem zNodeV7 (w : World) (B : Nat) : NodeV w B zNodeN zNodeV := ⟨_, rfl, NodeP.toIn (p := fun k => k < B) (fun _ h => h) _ _ (NodeP.of_form (n := zNodeN) ⟨none, 0, rfl, Nat.le_refl _, .inl rfl⟩ ⟨none, 0, rfl, Nat.le_refl _, .inl rfl⟩)⟩
/-- What a parser of trees returns. -/
def BothR (w' : World) (l : Bytes) (r : Except (Int × Nat) Node) (e : Ending) : Prop :=
  ∃ A c K d, e = .returned (.tuple #[nodeAgg (treeR r) A c K d, .int .i64 (atR l r), .int .i64 (erR r)]) ∧ NodeV w' w'.heap.size (treeR r) (nodeAgg (treeR r) A c K d)
theorem ParRes7.both {w w' : World} {l : Bytes} {r : Except (Int × Nat) Node} {e : Ending} (h : ParRes7 w w' l r e) : BothR w' l r e := by
  cases r with
  | error q => exact ⟨none, 0, none, 0, h, zNodeV7 _ _⟩
  | ok n =>
    obtain ⟨v, rfl, hv⟩ := h
    have hn : NodeV w' w'.heap.size n v := hv.toV (fun k hk => hk.2)
    obtain ⟨A, c, K, d, rfl, _⟩ := hn.open_
    exact ⟨A, c, K, d, rfl, hn⟩
theorem ParRes.both {w w' : World} {l : Bytes} {r : Except (Int × Nat) Node} {e : Ending} (h : ParRes w w' l r e) : BothR w' l r e := by
  cases r with
  | error q => exact ⟨none, 0, none, 0, h, zNodeV7 _ _⟩
  | ok n =>
    obtain ⟨v, rfl, hv⟩ := h
    have hn : NodeV w' w'.heap.size n v := hv.toV (fun k hk => hk.2)
    obtain ⟨A, c, K, d, rfl, _⟩ := hn.open_
    exact ⟨A, c, K, d, rfl, hn⟩
theorem parse7_both (l : Bytes) (m : Int) (w : World) (hT : Tabs w) (hM : MaxLen m w) (hl : l.length ≤ 100000) :
    Calls Tryz.prog 12 #[.string (S l)] w fun e w' => BothR w' l (parse l) e ∧ Below w.heap.size w w' :=
  (parse7_any l m w hT hM hl).mono fun e w' h => ⟨h.1.both, h.2⟩
theorem refParse_both (l : Bytes) (w : World) (hl : l.length ≤ 100000) :
    Calls Tryz.prog 13 #[.string (S l)] w fun e w' => BothR w' l (parse l) e ∧ Below w.heap.size w w' :=
  (refParse_any l w hl).mono fun e w' h => ⟨h.1.both, h.2⟩
theorem treeR_facts {l : Bytes} (hl : l.length ≤ 100000) : Slim (treeR (parse l)) ∧ Fit (treeR (parse l)) ∧ full (treeR (parse l)) ≤ 500000 := by
  cases h : parse l with
  | error q => exact ⟨slim_of_full (n := zNodeN) (by decide), fit_of_full (n := zNodeN) (by decide), show full zNodeN ≤ 500000 by decide⟩
  | ok n => exact parse_slim hl h
end Go.Proofs.YtclhdppppgjgfaaGreatDoor
