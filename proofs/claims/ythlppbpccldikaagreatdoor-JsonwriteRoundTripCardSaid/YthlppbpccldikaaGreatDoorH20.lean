/-
  Several texts in one file, in build order:
  - Walks of chapter 11, the reference: Parse.
  - Walk of chapter 11's reference: the comparison of two values whose heads differ. Written by gen_eqj.py.
  - Walk of chapter 11's reference: the comparison of two values.
  - Walks of chapter 11's statements: the program's parser against the reference's.
-/
import Derived.Test.YthlppbpccldikaaGreatDoorH19
import Derived.Test.YthlppbpccldikaaGreatDoorH14
import Derived.Test.YthlppbpccldikaaGreatDoorH2
import Derived.Test.YthlppbpccldikaaGreatDoorH17
import Derived.Test.YthlppbpccldikaaGreatDoorH15
set_option linter.unusedVariables false
namespace Go.Proofs.YthlppbpccldikaaGreatDoor
open Go.RowKit

theorem wp_store_valP {ops : Array Oper} {rest : List Oper} {o : Oper} {a : Act} {w : World} {Q : Exit → Act → World → Prop} (hgd : o.guard = none) (x y : Operand) (ho : o.op = .store 26 x y)
    (g : Nat) (cur : Array Value) (k n p : Int) (b : Bool) (s : ByteArray) (I M : Option Addr) (i c m d : Nat) (hx : a.eval x = .pointer (some ⟨g, 0, none⟩)) (hy : a.eval y = .agg #[.int .i64 k, .bool b, .int .i64 n, .string s, .slice I i c, .slice M m d, .int .i64 p])
    (hg : w.heap[g]? = some (.cells cur 26 (0, 0))) (hs : cur.size = 7)
    (h : ∀ w', w'.heap[g]? = some (.cells #[.int .i64 k, .bool b, .int .i64 n, .string s, .slice I i c, .slice M m d, .int .i64 p] 26 (0, 0)) → Upd g w w' → wpList Tryz.prog ops Q rest (a.put o.dst undef) w') : wpList Tryz.prog ops Q (o :: rest) a w :=
  wp_store_whole hgd 26 x y ho g 26 cur _ hx hy hg (by rw [hs]; rfl) valSize (by simp [Value.oneCell']) h
/-- What Parse returns. -/
def ParJ (w w' : World) (l : Bytes) (r : Except (Nat × Nat) JV) (e : Ending) : Prop :=
  match r with
  | .error q => e = .returned (.tuple #[zValV, .int .i64 q.1, .int .i64 q.2])
  | .ok v => ∃ u, e = .returned (.tuple #[u, .int .i64 l.length, .int .i64 0]) ∧ ValV w' (fun b => w.heap.size ≤ b ∧ b < w'.heap.size) v u
abbrev zValC : Array Value := #[.int .i64 0, .bool false, .int .i64 0, .string ByteArray.empty, .slice none 0 0, .slice none 0 0, .int .i64 0]
theorem res_whole3J {P : Program} {fn : Func} {p q r : Tmp} {ty : TypeId} (h : fn.results = #[.cell p ty, .tmp q, .tmp r]) (tmps : Array Value) (w : World) (g : Nat) (ht : tmps.getD p undef = .pointer (some ⟨g, 0, none⟩)) (t : TypeId) (cells : Array Value) (hg : w.heap[g]? = some (.cells cells t (0, 0)))
    {d : TypeDesc} (hu : P.underlying ty = some d) (hd : d.isRow = true) (hi : (P.info? ty).map (·.size) = some cells.size) (x y : Value) (hx : tmps.getD q undef = x) (hy : tmps.getD r undef = y) : (results fn tmps).run P w = .ok (.tuple #[.agg cells, x, y]) w := by
  have hc : w.rangeAt g 0 cells.toList := fun j v hv => by rw [Nat.zero_add, Lib.cell_of_heap hg]; simpa using hv
  have hl := run_loadVar_mid (P := P) w g 0 ty cells.toList d hc hu hd (by simpa using hi)
  rw [Array.toArray_toList] at hl
  subst hx hy
  have ht' : tmps[p]?.getD undef = .pointer (some ⟨g, 0, none⟩) := by simpa using ht
  simp only [results, h]
  simp [ht', asAddr, hl]

theorem seven_setJ {W : World} {b : Nat} {t : TypeId} {c0 c1 c2 c3 c4 c5 c6 : Value} (h : W.heap[b]? = some (.cells #[c0, c1, c2, c3, c4, c5, c6] t (0, 0))) (v0 v1 v2 v3 v4 v5 v6 : Value) :
    (((((((W.setCell ⟨b, 0, none⟩ v0).setCell ⟨b, 1, none⟩ v1).setCell ⟨b, 2, none⟩ v2).setCell ⟨b, 3, none⟩ v3).setCell ⟨b, 4, none⟩ v4).setCell ⟨b, 5, none⟩ v5).setCell ⟨b, 6, none⟩ v6).drew.heap[b]? = some (.cells #[v0, v1, v2, v3, v4, v5, v6] t (0, 0)) := by
  show (World.drew _).heap[b]? = _
  have dh : ∀ W : World, W.drew.heap = W.heap := fun _ => rfl
  rw [dh]
  have a1 : _ = some (Obj.cells #[v0, c1, c2, c3, c4, c5, c6] t (0, 0)) := heap_set (i := 0) h v0
  have a2 : _ = some (Obj.cells #[v0, v1, c2, c3, c4, c5, c6] t (0, 0)) := heap_set (i := 1) a1 v1
  have a3 : _ = some (Obj.cells #[v0, v1, v2, c3, c4, c5, c6] t (0, 0)) := heap_set (i := 2) a2 v2
  have a4 : _ = some (Obj.cells #[v0, v1, v2, v3, c4, c5, c6] t (0, 0)) := heap_set (i := 3) a3 v3
  have a5 : _ = some (Obj.cells #[v0, v1, v2, v3, v4, c5, c6] t (0, 0)) := heap_set (i := 4) a4 v4
  have a6 : _ = some (Obj.cells #[v0, v1, v2, v3, v4, v5, c6] t (0, 0)) := heap_set (i := 5) a5 v5
  exact heap_set (i := 6) a6 v6
theorem ran7 {w : World} {b : Nat} {c0 c1 c2 c3 c4 c5 c6 c7 c8 : Value} {t : TypeId} {fr : Nat × Nat} (h : w.heap[b]? = some (.cells #[c0, c1, c2, c3, c4, c5, c6, c7, c8] t fr)) : w.rangeAt b 0 [c0, c1, c2, c3, c4, c5, c6] := fun j u hj => by
  rw [Nat.zero_add, Lib.cell_of_heap h]
  have hj7 : j < 7 := (List.getElem?_eq_some_iff.1 hj).1
  match j, hj7, hj with
  | 0, _, hj => exact hj
  | 1, _, hj => exact hj
  | 2, _, hj => exact hj
  | 3, _, hj => exact hj
  | 4, _, hj => exact hj
  | 5, _, hj => exact hj
  | 6, _, hj => exact hj
set_option maxHeartbeats 4000000 in
set_option maxRecDepth 100000 in
theorem refParse11_any (l : Bytes) (w : World) (hl : l.length ≤ 1000000) :
    Calls Tryz.prog 8 #[.string (S l)] w fun e w' => ParJ w w' l (parseJ l) e ∧ Below w.heap.size w w' := by
  have hh : ∀ W, Calls Tryz.prog 23 #[.string (S l), .int .i64 0, .string ⟨#[239, 187, 191]⟩] W fun e w' => e = .returned (.bool (hasAt l 0 sBomJ)) ∧ W = w' := fun W => refHas_any l 0 sBomJ W (by omega) (by omega) (by simp [sBomJ]) (by simp [sBomJ])
  have hst := startJ_le (l := l)
  have hB1 := (Below.refl w.heap.size w).alloc (Nat.le_refl _) (.cells zValC 26)
  have hR1 := heap_alloc_new w (.cells zValC 26)
  have hcall : ∀ W, Calls Tryz.prog 24 #[.string (S l), .int .i64 (startJ l), .int .i64 1] W fun e w' => ResR w' (fun b => W.heap.size ≤ b ∧ b < w'.heap.size) (pvV l (2 * l.length + 2) 1 (startJ l)) e ∧ Below W.heap.size W w' := fun W => refValue_ok l hl (2 * l.length + 2) 1 (startJ l) W hst (by omega) (by omega)
  have HB1 := Lib.hid hB1
  have HR1 := Lib.hid hR1
  clear hB1 hR1
  obtain ⟨R, hR⟩ : ∃ R, parseJ l = R := ⟨_, rfl⟩
  rw [hR]
  unfold parseJ at hR
  have hss : (startJ l : Int) = if hasAt l 0 sBomJ = true then 3 else 0 := by unfold startJ; split <;> rfl
  rw [hss] at hcall
  cases hpv : pvV l (2 * l.length + 2) 1 (startJ l) with
  | error q =>
    have hq := (pvV_err hst (by omega) hpv).2
    have t0 : ((q.2 : Int) != 0) = true := by rw [bne_iff_ne]; omega
    rw [hpv] at hcall hR
    have HRR : Hid (R = .error q) := hR.symm
    cases hb : hasAt l 0 sBomJ
    all_goals
      rw [hb] at hh hcall
      simp only [if_true, if_false, Bool.false_eq_true] at hcall
      have HH := Lib.hid hh
      have HC := Lib.hid hcall
    all_goals clear hh hcall hR hpv hq hb hss hst
    all_goals
      go_enter Tryz.func8, Tryz.ntmps8
      go_wp2_with (first
        | (go_at_call 23; refine (HH.out _).mono ?_; rintro e1 w2 ⟨rfl, rfl⟩)
        | (go_at_call 24; refine (HC.out _).mono ?_; rintro e1 w2 ⟨rfl, hb2⟩; have hx2 := heap_alloc_new w2 (.cells (errC q) 56); obtain ⟨_, _, _, _, _, _, _, c7, c8⟩ := cells9 hx2; have hz2 : w.heap.size + 1 ≤ w2.heap.size := (by have := hb2.size; simp at this; omega); have hbb := hb2.mono (B' := w.heap.size) (by simp); have hres2 := (hb2.block w.heap.size (by simp)).trans HR1.out; have hal := (Below.refl w2.heap.size w2).alloc (Nat.le_refl _) (.cells (errC q) 56); have hres3 := (hal.block w.heap.size (by omega)).trans hres2))
    all_goals
      have HB3 := Lib.hid ((HB1.out.trans hbb).trans (hal.mono (by omega)))
      have hg3 : w.heap.size ≠ w2.heap.size := by omega
      generalize w2.alloc (.cells (errC q) 56) = W5 at *
      generalize w2.heap.size = g at *
      obtain ⟨s0, s1, s2, s3, s4, s5, s6⟩ := cells7 hres3
      have hfr : ∀ i, W5.frozen? ⟨w.heap.size, i, none⟩ = false := Lib.frozen_of_heap hres3
      have HRES := Lib.hid hres3
      clear hres3 hbb hres2 hal hx2 hb2
      go_region
    all_goals
      go_wp2_with fail
      refine bodyPost_ret (v := .tuple #[.agg _, _, _]) (res_whole3J Tryz.results8 _ _ w.heap.size rfl 26 zValC (seven_setJ HRES.out _ _ _ _ _ _ _) Tryz.underlying26 rfl valSize _ _ rfl rfl) rfl ⟨?_, ?_⟩
      · rw [HRR.out]; rfl
      · exact (((((((HB3.out.setCell (p := ⟨w.heap.size, 0, none⟩) (Nat.le_refl _) _).setCell (p := ⟨w.heap.size, 1, none⟩) (Nat.le_refl _) _).setCell (p := ⟨w.heap.size, 2, none⟩) (Nat.le_refl _) _).setCell (p := ⟨w.heap.size, 3, none⟩) (Nat.le_refl _) _).setCell (p := ⟨w.heap.size, 4, none⟩) (Nat.le_refl _) _).setCell (p := ⟨w.heap.size, 5, none⟩) (Nat.le_refl _) _).setCell (p := ⟨w.heap.size, 6, none⟩) (Nat.le_refl _) _).drew
  | ok ve =>
    obtain ⟨v, e⟩ := ve
    have hve := (pvV_ok hst hpv).2
    rw [hpv] at hcall hR
    simp only at hR
    have hse := fun W => refSpaces11_any l e W (by omega) hve
    have hz4 := spEnd_le (l := l) (n := e) hve
    obtain ⟨x, hx⟩ : ∃ x, spEnd l e = x := ⟨_, rfl⟩
    rw [hx] at hse hz4 hR
    have HSE := Lib.hid hse
    by_cases hxl : x < l.length
    · rw [if_pos hxl] at hR
      have HRR : Hid (R = .error (x, 17)) := hR.symm
      cases hb : hasAt l 0 sBomJ
      all_goals
        rw [hb] at hh hcall
        simp only [if_true, if_false, Bool.false_eq_true] at hcall
        have HH := Lib.hid hh
        have HC := Lib.hid hcall
      all_goals clear hh hcall hR hpv hb hss hst hse hx
      all_goals
        go_enter Tryz.func8, Tryz.ntmps8
        go_wp2_with (first
          | (go_at_call 23; refine (HH.out _).mono ?_; rintro e1 w2 ⟨rfl, rfl⟩)
          | (go_at_call 24; refine (HC.out _).mono ?_; rintro e1 w2 ⟨⟨IA, ic', MA, mc', rfl, hI', hM'⟩, hb2⟩; have hx2 := heap_alloc_new w2 (.cells #[.int .i64 v.kind, .bool v.b, .int .i64 v.n, .string (S v.s), .slice IA v.items.length ic', .slice MA v.mems.length mc', .int .i64 v.pos, .int .i64 e, .int .i64 0] 56); obtain ⟨_, _, _, _, _, _, _, c7, c8⟩ := cells9 hx2; have hz2 : w.heap.size + 1 ≤ w2.heap.size := (by have := hb2.size; simp at this; omega); have hal := (Below.refl w2.heap.size w2).alloc (Nat.le_refl _) (.cells #[.int .i64 v.kind, .bool v.b, .int .i64 v.n, .string (S v.s), .slice IA v.items.length ic', .slice MA v.mems.length mc', .int .i64 v.pos, .int .i64 e, .int .i64 0] 56); have hres3 := (hal.block w.heap.size (by omega)).trans ((hb2.block w.heap.size (by simp)).trans HR1.out); have HB3 := (HB1.out.trans (hb2.mono (B' := w.heap.size) (by simp))).trans (hal.mono (B' := w.heap.size) (by omega)); have hra : (w2.alloc (.cells #[.int .i64 v.kind, .bool v.b, .int .i64 v.n, .string (S v.s), .slice IA v.items.length ic', .slice MA v.mems.length mc', .int .i64 v.pos, .int .i64 e, .int .i64 0] 56)).rangeAt w2.heap.size 0 [.int .i64 v.kind, .bool v.b, .int .i64 v.n, .string (S v.s), .slice IA v.items.length ic', .slice MA v.mems.length mc', .int .i64 v.pos] := ran7 hx2)
          | (go_at_call 25; refine (HSE.out _).mono ?_; rintro e1 w3 ⟨rfl, rfl⟩)
          | (with_reducible refine gate ?_; refine wp_store_valP rfl _ _ rfl w.heap.size _ _ _ _ _ _ _ _ _ _ _ _ rfl rfl hres3 rfl ?_; intro w3 hx3 hu3))
        refine bodyPost_ret (v := .tuple #[.agg _, _, _]) (res_whole3J Tryz.results8 _ _ w.heap.size rfl 26 _ hx3 Tryz.underlying26 rfl valSize _ _ rfl rfl) rfl ⟨?_, ?_⟩
        · rw [HRR.out]; rfl
        · exact HB3.trans (hu3.below (Nat.le_refl _) (by have := HB3.size; omega))
    · rw [if_neg hxl] at hR
      have hxe : x = l.length := by omega
      have HRR : Hid (R = .ok v) := hR.symm
      have HXE := Lib.hid hxe
      cases hb : hasAt l 0 sBomJ
      all_goals
        rw [hb] at hh hcall
        simp only [if_true, if_false, Bool.false_eq_true] at hcall
        have HH := Lib.hid hh
        have HC := Lib.hid hcall
      all_goals clear hh hcall hR hpv hb hss hst hse hx hxe
      all_goals
        go_enter Tryz.func8, Tryz.ntmps8
        go_wp2_with (first
          | (go_at_call 23; refine (HH.out _).mono ?_; rintro e1 w2 ⟨rfl, rfl⟩)
          | (go_at_call 24; refine (HC.out _).mono ?_; rintro e1 w2 ⟨⟨IA, ic', MA, mc', rfl, hI', hM'⟩, hb2⟩; have hx2 := heap_alloc_new w2 (.cells #[.int .i64 v.kind, .bool v.b, .int .i64 v.n, .string (S v.s), .slice IA v.items.length ic', .slice MA v.mems.length mc', .int .i64 v.pos, .int .i64 e, .int .i64 0] 56); obtain ⟨_, _, _, _, _, _, _, c7, c8⟩ := cells9 hx2; have hz2 : w.heap.size + 1 ≤ w2.heap.size := (by have := hb2.size; simp at this; omega); have hal := (Below.refl w2.heap.size w2).alloc (Nat.le_refl _) (.cells #[.int .i64 v.kind, .bool v.b, .int .i64 v.n, .string (S v.s), .slice IA v.items.length ic', .slice MA v.mems.length mc', .int .i64 v.pos, .int .i64 e, .int .i64 0] 56); have hres3 := (hal.block w.heap.size (by omega)).trans ((hb2.block w.heap.size (by simp)).trans HR1.out); have HB3 := (HB1.out.trans (hb2.mono (B' := w.heap.size) (by simp))).trans (hal.mono (B' := w.heap.size) (by omega)); have hra : (w2.alloc (.cells #[.int .i64 v.kind, .bool v.b, .int .i64 v.n, .string (S v.s), .slice IA v.items.length ic', .slice MA v.mems.length mc', .int .i64 v.pos, .int .i64 e, .int .i64 0] 56)).rangeAt w2.heap.size 0 [.int .i64 v.kind, .bool v.b, .int .i64 v.n, .string (S v.s), .slice IA v.items.length ic', .slice MA v.mems.length mc', .int .i64 v.pos] := ran7 hx2)
          | (go_at_call 25; refine (HSE.out _).mono ?_; rintro e1 w3 ⟨rfl, rfl⟩)
          | (with_reducible refine gate ?_; refine wp_load_val rfl _ rfl w2.heap.size 0 rfl _ rfl hra ?_)
          | (with_reducible refine gate ?_; refine wp_store_valP rfl _ _ rfl w.heap.size _ _ _ _ _ _ _ _ _ _ _ _ rfl rfl hres3 rfl ?_; intro w3 hx3 hu3))
        refine bodyPost_ret (v := .tuple #[.agg _, _, _]) (res_whole3J Tryz.results8 _ _ w.heap.size rfl 26 _ hx3 Tryz.underlying26 rfl valSize _ _ rfl rfl) rfl ⟨?_, ?_⟩
        · rw [HRR.out]
          have hz3 := hu3.size
          refine ⟨_, rfl, _, rfl, ?_⟩
          have hI3 := hI'.keep (w' := w3) (p' := fun b => w.heap.size ≤ b ∧ b < w3.heap.size) valE_ok (fun k hk => (hu3.block k (by have := hk.2; simp; omega) (by have := hk.1; simp at this; omega)).trans (hal.block k hk.2)) (fun k hk => ⟨by have := hk.1; simp at this; omega, by have := hk.2; simp at hz3; omega⟩)
          have hM3 := hM'.keep (w' := w3) (p' := fun b => w.heap.size ≤ b ∧ b < w3.heap.size) memE_ok (fun k hk => (hu3.block k (by have := hk.2; simp; omega) (by have := hk.1; simp at this; omega)).trans (hal.block k hk.2)) (fun k hk => ⟨by have := hk.1; simp at this; omega, by have := hk.2; simp at hz3; omega⟩)
          exact ValP.of_open hI3 hM3
        · exact HB3.trans (hu3.below (Nat.le_refl _) (by have := HB3.size; omega))
end Go.Proofs.YthlppbpccldikaaGreatDoor
set_option linter.unusedVariables false
namespace Go.Proofs.YthlppbpccldikaaGreatDoor
open Go.RowKit

set_option maxHeartbeats 4000000 in
set_option maxRecDepth 100000 in
theorem refEqual11_no (o : Bool) (v m : JV) (x u : Value) (w : World) (hv : ValV w (· < w.heap.size) v x) (hu : ValV w (· < w.heap.size) m u) (hne : jhEq o v m = false) :
    Calls Tryz.prog 9 #[x, u, .bool o] w fun e w' => e = .returned (.bool false) ∧ Below w.heap.size w w' := by
  obtain ⟨A, c, K, d, rfl, ha, hk, hc, hd⟩ := hv.open_
  obtain ⟨A', c', K', d', rfl, ha', hk', hc', hd'⟩ := hu.open_
  clear hv hu ha hk ha' hk'
  have fin : ∀ w : World, Below w.heap.size w ((w.alloc (valBox v A c K d)).alloc (valBox m A' c' K' d')) := fun w => ((Below.refl _ _).alloc (Nat.le_refl _) _).alloc (by simp) _
  have FIN := Lib.hid fin
  clear fin
  unfold jhEq at hne
  have e6 : ((v.items.length : Int) == (m.items.length : Int)) = (v.items.length == m.items.length) := by rw [Bool.eq_iff_iff]; simp; omega
  have e7 : ((v.mems.length : Int) == (m.mems.length : Int)) = (v.mems.length == m.mems.length) := by rw [Bool.eq_iff_iff]; simp; omega
  rw [← e6, ← e7] at hne
  have HNE := Lib.hid hne
  clear hne e6 e7
  rcases tk : (v.kind == m.kind) with _ | _
  · have uk : (v.kind != m.kind) = true := by rw [bne, tk]; rfl
    go_enter Tryz.func9, Tryz.ntmps9
    go_wp2_with fail
    go_ret
    exact ⟨rfl, FIN.out _⟩
  · have uk : (v.kind != m.kind) = false := by rw [bne, tk]; rfl
    rcases tb : (v.b == m.b) with _ | _
    · have ub : (v.b != m.b) = true := by rw [bne, tb]; rfl
      go_enter Tryz.func9, Tryz.ntmps9
      go_wp2_with fail
      go_ret
      exact ⟨rfl, FIN.out _⟩
    · have ub : (v.b != m.b) = false := by rw [bne, tb]; rfl
      rcases tn : (v.n == m.n) with _ | _
      · have un : (v.n != m.n) = true := by rw [bne, tn]; rfl
        go_enter Tryz.func9, Tryz.ntmps9
        go_wp2_with fail
        go_ret
        exact ⟨rfl, FIN.out _⟩
      · have un : (v.n != m.n) = false := by rw [bne, tn]; rfl
        rcases ts : (v.s == m.s) with _ | _
        · have us : (v.s != m.s) = true := by rw [bne, ts]; rfl
          go_enter Tryz.func9, Tryz.ntmps9
          go_wp2_with fail
          go_ret
          exact ⟨rfl, FIN.out _⟩
        · have us : (v.s != m.s) = false := by rw [bne, ts]; rfl
          cases o
          · skip
            rcases ti : ((v.items.length : Int) == (m.items.length : Int)) with _ | _
            · have ui : ((v.items.length : Int) != (m.items.length : Int)) = true := by rw [bne, ti]; rfl
              go_enter Tryz.func9, Tryz.ntmps9
              go_wp2_with fail
              go_ret
              exact ⟨rfl, FIN.out _⟩
            · have ui : ((v.items.length : Int) != (m.items.length : Int)) = false := by rw [bne, ti]; rfl
              rcases tj : ((v.mems.length : Int) == (m.mems.length : Int)) with _ | _
              · have uj : ((v.mems.length : Int) != (m.mems.length : Int)) = true := by rw [bne, tj]; rfl
                go_enter Tryz.func9, Tryz.ntmps9
                go_wp2_with fail
                go_ret
                exact ⟨rfl, FIN.out _⟩
              · have uj : ((v.mems.length : Int) != (m.mems.length : Int)) = false := by rw [bne, tj]; rfl
                exact absurd HNE.out (by simp [tk, tb, tn, ts, ti, tj])
          · skip
            rcases tp : (v.pos == m.pos) with _ | _
            · have up : (v.pos != m.pos) = true := by rw [bne, tp]; rfl
              go_enter Tryz.func9, Tryz.ntmps9
              go_wp2_with fail
              go_ret
              exact ⟨rfl, FIN.out _⟩
            · have up : (v.pos != m.pos) = false := by rw [bne, tp]; rfl
              rcases ti : ((v.items.length : Int) == (m.items.length : Int)) with _ | _
              · have ui : ((v.items.length : Int) != (m.items.length : Int)) = true := by rw [bne, ti]; rfl
                go_enter Tryz.func9, Tryz.ntmps9
                go_wp2_with fail
                go_ret
                exact ⟨rfl, FIN.out _⟩
              · have ui : ((v.items.length : Int) != (m.items.length : Int)) = false := by rw [bne, ti]; rfl
                rcases tj : ((v.mems.length : Int) == (m.mems.length : Int)) with _ | _
                · have uj : ((v.mems.length : Int) != (m.mems.length : Int)) = true := by rw [bne, tj]; rfl
                  go_enter Tryz.func9, Tryz.ntmps9
                  go_wp2_with fail
                  go_ret
                  exact ⟨rfl, FIN.out _⟩
                · have uj : ((v.mems.length : Int) != (m.mems.length : Int)) = false := by rw [bne, tj]; rfl
                  exact absurd HNE.out (by simp [tk, tb, tn, ts, tp, ti, tj])
end Go.Proofs.YthlppbpccldikaaGreatDoor
set_option linter.unusedVariables false
namespace Go.Proofs.YthlppbpccldikaaGreatDoor
open Go.RowKit

theorem jhEq_true {o : Bool} {v m : JV} (h : jhEq o v m = true) : (v.kind == m.kind) = true ∧ (v.b == m.b) = true ∧ (v.n == m.n) = true ∧ (v.s == m.s) = true ∧ (o = true → (v.pos == m.pos) = true) ∧ v.items.length = m.items.length ∧ v.mems.length = m.mems.length := by
  unfold jhEq at h
  simp only [Bool.and_eq_true] at h
  obtain ⟨⟨⟨⟨⟨⟨a, b⟩, c⟩, d⟩, e⟩, f⟩, g⟩ := h
  exact ⟨a, b, c, d, fun ho => by rw [ho] at e; simpa using e, by simpa using f, by simpa using g⟩

set_option maxHeartbeats 4000000 in
set_option maxRecDepth 100000 in
theorem refEqual11_any (s : Nat) : ∀ (o : Bool) (v m : JV) (x u : Value) (w : World), jsz v ≤ s → JFit v → JFit m → ValV w (· < w.heap.size) v x → ValV w (· < w.heap.size) m u →
    Calls Tryz.prog 9 #[x, u, .bool o] w fun e w' => e = .returned (.bool (jeq o v m)) ∧ Below w.heap.size w w' := by
  induction s with
  | zero => intro o v m x u w h; have := jsz_pos v; omega
  | succ s ih =>
    intro o v m x u w hs hfn hfm hv hu
    cases hh : jhEq o v m
    · have he : jeq o v m = false := by rw [jeq_form, hh]; rfl
      rw [he]
      exact refEqual11_no o v m x u w hv hu hh
    · have he : jeq o v m = (jeqL o v.items m.items && jeqM o v.mems m.mems) := by rw [jeq_form, hh]; simp
      rw [he]
      obtain ⟨tk, tb, tn, ts, tp, ta, tc⟩ := jhEq_true hh
      generalize hE : (jeqL o v.items m.items && jeqM o v.mems m.mems) = E at *
      obtain ⟨⟨ln1, ln2, _, _⟩, lni, lnm⟩ := hfn.form
      obtain ⟨⟨lm1, lm2, _, _⟩, lmi, lmm⟩ := hfm.form
      obtain ⟨A, c, K, d, rfl, ha, hk, hc, hd⟩ := hv.open_
      obtain ⟨A', c', K', d', rfl, ha', hk', hc', hd'⟩ := hu.open_
      have uk : (v.kind != m.kind) = false := by rw [bne, tk]; rfl
      have ub : (v.b != m.b) = false := by rw [bne, tb]; rfl
      have un : (v.n != m.n) = false := by rw [bne, tn]; rfl
      have us : (v.s != m.s) = false := by rw [bne, ts]; rfl
      have ua : ((v.items.length : Int) != (m.items.length : Int)) = false := by rw [ta]; simp
      have uc : ((v.mems.length : Int) != (m.mems.length : Int)) = false := by rw [tc]; simp
      have la1 : v.items.length ≤ m.items.length := by omega
      have la2 : m.items.length ≤ v.items.length := by omega
      have lc1 : v.mems.length ≤ m.mems.length := by omega
      have lc2 : m.mems.length ≤ v.mems.length := by omega
      have HE := Lib.hid hE
      have HIH := Lib.hid ih
      have HA := Lib.hid ha
      have HA' := Lib.hid ha'
      have HK := Lib.hid hk
      have HK' := Lib.hid hk'
      have HS := Lib.hid hs
      have LNI := Lib.hid lni
      have LNM := Lib.hid lnm
      have LMI := Lib.hid lmi
      have LMM := Lib.hid lmm
      have B0 : Hid (Below w.heap.size w ((w.alloc (valBox v A c K d)).alloc (valBox m A' c' K' d'))) := ((Below.refl _ _).alloc (Nat.le_refl _) _).alloc (by simp) _
      have X0 : Hid (((w.alloc (valBox v A c K d)).alloc (valBox m A' c' K' d')).heap[w.heap.size]? = some (valBox v A c K d)) := (Below.heap_alloc _ _ _ (by simp)).trans (heap_alloc_new w _)
      have Y0 : Hid (((w.alloc (valBox v A c K d)).alloc (valBox m A' c' K' d')).heap[w.heap.size + 1]? = some (valBox m A' c' K' d')) := Lib.hid (by have h := heap_alloc_new (w.alloc (valBox v A c K d)) (valBox m A' c' K' d'); rw [World.size_alloc] at h; exact h)
      clear hE ih ha ha' hk hk' hs hh he hv hu ta tc hfn hfm lni lnm lmi lmm
      cases o
      · skip
        clear tp
        go_enter Tryz.func9, Tryz.ntmps9
        go_wp2_with fail
        go_loopw [7] (fun i7 wr => ∃ i : Nat, i ≤ v.items.length ∧ i7 = .int .i64 i ∧ (jeqL false (v.items.drop i) (m.items.drop i) && jeqM false v.mems m.mems) = E ∧ Below w.heap.size w wr ∧ wr.heap[w.heap.size]? = some (valBox v A c K d) ∧ wr.heap[w.heap.size + 1]? = some (valBox m A' c' K' d')) (fun i7 _ => v.items.length - (intOf i7).toNat)
        case atStart => exact ⟨0, Nat.zero_le _, rfl, by simpa using HE.out, B0.out, X0.out, Y0.out⟩
        case round =>
          obtain ⟨i, hi, rfl, hrem, hb, hX, hY⟩ := hrel
          have HB := Lib.hid hb
          have HX := Lib.hid hX
          have HY := Lib.hid hY
          have HR := Lib.hid hrem
          have hsx := heap_lt hX
          have hsy := heap_lt hY
          obtain ⟨n0, n1, n2, n3, n4, n5, n6⟩ := jbox_cells hX
          obtain ⟨m0, m1, m2, m3, m4, m5, m6⟩ := jbox_cells hY
          clear hb hX hY hrem n0 n1 n2 n3 n6 m0 m1 m2 m3 m6
          by_cases hlt : i < v.items.length
          · have hlt' : i < m.items.length := by omega
            clear n5 m5
            have hfin := HR.out
            rw [jeqL_step hlt hlt'] at hfin
            obtain ⟨b, off, cs, rfl, hbl, hr, hcs⟩ := HA.out.at_ hlt
            obtain ⟨b', off', cs', rfl, hbl', hr', hcs'⟩ := HA'.out.at_ hlt'
            have HR3 := Lib.hid (show wr.drew.rangeAt b (off + i * 7) cs from rangeAt_keep hr (HB.out.block b hbl))
            have HR4 := Lib.hid (show wr.drew.rangeAt b' (off' + i * 7) cs' from rangeAt_keep hr' (HB.out.block b' hbl'))
            have p1 := ValP.keep (w' := wr.drew) (p' := (· < wr.drew.heap.size)) (fun k hk => HB.out.block k hk) (fun k hk => Nat.lt_of_lt_of_le hk HB.out.size) _ _ hcs
            have p2 := ValP.keep (w' := wr.drew) (p' := (· < wr.drew.heap.size)) (fun k hk => HB.out.block k hk) (fun k hk => Nat.lt_of_lt_of_le hk HB.out.size) _ _ hcs'
            have hcall := HIH.out false v.items[i] m.items[i] _ _ wr.drew (by have := jsz_item (List.getElem_mem hlt); have := HS.out; omega) (LNI.out _ (List.getElem_mem hlt)) (LMI.out _ (List.getElem_mem hlt')) ⟨_, rfl, p1⟩ ⟨_, rfl, p2⟩
            obtain ⟨A1, c1, K1, d1, rfl, _, _, _, _⟩ := hcs.open_
            obtain ⟨A2, c2, K2, d2, rfl, _, _, _, _⟩ := hcs'.open_
            have hi0 : (i : Int) < v.items.length := by omega
            have hi1 : (i : Int) < m.items.length := by omega
            have HC := Lib.hid hcall
            have HF := Lib.hid hfin
            clear hr hr' hcs hcs' hfin p1 p2 hcall
            generalize jeq false v.items[i] m.items[i] = q at *
            have n4'' : wr.drew.cell? ⟨w.heap.size, 4, none⟩ = some (.slice (some ⟨b, off, none⟩) v.items.length c) := n4
            have m4'' : wr.drew.cell? ⟨w.heap.size + 1, 4, none⟩ = some (.slice (some ⟨b', off', none⟩) m.items.length c') := m4
            go_wp2_with fail
            go_still_tail 11, (by kernel_rfl)
            refine still_load_val rfl _ rfl b (off + i * 7) rfl _ rfl HR3.out ?_
            repeat still_step
            refine still_load_val rfl _ rfl b' (off' + i * 7) rfl _ rfl HR4.out ?_
            repeat still_step
            refine wpStill_nil ?_
            change wpList _ _ _ _ _ wr.drew
            cases q
            all_goals
              go_wp2_with (go_at_call 9; refine HC.out.mono ?_; rintro e w' ⟨rfl, hb'⟩)
            · go_ret
              exact ⟨ret_bool (by rw [← HF.out]; simp), HB.out.trans ((below_undrew' hb').mono HB.out.size)⟩
            · have hb4 := Lib.hid (below_undrew' hb')
              go_roundw
              case rel => exact ⟨i + 1, by omega, by go_num, by rw [← HF.out, Bool.true_and], HB.out.trans (hb4.out.mono HB.out.size), (hb4.out.block _ hsx).trans HX.out, (hb4.out.block _ hsy).trans HY.out⟩
              case measure => simp [intOf]; omega
          · obtain rfl : i = v.items.length := by omega
            rw [List.drop_length, jeqL_nil, Bool.true_and] at HR
            go_wp2_with fail
            clear n4 m4 n5 m5
            go_loopw [8] (fun i8 wr => ∃ i : Nat, i ≤ v.mems.length ∧ i8 = .int .i64 i ∧ jeqM false (v.mems.drop i) (m.mems.drop i) = E ∧ Below w.heap.size w wr ∧ wr.heap[w.heap.size]? = some (valBox v A c K d) ∧ wr.heap[w.heap.size + 1]? = some (valBox m A' c' K' d')) (fun i8 _ => v.mems.length - (intOf i8).toNat)
            case atStart => exact ⟨0, Nat.zero_le _, rfl, by simpa using HR.out, HB.out, HX.out, HY.out⟩
            case round =>
              clear HR HB HX HY hsx hsy
              obtain ⟨i, hi, rfl, hrem, hb, hX, hY⟩ := hrel
              have HB := Lib.hid hb
              have HX := Lib.hid hX
              have HY := Lib.hid hY
              have HR := Lib.hid hrem
              have hsx := heap_lt hX
              have hsy := heap_lt hY
              obtain ⟨n0, n1, n2, n3, n4, n5, n6⟩ := jbox_cells hX
              obtain ⟨m0, m1, m2, m3, m4, m5, m6⟩ := jbox_cells hY
              clear hb hX hY hrem n0 n1 n2 n3 n4 n6 m0 m1 m2 m3 m4 m6
              by_cases hlt : i < v.mems.length
              · have hlt' : i < m.mems.length := by omega
                have hfin := HR.out
                rw [jeqM_step hlt hlt'] at hfin
                obtain ⟨b, off, cs, rfl, hbl, hr, hcs⟩ := HK.out.at_ hlt
                obtain ⟨b', off', cs', rfl, hbl', hr', hcs'⟩ := HK'.out.at_ hlt'
                have hj1 := jsz_mem (List.getElem_mem hlt)
                have f1 := LNM.out _ (List.getElem_mem hlt)
                have f2 := LMM.out _ (List.getElem_mem hlt')
                have hi0 : (i : Int) < v.mems.length := by omega
                have hi1 : (i : Int) < m.mems.length := by omega
                have r1 := rangeAt_keep hr (HB.out.block b hbl)
                generalize v.mems[i] = a at *
                generalize m.mems[i] = a' at *
                obtain ⟨vs, hvs, hcse⟩ := hcs
                obtain ⟨NA, nc, NM, nd, hvse, _, _, _, _⟩ := hvs.open_
                subst hvse
                simp only [List.cons_append, List.nil_append] at hcse
                subst hcse
                obtain ⟨vs', hvs', hcse'⟩ := hcs'
                obtain ⟨MA, mc, MM, md, hvse', _, _, _, _⟩ := hvs'.open_
                subst hvse'
                simp only [List.cons_append, List.nil_append] at hcse'
                subst hcse'
                obtain ⟨X, hXe⟩ : ∃ X : Obj, X = (.cells #[.string (S a.key), .int .i64 a.val.kind, .bool a.val.b, .int .i64 a.val.n, .string (S a.val.s), .slice NA a.val.items.length nc, .slice NM a.val.mems.length nd, .int .i64 a.val.pos, .int .i64 a.pos] 44) := ⟨_, rfl⟩
                obtain ⟨Y, hYe⟩ : ∃ Y : Obj, Y = (.cells #[.string (S a'.key), .int .i64 a'.val.kind, .bool a'.val.b, .int .i64 a'.val.n, .string (S a'.val.s), .slice MA a'.val.items.length mc, .slice MM a'.val.mems.length md, .int .i64 a'.val.pos, .int .i64 a'.pos] 44) := ⟨_, rfl⟩
                have BB := HB.out.alloc HB.out.size X
                have BW := BB.alloc BB.size Y
                have hz : (wr.alloc X).heap.size = wr.heap.size + 1 := by simp
                have hzz : ((wr.alloc X).alloc Y).heap.size = wr.heap.size + 2 := by simp
                have KX : ∀ k, k < wr.heap.size → ((wr.alloc X).alloc Y).heap[k]? = wr.heap[k]? := fun k hk => (Below.heap_alloc _ _ _ (by omega)).trans (Below.heap_alloc _ _ _ hk)
                have hX1 : ((wr.alloc X).alloc Y).heap[wr.heap.size]? = some X := (Below.heap_alloc _ _ _ (by omega)).trans (heap_alloc_new wr X)
                have hY1 : ((wr.alloc X).alloc Y).heap[wr.heap.size + 1]? = some Y := by have h := heap_alloc_new (wr.alloc X) Y; rw [hz] at h; exact h
                have r2 : (wr.alloc X).rangeAt b' (off' + i * 9) _ := rangeAt_keep hr' ((Below.heap_alloc wr X b' (by have := HB.out.size; omega)).trans (HB.out.block b' hbl'))
                have p1 := ValP.keep (w' := (wr.alloc X).alloc Y) (p' := (· < ((wr.alloc X).alloc Y).heap.size)) (fun k hk => BW.block k hk) (fun k hk => Nat.lt_of_lt_of_le hk BW.size) _ _ hvs
                have p2 := ValP.keep (w' := (wr.alloc X).alloc Y) (p' := (· < ((wr.alloc X).alloc Y).heap.size)) (fun k hk => BW.block k hk) (fun k hk => Nat.lt_of_lt_of_le hk BW.size) _ _ hvs'
                have hcall := HIH.out false a.val a'.val _ _ _ (by have := HS.out; omega) f1 f2 ⟨_, rfl, p1⟩ ⟨_, rfl, p2⟩
                rw [hzz] at hcall
                subst hXe
                subst hYe
                have r3 := mem_cells_val (range_of_heap hX1)
                have r4 := mem_cells_val (range_of_heap hY1)
                have R1 := Lib.hid r1
                have R2 := Lib.hid r2
                have R3 := Lib.hid r3
                have R4 := Lib.hid r4
                have HC := Lib.hid hcall
                have HF := Lib.hid hfin
                have HBW := Lib.hid BW
                have HKX := Lib.hid KX
                clear hr hr' hvs hvs' hfin p1 p2 hcall r1 r2 r3 r4 BB BW hX1 hY1 hz hzz KX f1 f2 hj1
                generalize jeq false a.val a'.val = q at *
                rcases xk : (a.key == a'.key) with _ | _
                · have yk : (a.key != a'.key) = true := by rw [bne, xk]; rfl
                  go_wp2_with (first
                    | (with_reducible refine gate ?_; refine wp_load_mem rfl _ rfl b (off + i * 9) rfl _ rfl R1.out ?_)
                    | (with_reducible refine gate ?_; refine wp_load_mem rfl _ rfl b' (off' + i * 9) rfl _ rfl R2.out ?_))
                  go_ret
                  exact ⟨ret_bool (by rw [← HF.out, xk]; simp), HBW.out⟩
                · have yk : (a.key != a'.key) = false := by rw [bne, xk]; rfl
                  cases q
                  all_goals
                    go_wp2_with (first
                      | (with_reducible refine gate ?_; refine wp_load_mem rfl _ rfl b (off + i * 9) rfl _ rfl R1.out ?_)
                      | (with_reducible refine gate ?_; refine wp_load_mem rfl _ rfl b' (off' + i * 9) rfl _ rfl R2.out ?_)
                      | (with_reducible refine gate ?_; refine wp_load_val rfl _ rfl wr.heap.size (0 + 1) rfl _ rfl R3.out ?_)
                      | (with_reducible refine gate ?_; refine wp_load_val rfl _ rfl (wr.heap.size + 1) (0 + 1) rfl _ rfl R4.out ?_)
                      | (go_at_call 9; refine HC.out.mono ?_; rintro e w5 ⟨rfl, hb5⟩))
                  · go_ret
                    exact ⟨ret_bool (by rw [← HF.out, xk]; simp), HBW.out.trans (hb5.mono (by have := HB.out.size; simp; omega))⟩
                  · have hb6 := Lib.hid hb5
                    go_roundw
                    case rel => exact ⟨i + 1, by omega, by go_num, by rw [← HF.out, xk]; simp, HBW.out.trans (hb6.out.mono (by have := HB.out.size; simp; omega)), ((hb6.out.block _ (by omega)).trans (HKX.out _ hsx)).trans HX.out, ((hb6.out.block _ (by omega)).trans (HKX.out _ hsy)).trans HY.out⟩
                    case measure => simp [intOf]; omega
              · obtain rfl : i = v.mems.length := by omega
                rw [List.drop_length, jeqM_nil] at HR
                go_wp2_with fail
                go_ret
                exact ⟨ret_bool HR.out, HB.out⟩
      · skip
        have up : (v.pos != m.pos) = false := by rw [bne, tp rfl]; rfl
        clear tp
        go_enter Tryz.func9, Tryz.ntmps9
        go_wp2_with fail
        go_loopw [7] (fun i7 wr => ∃ i : Nat, i ≤ v.items.length ∧ i7 = .int .i64 i ∧ (jeqL true (v.items.drop i) (m.items.drop i) && jeqM true v.mems m.mems) = E ∧ Below w.heap.size w wr ∧ wr.heap[w.heap.size]? = some (valBox v A c K d) ∧ wr.heap[w.heap.size + 1]? = some (valBox m A' c' K' d')) (fun i7 _ => v.items.length - (intOf i7).toNat)
        case atStart => exact ⟨0, Nat.zero_le _, rfl, by simpa using HE.out, B0.out, X0.out, Y0.out⟩
        case round =>
          obtain ⟨i, hi, rfl, hrem, hb, hX, hY⟩ := hrel
          have HB := Lib.hid hb
          have HX := Lib.hid hX
          have HY := Lib.hid hY
          have HR := Lib.hid hrem
          have hsx := heap_lt hX
          have hsy := heap_lt hY
          obtain ⟨n0, n1, n2, n3, n4, n5, n6⟩ := jbox_cells hX
          obtain ⟨m0, m1, m2, m3, m4, m5, m6⟩ := jbox_cells hY
          clear hb hX hY hrem n0 n1 n2 n3 n6 m0 m1 m2 m3 m6
          by_cases hlt : i < v.items.length
          · have hlt' : i < m.items.length := by omega
            clear n5 m5
            have hfin := HR.out
            rw [jeqL_step hlt hlt'] at hfin
            obtain ⟨b, off, cs, rfl, hbl, hr, hcs⟩ := HA.out.at_ hlt
            obtain ⟨b', off', cs', rfl, hbl', hr', hcs'⟩ := HA'.out.at_ hlt'
            have HR3 := Lib.hid (show wr.drew.rangeAt b (off + i * 7) cs from rangeAt_keep hr (HB.out.block b hbl))
            have HR4 := Lib.hid (show wr.drew.rangeAt b' (off' + i * 7) cs' from rangeAt_keep hr' (HB.out.block b' hbl'))
            have p1 := ValP.keep (w' := wr.drew) (p' := (· < wr.drew.heap.size)) (fun k hk => HB.out.block k hk) (fun k hk => Nat.lt_of_lt_of_le hk HB.out.size) _ _ hcs
            have p2 := ValP.keep (w' := wr.drew) (p' := (· < wr.drew.heap.size)) (fun k hk => HB.out.block k hk) (fun k hk => Nat.lt_of_lt_of_le hk HB.out.size) _ _ hcs'
            have hcall := HIH.out true v.items[i] m.items[i] _ _ wr.drew (by have := jsz_item (List.getElem_mem hlt); have := HS.out; omega) (LNI.out _ (List.getElem_mem hlt)) (LMI.out _ (List.getElem_mem hlt')) ⟨_, rfl, p1⟩ ⟨_, rfl, p2⟩
            obtain ⟨A1, c1, K1, d1, rfl, _, _, _, _⟩ := hcs.open_
            obtain ⟨A2, c2, K2, d2, rfl, _, _, _, _⟩ := hcs'.open_
            have hi0 : (i : Int) < v.items.length := by omega
            have hi1 : (i : Int) < m.items.length := by omega
            have HC := Lib.hid hcall
            have HF := Lib.hid hfin
            clear hr hr' hcs hcs' hfin p1 p2 hcall
            generalize jeq true v.items[i] m.items[i] = q at *
            have n4'' : wr.drew.cell? ⟨w.heap.size, 4, none⟩ = some (.slice (some ⟨b, off, none⟩) v.items.length c) := n4
            have m4'' : wr.drew.cell? ⟨w.heap.size + 1, 4, none⟩ = some (.slice (some ⟨b', off', none⟩) m.items.length c') := m4
            go_wp2_with fail
            go_still_tail 11, (by kernel_rfl)
            refine still_load_val rfl _ rfl b (off + i * 7) rfl _ rfl HR3.out ?_
            repeat still_step
            refine still_load_val rfl _ rfl b' (off' + i * 7) rfl _ rfl HR4.out ?_
            repeat still_step
            refine wpStill_nil ?_
            change wpList _ _ _ _ _ wr.drew
            cases q
            all_goals
              go_wp2_with (go_at_call 9; refine HC.out.mono ?_; rintro e w' ⟨rfl, hb'⟩)
            · go_ret
              exact ⟨ret_bool (by rw [← HF.out]; simp), HB.out.trans ((below_undrew' hb').mono HB.out.size)⟩
            · have hb4 := Lib.hid (below_undrew' hb')
              go_roundw
              case rel => exact ⟨i + 1, by omega, by go_num, by rw [← HF.out, Bool.true_and], HB.out.trans (hb4.out.mono HB.out.size), (hb4.out.block _ hsx).trans HX.out, (hb4.out.block _ hsy).trans HY.out⟩
              case measure => simp [intOf]; omega
          · obtain rfl : i = v.items.length := by omega
            rw [List.drop_length, jeqL_nil, Bool.true_and] at HR
            go_wp2_with fail
            clear n4 m4 n5 m5
            go_loopw [8] (fun i8 wr => ∃ i : Nat, i ≤ v.mems.length ∧ i8 = .int .i64 i ∧ jeqM true (v.mems.drop i) (m.mems.drop i) = E ∧ Below w.heap.size w wr ∧ wr.heap[w.heap.size]? = some (valBox v A c K d) ∧ wr.heap[w.heap.size + 1]? = some (valBox m A' c' K' d')) (fun i8 _ => v.mems.length - (intOf i8).toNat)
            case atStart => exact ⟨0, Nat.zero_le _, rfl, by simpa using HR.out, HB.out, HX.out, HY.out⟩
            case round =>
              clear HR HB HX HY hsx hsy
              obtain ⟨i, hi, rfl, hrem, hb, hX, hY⟩ := hrel
              have HB := Lib.hid hb
              have HX := Lib.hid hX
              have HY := Lib.hid hY
              have HR := Lib.hid hrem
              have hsx := heap_lt hX
              have hsy := heap_lt hY
              obtain ⟨n0, n1, n2, n3, n4, n5, n6⟩ := jbox_cells hX
              obtain ⟨m0, m1, m2, m3, m4, m5, m6⟩ := jbox_cells hY
              clear hb hX hY hrem n0 n1 n2 n3 n4 n6 m0 m1 m2 m3 m4 m6
              by_cases hlt : i < v.mems.length
              · have hlt' : i < m.mems.length := by omega
                have hfin := HR.out
                rw [jeqM_step hlt hlt'] at hfin
                obtain ⟨b, off, cs, rfl, hbl, hr, hcs⟩ := HK.out.at_ hlt
                obtain ⟨b', off', cs', rfl, hbl', hr', hcs'⟩ := HK'.out.at_ hlt'
                have hj1 := jsz_mem (List.getElem_mem hlt)
                have f1 := LNM.out _ (List.getElem_mem hlt)
                have f2 := LMM.out _ (List.getElem_mem hlt')
                have hi0 : (i : Int) < v.mems.length := by omega
                have hi1 : (i : Int) < m.mems.length := by omega
                have r1 := rangeAt_keep hr (HB.out.block b hbl)
                generalize v.mems[i] = a at *
                generalize m.mems[i] = a' at *
                obtain ⟨vs, hvs, hcse⟩ := hcs
                obtain ⟨NA, nc, NM, nd, hvse, _, _, _, _⟩ := hvs.open_
                subst hvse
                simp only [List.cons_append, List.nil_append] at hcse
                subst hcse
                obtain ⟨vs', hvs', hcse'⟩ := hcs'
                obtain ⟨MA, mc, MM, md, hvse', _, _, _, _⟩ := hvs'.open_
                subst hvse'
                simp only [List.cons_append, List.nil_append] at hcse'
                subst hcse'
                obtain ⟨X, hXe⟩ : ∃ X : Obj, X = (.cells #[.string (S a.key), .int .i64 a.val.kind, .bool a.val.b, .int .i64 a.val.n, .string (S a.val.s), .slice NA a.val.items.length nc, .slice NM a.val.mems.length nd, .int .i64 a.val.pos, .int .i64 a.pos] 44) := ⟨_, rfl⟩
                obtain ⟨Y, hYe⟩ : ∃ Y : Obj, Y = (.cells #[.string (S a'.key), .int .i64 a'.val.kind, .bool a'.val.b, .int .i64 a'.val.n, .string (S a'.val.s), .slice MA a'.val.items.length mc, .slice MM a'.val.mems.length md, .int .i64 a'.val.pos, .int .i64 a'.pos] 44) := ⟨_, rfl⟩
                have BB := HB.out.alloc HB.out.size X
                have BW := BB.alloc BB.size Y
                have hz : (wr.alloc X).heap.size = wr.heap.size + 1 := by simp
                have hzz : ((wr.alloc X).alloc Y).heap.size = wr.heap.size + 2 := by simp
                have KX : ∀ k, k < wr.heap.size → ((wr.alloc X).alloc Y).heap[k]? = wr.heap[k]? := fun k hk => (Below.heap_alloc _ _ _ (by omega)).trans (Below.heap_alloc _ _ _ hk)
                have hX1 : ((wr.alloc X).alloc Y).heap[wr.heap.size]? = some X := (Below.heap_alloc _ _ _ (by omega)).trans (heap_alloc_new wr X)
                have hY1 : ((wr.alloc X).alloc Y).heap[wr.heap.size + 1]? = some Y := by have h := heap_alloc_new (wr.alloc X) Y; rw [hz] at h; exact h
                have r2 : (wr.alloc X).rangeAt b' (off' + i * 9) _ := rangeAt_keep hr' ((Below.heap_alloc wr X b' (by have := HB.out.size; omega)).trans (HB.out.block b' hbl'))
                have p1 := ValP.keep (w' := (wr.alloc X).alloc Y) (p' := (· < ((wr.alloc X).alloc Y).heap.size)) (fun k hk => BW.block k hk) (fun k hk => Nat.lt_of_lt_of_le hk BW.size) _ _ hvs
                have p2 := ValP.keep (w' := (wr.alloc X).alloc Y) (p' := (· < ((wr.alloc X).alloc Y).heap.size)) (fun k hk => BW.block k hk) (fun k hk => Nat.lt_of_lt_of_le hk BW.size) _ _ hvs'
                have hcall := HIH.out true a.val a'.val _ _ _ (by have := HS.out; omega) f1 f2 ⟨_, rfl, p1⟩ ⟨_, rfl, p2⟩
                rw [hzz] at hcall
                subst hXe
                subst hYe
                have r3 := mem_cells_val (range_of_heap hX1)
                have r4 := mem_cells_val (range_of_heap hY1)
                have R1 := Lib.hid r1
                have R2 := Lib.hid r2
                have R3 := Lib.hid r3
                have R4 := Lib.hid r4
                have HC := Lib.hid hcall
                have HF := Lib.hid hfin
                have HBW := Lib.hid BW
                have HKX := Lib.hid KX
                clear hr hr' hvs hvs' hfin p1 p2 hcall r1 r2 r3 r4 BB BW hX1 hY1 hz hzz KX f1 f2 hj1
                generalize jeq true a.val a'.val = q at *
                rcases xk : (a.key == a'.key) with _ | _
                · have yk : (a.key != a'.key) = true := by rw [bne, xk]; rfl
                  go_wp2_with (first
                    | (with_reducible refine gate ?_; refine wp_load_mem rfl _ rfl b (off + i * 9) rfl _ rfl R1.out ?_)
                    | (with_reducible refine gate ?_; refine wp_load_mem rfl _ rfl b' (off' + i * 9) rfl _ rfl R2.out ?_))
                  go_ret
                  exact ⟨ret_bool (by rw [← HF.out, xk]; simp), HBW.out⟩
                · have yk : (a.key != a'.key) = false := by rw [bne, xk]; rfl
                  rcases xp : (a.pos == a'.pos) with _ | _
                  · have yp : (a.pos != a'.pos) = true := by rw [bne, xp]; rfl
                    go_wp2_with (first
                      | (with_reducible refine gate ?_; refine wp_load_mem rfl _ rfl b (off + i * 9) rfl _ rfl R1.out ?_)
                      | (with_reducible refine gate ?_; refine wp_load_mem rfl _ rfl b' (off' + i * 9) rfl _ rfl R2.out ?_))
                    go_ret
                    exact ⟨ret_bool (by rw [← HF.out, xk, xp]; simp), HBW.out⟩
                  · have yp : (a.pos != a'.pos) = false := by rw [bne, xp]; rfl
                    skip
                    cases q
                    all_goals
                      go_wp2_with (first
                        | (with_reducible refine gate ?_; refine wp_load_mem rfl _ rfl b (off + i * 9) rfl _ rfl R1.out ?_)
                        | (with_reducible refine gate ?_; refine wp_load_mem rfl _ rfl b' (off' + i * 9) rfl _ rfl R2.out ?_)
                        | (with_reducible refine gate ?_; refine wp_load_val rfl _ rfl wr.heap.size (0 + 1) rfl _ rfl R3.out ?_)
                        | (with_reducible refine gate ?_; refine wp_load_val rfl _ rfl (wr.heap.size + 1) (0 + 1) rfl _ rfl R4.out ?_)
                        | (go_at_call 9; refine HC.out.mono ?_; rintro e w5 ⟨rfl, hb5⟩))
                    · go_ret
                      exact ⟨ret_bool (by rw [← HF.out, xk, xp]; simp), HBW.out.trans (hb5.mono (by have := HB.out.size; simp; omega))⟩
                    · have hb6 := Lib.hid hb5
                      go_roundw
                      case rel => exact ⟨i + 1, by omega, by go_num, by rw [← HF.out, xk, xp]; simp, HBW.out.trans (hb6.out.mono (by have := HB.out.size; simp; omega)), ((hb6.out.block _ (by omega)).trans (HKX.out _ hsx)).trans HX.out, ((hb6.out.block _ (by omega)).trans (HKX.out _ hsy)).trans HY.out⟩
                      case measure => simp [intOf]; omega
              · obtain rfl : i = v.mems.length := by omega
                rw [List.drop_length, jeqM_nil] at HR
                go_wp2_with fail
                go_ret
                exact ⟨ret_bool HR.out, HB.out⟩
end Go.Proofs.YthlppbpccldikaaGreatDoor
set_option linter.unusedVariables false
namespace Go.Proofs.YthlppbpccldikaaGreatDoor
open Go.RowKit

theorem fitR {l : Bytes} (hl : l.length ≤ 1000000000) : JFit (valR (parseJ l)) := by
  cases h : parseJ l with
  | error q => exact jfit_leaf _ _ _ _ _ (by decide) (by decide)
  | ok v => exact parseJ_fit hl h
theorem ParJ.both {w w' : World} {l : Bytes} {r : Except (Nat × Nat) JV} {e : Ending} (h : ParJ w w' l r e) : BothJ w' l r e := by
  cases r with
  | error q => exact ⟨none, 0, none, 0, h, zValP11 _ _⟩
  | ok v =>
    obtain ⟨u, rfl, hv⟩ := h
    have hn : ValV w' (· < w'.heap.size) v u := hv.keep (fun _ _ => rfl) (fun k hk => hk.2)
    obtain ⟨IA, ic, MA, mc, rfl, _⟩ := hn.open_
    exact ⟨IA, ic, MA, mc, rfl, hn⟩
theorem refParse11_both (l : Bytes) (w : World) (hl : l.length ≤ 1000000) :
    Calls Tryz.prog 8 #[.string (S l)] w fun e w' => BothJ w' l (parseJ l) e ∧ Below w.heap.size w w' :=
  (refParse11_any l w hl).mono fun e w' h => ⟨h.1.both, h.2⟩
set_option maxHeartbeats 8000000 in
set_option maxRecDepth 100000 in
theorem law11matches_any (l : Bytes) (w : World) (hT : Tabs w) (hE : NumE w) (h63 : l.length ≤ 9223372036854775807) :
    Calls Tryz.prog 3 #[.string (S l)] w fun e w' => e = .returned (.bool true) ∧ Below w.heap.size w w' := by
  have hal := fun W => fun (hW : Below w.heap.size w W) => alive11_any W (hT.next hW) (hE.next hW)
  have HAL := Lib.hid hal
  by_cases h5 : 3000 < l.length
  · have h5' : (3000 : Int) < l.length := by omega
    clear hal hT hE
    go_enter Tryz.func3, Tryz.ntmps3
    go_wp2_with (go_at_call 6; refine (HAL.out _ (Below.refl _ _)).mono ?_; rintro e w1 ⟨rfl, hb1⟩)
    go_ret
    exact ⟨rfl, hb1⟩
  · have h5' : ¬ (3000 : Int) < l.length := by omega
    have h1 := parse11_both l w hT hE (by omega)
    have h2 := fun W => refParse11_both l W (by omega)
    have hfx := fitR (l := l) (by omega)
    have heq := fun W v u (hv : ValV W (· < W.heap.size) (valR (parseJ l)) v) (hu : ValV W (· < W.heap.size) (valR (parseJ l)) u) => refEqual11_any _ true _ _ v u W (Nat.le_refl _) hfx hfx hv hu
    simp only [jeq_refl] at heq
    unfold BothJ at h1 h2
    generalize valR (parseJ l) = X at *
    generalize atRJ l (parseJ l) = x at *
    generalize erRJ (parseJ l) = y at *
    have H1 := Lib.hid h1
    have H2 := Lib.hid h2
    have HEQ := Lib.hid heq
    have e1 : (x == x) = true := by simp
    have e2 : (y == y) = true := by simp
    clear hal hT hE h1 h2 heq hfx
    go_enter Tryz.func3, Tryz.ntmps3
    go_wp2_with fail
    refine H1.out.mono ?_
    rintro e w1 ⟨⟨A1, c1, K1, d1, rfl, hv1⟩, hb1⟩
    have N1 := Lib.hid (Jbx.new hv1)
    have BB1 := Lib.hid (hb1.alloc hb1.size (valBox X A1 c1 K1 d1))
    clear hv1 hb1
    go_wp2_with fail
    obtain ⟨b1, hw1⟩ : ∃ b1, w1.heap.size = b1 := ⟨_, rfl⟩
    rw [hw1] at N1 ⊢
    clear hw1
    generalize w1.alloc (valBox X A1 c1 K1 d1) = W1 at *
    refine (H2.out W1).mono ?_
    rintro e w2 ⟨⟨A2, c2, K2, d2, rfl, hv2⟩, hb2⟩
    have N2 := Lib.hid (Jbx.new hv2)
    have X2 := Lib.hid (hb2.alloc hb2.size (valBox X A2 c2 K2 d2))
    have BB2 := Lib.hid (BB1.out.trans (X2.out.mono BB1.out.size))
    have N1b := Lib.hid (N1.out.keep X2.out)
    clear hv2 hb2 N1 X2
    go_wp2_with fail
    obtain ⟨b2, hw2⟩ : ∃ b2, w2.heap.size = b2 := ⟨_, rfl⟩
    rw [hw2] at N2 ⊢
    clear hw2
    generalize w2.alloc (valBox X A2 c2 K2 d2) = W2 at *
    refine (HAL.out W2 BB2.out).mono ?_
    rintro e w3 ⟨rfl, hb3⟩
    have N1c := Lib.hid (N1b.out.keep hb3)
    have N2c := Lib.hid (N2.out.keep hb3)
    have BB3 := Lib.hid (BB2.out.trans (hb3.mono BB2.out.size))
    obtain ⟨x0, x1, x2, x3, x4, x5, x6⟩ := N1c.out.cells
    obtain ⟨y0, y1, y2, y3, y4, y5, y6⟩ := N2c.out.cells
    clear hb3 N1b N2
    go_wp2_with fail
    refine (HEQ.out w3 _ _ N1c.out.tree N2c.out.tree).mono ?_
    rintro e w4 ⟨rfl, hb4⟩
    go_wp2_with fail
    go_ret
    exact ⟨rfl, BB3.out.trans (hb4.mono BB3.out.size)⟩
end Go.Proofs.YthlppbpccldikaaGreatDoor
