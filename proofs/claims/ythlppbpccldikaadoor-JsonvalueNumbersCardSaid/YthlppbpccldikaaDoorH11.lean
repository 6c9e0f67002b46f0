/-
  Several texts in one file, in build order:
  - Walks of chapter 11, the program: Parse.
  - Variables that hold a JSON value: their blocks, kept under growth; what Parse returns, in one form.
  - The library's word on valid UTF-8, in terms of the decoder.
  - Appending some bytes that are written out to a slice of the call's own. No function of the program.
  - Walks of chapter 10, the reference: letter, Valid, Quote.
  - Walk of chapter 12: unused (the program). Made by gen_jun.py.
  - A map with string keys that the call has made itself, told by the list of its entries.
  - A map that serves as a set of strings.
-/
import Derived.Test.YthlppbpccldikaaDoorH10
import Derived.Test.YthlppbpccldikaaDoorH4
import Derived.Test.YthlppbpccldikaaDoorH5
import Derived.Lib.ValidU
import Derived.Test.YthlppbpccldikaaDoorH3
import Derived.Deep.RegionHeld3
import Derived.Test.YthlppbpccldikaaDoorH2
import Derived.WalkSpells
import Derived.WalkLawsBesides
import Derived.Maps.Own
import Derived.Maps.OwnOps
set_option linter.unusedVariables false
set_option linter.unusedSimpArgs false
namespace Go.Proofs.YthlppbpccldikaaDoor
open Go.RowKit

/-- What the program's Parse returns. -/
def ParP (w w' : World) (l : Bytes) (r : Except (Nat × Nat) JV) (e : Ending) : Prop :=
  match r with
  | .error q => e = .returned (.tuple #[zValV, .int .i64 q.1, .int .i64 q.2])
  | .ok v => ∃ u, e = .returned (.tuple #[u, .int .i64 l.length, .int .i64 0]) ∧ ValV w' (fun b => w.heap.size ≤ b ∧ b < w'.heap.size) v u
theorem run_loadVar_one {P : Program} {w : World} {t : TypeId} {a : Addr} {x : Value} {d : TypeDesc} (hu : P.underlying t = some d) (hd : d.isRow = false) (h : w.cell? a = some x) : (loadVar t a).run P w = .ok x w := by
  have hagg : (isAgg t).run P w = .ok false w := by
    unfold isAgg
    rw [Sem.run_bind, run_underlying hu w]
    cases d <;> simp_all [TypeDesc.isRow]
  unfold loadVar
  rw [Sem.run_bind, hagg]
  simp [h]
theorem res_cells3 {P : Program} {fn : Func} {p q r : Tmp} {ty tq tr : TypeId} (h : fn.results = #[.cell p ty, .cell q tq, .cell r tr]) (tmps : Array Value) (w : World) (gv ga ge : Nat) (hp : tmps.getD p undef = .pointer (some ⟨gv, 0, none⟩)) (hq : tmps.getD q undef = .pointer (some ⟨ga, 0, none⟩)) (hr : tmps.getD r undef = .pointer (some ⟨ge, 0, none⟩))
    (t : TypeId) (cells : Array Value) (hg : w.heap[gv]? = some (.cells cells t (0, 0))) {d d2 d3 : TypeDesc} (hu : P.underlying ty = some d) (hd : d.isRow = true) (hi : (P.info? ty).map (·.size) = some cells.size)
    (x y : Value) (tx ty' : TypeId) (hx : w.heap[ga]? = some (.cells #[x] tx (0, 0))) (hy : w.heap[ge]? = some (.cells #[y] ty' (0, 0))) (hu2 : P.underlying tq = some d2) (hd2 : d2.isRow = false) (hu3 : P.underlying tr = some d3) (hd3 : d3.isRow = false) :
    (results fn tmps).run P w = .ok (.tuple #[.agg cells, x, y]) w := by
  have hc : w.rangeAt gv 0 cells.toList := fun j v hv => by rw [Nat.zero_add, Lib.cell_of_heap hg]; simpa using hv
  have hl := run_loadVar_mid (P := P) w gv 0 ty cells.toList d hc hu hd (by simpa using hi)
  rw [Array.toArray_toList] at hl
  have hx' : w.cell? ⟨ga, 0, none⟩ = some x := by rw [Lib.cell_of_heap hx]; rfl
  have hy' : w.cell? ⟨ge, 0, none⟩ = some y := by rw [Lib.cell_of_heap hy]; rfl
  have hp' : tmps[p]?.getD undef = .pointer (some ⟨gv, 0, none⟩) := by simpa using hp
  have hq' : tmps[q]?.getD undef = .pointer (some ⟨ga, 0, none⟩) := by simpa using hq
  have hr' : tmps[r]?.getD undef = .pointer (some ⟨ge, 0, none⟩) := by simpa using hr
  simp only [results, h]
  have hl2 := run_loadVar_one (w := w) hu2 hd2 hx'
  have hl3 := run_loadVar_one (w := w) hu3 hd3 hy'
  simp [hp', hq', hr', asAddr, hl, hl2, hl3]
set_option maxHeartbeats 8000000 in
set_option maxRecDepth 100000 in
theorem parse11_any (l : Bytes) (w : World) (hT : Tabs w) (hE : NumE w) (hl : l.length ≤ 1000000) :
    Calls Tryd.prog 16 #[.string (S l)] w fun e w' => ParP w w' l (parseJ l) e ∧ Below w.heap.size w w' := by
  have hmf : ∀ (fn : Fn) (first cap : Array Value) (w : World), (Instr.makeFunc fn first cap).run Tryd.prog w = .ok (.func fn first cap) w := fun _ _ _ _ => rfl
  have hh : ∀ W, Calls Tryd.prog 24 #[.string (S l), .string ⟨#[239, 187, 191]⟩] W fun e w' => e = .returned (.bool (hasAt l 0 sBomJ)) ∧ W = w' := fun W => by
    have h := Tryd.strings_HasPrefix (S l) (S sBomJ) W
    rw [S_data, S_data] at h
    exact h.mono fun e w' ⟨h1, h2⟩ => ⟨h1, h2.symm⟩
  have HH := Lib.hid hh
  clear hh
  obtain ⟨W5, hW5⟩ : ∃ W5, (((w.alloc (.cells zVC 25)).alloc (.cells #[.int .i64 0] 3)).alloc (.cells #[.int .i64 0] 35)).alloc (.cells #[.string (S l), .int .i64 (startJ l : Nat), .int .i64 0] 54) = W5 := ⟨_, rfl⟩
  have hz5 : W5.heap.size = w.heap.size + 1 + 1 + 1 + 1 := by rw [← hW5]; simp
  have hb5 : Below w.heap.size w W5 := by rw [← hW5]; exact (((((Below.refl _ _).alloc (Nat.le_refl _) _).alloc (by simp) _).alloc (by simp; omega) _).alloc (by simp; omega) _)
  have hv5 : W5.heap[w.heap.size]? = some (.cells zVC 25 (0, 0)) := by rw [← hW5]; exact alloc_old (alloc_old (alloc_old (heap_alloc_new _ _)))
  have ha5 : W5.heap[w.heap.size + 1]? = some (.cells #[.int .i64 0] 3 (0, 0)) := by rw [← hW5]; exact alloc_old (alloc_old (alloc_at (by simp)))
  have he5 : W5.heap[w.heap.size + 1 + 1]? = some (.cells #[.int .i64 0] 35 (0, 0)) := by rw [← hW5]; exact alloc_old (alloc_at (by simp))
  have hp5 : Psr W5 (w.heap.size + 1 + 1 + 1) l (startJ l : Nat) 0 := by rw [← hW5]; exact alloc_at (by simp)
  have hwk : ∀ k : Int, ((startJ l : Nat) : Int) = k → (((w.alloc (.cells zVC 25)).alloc (.cells #[.int .i64 0] 3)).alloc (.cells #[.int .i64 0] 35)).alloc (.cells #[.string (S l), .int .i64 k, .int .i64 0] 54) = W5 := fun k e => by rw [← e]; exact hW5
  have hst := startJ_le (l := l)
  have hpj : parseJ l = match pvF l 1 (startJ l) with
    | .error q => .error q
    | .ok (v, e) => if spEnd l e < l.length then .error (spEnd l e, 17) else .ok v := rfl
  obtain ⟨R, hR⟩ : ∃ R, parseJ l = R := ⟨_, rfl⟩
  rw [hR] at hpj ⊢
  have ht5 : TabB (w.heap.size + 1 + 1 + 1) W5 := ⟨w, ⟨hT, hE⟩, by omega, hb5⟩
  have hcall := value11_any l hl (w.heap.size + 1 + 1 + 1) l.length 0 (startJ l) W5 (by omega) hst (by omega) hp5 ht5
  rw [show (0 : Nat) + 1 = 1 from rfl] at hcall
  have HC := Lib.hid hcall
  have HB5 := Lib.hid hb5
  have HV5 := Lib.hid hv5
  have HA5 := Lib.hid ha5
  have HE5 := Lib.hid he5
  have HPJ := Lib.hid hpj
  have HWK := Lib.hid hwk
  clear hcall hb5 hv5 ha5 he5 hpj hW5 hwk hp5 ht5 hR hT hE
  go_enter_defers Tryd.func16, Tryd.ntmps16
  cases hb : hasAt l 0 sBomJ
  all_goals
    rw [hb] at HH
    go_upto_region 5 with (first
      | (go_at_call 24; refine (HH.out _).mono ?_; rintro e1 w2 ⟨rfl, rfl⟩))
  · have hw5 := HWK.out 0 (by unfold startJ; rw [hb]; rfl)
    change Code.wp _ _ _ _ ((((w.alloc (.cells zVC 25)).alloc (.cells #[.int .i64 0] 3)).alloc (.cells #[.int .i64 0] 35)).alloc (.cells #[.string (S l), .int .i64 0, .int .i64 0] 54))
    rw [hw5]
    clear hw5 HWK HH hmf hb
    cases hpv : pvF l 1 (startJ l) with
    | error q =>
      have hc := HC.out
      have hj := HPJ.out
      rw [hpv] at hc hj
      have HRR : Hid (R = .error q) := hj
      have HCE := Lib.hid hc
      clear hc hj hpv HC HPJ
      go_wp2_with (first
        | (go_at_call 25; refine HCE.out.mono ?_; rintro e w6 ⟨hu6, rfl⟩))
      · have hb6 := HB5.out.trans (hu6.below (B := w.heap.size) (by omega) (by omega))
        have hv6 := (hu6.block _ (heap_lt HV5.out) (by omega)).trans HV5.out
        have ha6 := (hu6.block _ (heap_lt HA5.out) (by omega)).trans HA5.out
        have he6 := (hu6.block _ (heap_lt HE5.out) (by omega)).trans HE5.out
        · refine leaves_cons (f := 23) (args := #[.pointer (some ⟨w.heap.size, 0, none⟩), .pointer (some ⟨w.heap.size + 1, 0, none⟩), .pointer (some ⟨w.heap.size + 1 + 1, 0, none⟩)]) (by simp) (by simp [go_sem]) ?_
          refine (parse1_panic w.heap.size (w.heap.size + 1) (w.heap.size + 1 + 1) q [] _ _ _ _ _ _ _ 0 0 _ hv6 ha6 he6 (by omega) (by omega) (by omega)).mono ?_
          rintro e u' w9 ⟨rfl, rfl, hrec⟩
          have hbl : Below w.heap.size w w9 := ⟨hrec.os.trans hb6.os, hrec.tape.trans hb6.tape, hrec.output.trans hb6.output, Nat.le_trans hb6.size hrec.size, fun k hk => (hrec.block k (by have := hb6.size; omega) (by omega) (by omega) (by omega)).trans (hb6.block k hk)⟩
          change ∃ v, (results _ _).run _ _ = .ok v _ ∧ _
          refine ⟨_, res_cells3 Tryd.results16 _ _ w.heap.size (w.heap.size + 1) (w.heap.size + 1 + 1) rfl rfl rfl _ _ hrec.v Tryd.underlying25 rfl valSize _ _ _ _ hrec.a hrec.e Tryd.underlying3 rfl Tryd.underlying35 rfl, ?_⟩
          rw [HRR.out]
          exact ⟨rfl, hbl⟩
    | ok ve =>
      obtain ⟨v, e0⟩ := ve
      have hve := pvV_ok hst hpv
      have hc := HC.out
      have hj := HPJ.out
      rw [hpv] at hc hj
      have hj : R = if spEnd l e0 < l.length then .error (spEnd l e0, 17) else .ok v := hj
      have HCE := Lib.hid hc
      have hzn := spEnd_le (l := l) (n := e0) hve.2
      have hsp := fun W (hW : Psr W (w.heap.size + 1 + 1 + 1) l e0 0) => psrSpaces_any (w.heap.size + 1 + 1 + 1) l e0 0 W hW hve.2 (by omega)
      obtain ⟨z, hz⟩ : ∃ z, spEnd l e0 = z := ⟨_, rfl⟩
      rw [hz] at hj hzn hsp
      have HSP := Lib.hid hsp
      clear hc hpv HC HPJ hsp hz hve
      by_cases hzl : z < l.length
      · rw [if_pos hzl] at hj
        have HRR := Lib.hid hj
        have hzl' : (z : Int) < l.length := by omega
        clear hj
        go_wp2_with (first
          | (go_at_call 25; refine HCE.out.mono ?_; rintro e w6 ⟨hu6, ⟨u, rfl, ⟨cs, rfl, hv2⟩⟩, hp6⟩; obtain ⟨IB, ib, MB, mb, hcs⟩ := hv2.cells; subst hcs; have hv6 := (hu6.block _ (heap_lt HV5.out) (by omega)).trans HV5.out)
          | ((with_reducible refine gate ?_); refine wp_store_valQ rfl _ _ rfl w.heap.size _ _ _ _ _ _ _ _ _ _ _ _ rfl rfl hv6 rfl ?_; intro w7 hx7 hu7)
          | (go_at_call 26; refine (HSP.out _ (hp6.beside hu7 (by omega))).mono ?_; rintro e w8 ⟨rfl, hp8, hu8⟩; have q1 := hp8.c1))
        · have hz6 := hu6.size
          have hz7 := hu7.size
          have hb6 := HB5.out.trans (hu6.below (B := w.heap.size) (by omega) (by omega))
          have hb7 := hb6.trans (hu7.below (Nat.le_refl _) hb6.size)
          have hb8 := hb7.trans (hu8.below (B := w.heap.size) (by omega) hb7.size)
          have ha6 := (hu6.block _ (heap_lt HA5.out) (by omega)).trans HA5.out
          have he6 := (hu6.block _ (heap_lt HE5.out) (by omega)).trans HE5.out
          have ha7 := (hu7.block _ (heap_lt ha6) (by omega)).trans ha6
          have he7 := (hu7.block _ (heap_lt he6) (by omega)).trans he6
          have hx8 := (hu8.block _ (heap_lt hx7) (by omega)).trans hx7
          have ha8 := (hu8.block _ (heap_lt ha7) (by omega)).trans ha7
          have he8 := (hu8.block _ (heap_lt he7) (by omega)).trans he7
          refine leaves_cons (f := 23) (args := #[.pointer (some ⟨w.heap.size, 0, none⟩), .pointer (some ⟨w.heap.size + 1, 0, none⟩), .pointer (some ⟨w.heap.size + 1 + 1, 0, none⟩)]) (by simp) (by simp [go_sem]) ?_
          refine (parse1_panic w.heap.size (w.heap.size + 1) (w.heap.size + 1 + 1) (z, 17) [] _ _ _ _ _ _ _ 0 0 _ hx8 ha8 he8 (by omega) (by omega) (by omega)).mono ?_
          rintro e u' w9 ⟨rfl, rfl, hrec⟩
          have hbl : Below w.heap.size w w9 := ⟨hrec.os.trans hb8.os, hrec.tape.trans hb8.tape, hrec.output.trans hb8.output, Nat.le_trans hb8.size hrec.size, fun k hk => (hrec.block k (by have := hb8.size; omega) (by omega) (by omega) (by omega)).trans (hb8.block k hk)⟩
          change ∃ v, (results _ _).run _ _ = .ok v _ ∧ _
          refine ⟨_, res_cells3 Tryd.results16 _ _ w.heap.size (w.heap.size + 1) (w.heap.size + 1 + 1) rfl rfl rfl _ _ hrec.v Tryd.underlying25 rfl valSize _ _ _ _ hrec.a hrec.e Tryd.underlying3 rfl Tryd.underlying35 rfl, ?_⟩
          rw [HRR.out]
          exact ⟨rfl, hbl⟩
      · rw [if_neg hzl] at hj
        have HRR := Lib.hid hj
        have hze : z = l.length := by omega
        subst hze
        clear hj
        go_wp2_with (first
          | (go_at_call 25; refine HCE.out.mono ?_; rintro e w6 ⟨hu6, ⟨u, rfl, ⟨cs, rfl, hv2⟩⟩, hp6⟩; obtain ⟨IB, ib, MB, mb, hcs⟩ := hv2.cells; subst hcs; have hv6 := (hu6.block _ (heap_lt HV5.out) (by omega)).trans HV5.out; have ha6 := (hu6.block _ (heap_lt HA5.out) (by omega)).trans HA5.out; have he6 := (hu6.block _ (heap_lt HE5.out) (by omega)).trans HE5.out)
          | (go_at_call 26; refine (HSP.out _ (hp6.beside hu7 (by omega))).mono ?_; rintro e w8 ⟨rfl, hp8, hu8⟩; have q1 := hp8.c1; have hx8 := (hu8.block _ (heap_lt hx7) (by omega)).trans hx7)
          | ((with_reducible refine gate ?_); refine wp_load_val rfl _ rfl w.heap.size 0 rfl _ rfl (range_of_heap hx8) ?_)
          | ((with_reducible refine gate ?_); first
              | (refine wp_store_valQ rfl _ _ rfl w.heap.size _ _ _ _ _ _ _ _ _ _ _ _ rfl rfl hv6 rfl ?_; intro w7 hx7 hu7)
              | (refine wp_store_valQ rfl _ _ rfl w.heap.size _ _ _ _ _ _ _ _ _ _ _ _ rfl rfl hx8 rfl ?_; intro w9 hx9 hu9; have hz6 := hu6.size; have hz7 := hu7.size; have hz8 := hu8.size; have ha9 := (hu9.block _ (by omega) (by omega)).trans ((hu8.block _ (by omega) (by omega)).trans ((hu7.block _ (heap_lt ha6) (by omega)).trans ha6)); have he9 := (hu9.block _ (by omega) (by omega)).trans ((hu8.block _ (by omega) (by omega)).trans ((hu7.block _ (heap_lt he6) (by omega)).trans he6)); have a90 : w9.cell? ⟨w.heap.size + 1, 0, none⟩ = some (.int .i64 0) := (by rw [Lib.cell_of_heap ha9]; rfl); have a9f := Lib.frozen_of_heap ha9 0; have e90 : w9.cell? ⟨w.heap.size + 1 + 1, 0, none⟩ = some (.int .i64 0) := (by rw [Lib.cell_of_heap he9]; rfl); have e9f := Lib.frozen_of_heap he9 0)))
        · have hu10 := Upd.set_ (w.heap.size + 1) 0 w9 (.int .i64 l.length)
          have ha10 : _ = some (Obj.cells #[.int .i64 l.length] _ _) := heap_set (i := 0) ha9 (.int .i64 l.length)
          have he10 := (hu10.block _ (heap_lt he9) (by omega)).trans he9
          have hx10 := (hu10.block _ (heap_lt hx9) (by omega)).trans hx9
          have hz10 := hu10.size
          have hu11 := Upd.set_ (w.heap.size + 1 + 1) 0 (w9.setCell ⟨w.heap.size + 1, 0, none⟩ (.int .i64 l.length)) (.int .i64 0)
          have he11 : _ = some (Obj.cells #[.int .i64 0] _ _) := heap_set (i := 0) he10 (.int .i64 0)
          have ha11 := (hu11.block _ (heap_lt ha10) (by omega)).trans ha10
          have hx11 := (hu11.block _ (heap_lt hx10) (by omega)).trans hx10
          have hz11 := hu11.size
          have hz9 := hu9.size
          have hb6 := HB5.out.trans (hu6.below (B := w.heap.size) (by omega) (by omega))
          have hb9 := (hb6.trans (hu7.below (Nat.le_refl _) hb6.size)).trans ((hu8.below (B := w.heap.size) (by omega) (by omega)).trans (hu9.below (Nat.le_refl _) (by omega)))
          have hb11 := (hb9.trans (hu10.below (B := w.heap.size) (by omega) hb9.size)).trans (hu11.below (B := w.heap.size) (by omega) (by omega))
          have hkeep : ∀ k, W5.heap.size ≤ k → k < w6.heap.size → ((w9.setCell ⟨w.heap.size + 1, 0, none⟩ (.int .i64 l.length)).setCell ⟨w.heap.size + 1 + 1, 0, none⟩ (.int .i64 0)).heap[k]? = w6.heap[k]? := fun k h1 h2 => (hu11.block k (by omega) (by omega)).trans ((hu10.block k (by omega) (by omega)).trans ((hu9.block k (by omega) (by omega)).trans ((hu8.block k (by omega) (by omega)).trans (hu7.block k (by omega) (by omega)))))
          generalize ((w9.setCell ⟨w.heap.size + 1, 0, none⟩ (.int .i64 l.length)).setCell ⟨w.heap.size + 1 + 1, 0, none⟩ (.int .i64 0)) = W11 at *
          refine leaves_cons (f := 23) (args := #[.pointer (some ⟨w.heap.size, 0, none⟩), .pointer (some ⟨w.heap.size + 1, 0, none⟩), .pointer (some ⟨w.heap.size + 1 + 1, 0, none⟩)]) (by simp) (by simp [go_sem]) ?_
          refine (parse1_idle w.heap.size (w.heap.size + 1) (w.heap.size + 1 + 1) _).mono ?_
          rintro e u' w12 ⟨rfl, rfl, rfl⟩
          change ∃ v, (results _ _).run _ _ = .ok v _ ∧ _
          refine ⟨_, res_cells3 Tryd.results16 _ _ w.heap.size (w.heap.size + 1) (w.heap.size + 1 + 1) rfl rfl rfl _ _ hx11 Tryd.underlying25 rfl valSize _ _ _ _ ha11 he11 Tryd.underlying3 rfl Tryd.underlying35 rfl, ?_⟩
          rw [HRR.out]
          exact ⟨⟨_, rfl, _, rfl, ValP.keep (fun k hk => hkeep k hk.1 hk.2) (fun k hk => ⟨by have := hk.1; omega, by have := hk.2; omega⟩) v _ hv2⟩, hb11⟩
  · have hw5 := HWK.out 3 (by unfold startJ; rw [hb]; rfl)
    change Code.wp _ _ _ _ ((((w.alloc (.cells zVC 25)).alloc (.cells #[.int .i64 0] 3)).alloc (.cells #[.int .i64 0] 35)).alloc (.cells #[.string (S l), .int .i64 3, .int .i64 0] 54))
    rw [hw5]
    clear hw5 HWK HH hmf hb
    cases hpv : pvF l 1 (startJ l) with
    | error q =>
      have hc := HC.out
      have hj := HPJ.out
      rw [hpv] at hc hj
      have HRR : Hid (R = .error q) := hj
      have HCE := Lib.hid hc
      clear hc hj hpv HC HPJ
      go_wp2_with (first
        | (go_at_call 25; refine HCE.out.mono ?_; rintro e w6 ⟨hu6, rfl⟩))
      · have hb6 := HB5.out.trans (hu6.below (B := w.heap.size) (by omega) (by omega))
        have hv6 := (hu6.block _ (heap_lt HV5.out) (by omega)).trans HV5.out
        have ha6 := (hu6.block _ (heap_lt HA5.out) (by omega)).trans HA5.out
        have he6 := (hu6.block _ (heap_lt HE5.out) (by omega)).trans HE5.out
        · refine leaves_cons (f := 23) (args := #[.pointer (some ⟨w.heap.size, 0, none⟩), .pointer (some ⟨w.heap.size + 1, 0, none⟩), .pointer (some ⟨w.heap.size + 1 + 1, 0, none⟩)]) (by simp) (by simp [go_sem]) ?_
          refine (parse1_panic w.heap.size (w.heap.size + 1) (w.heap.size + 1 + 1) q [] _ _ _ _ _ _ _ 0 0 _ hv6 ha6 he6 (by omega) (by omega) (by omega)).mono ?_
          rintro e u' w9 ⟨rfl, rfl, hrec⟩
          have hbl : Below w.heap.size w w9 := ⟨hrec.os.trans hb6.os, hrec.tape.trans hb6.tape, hrec.output.trans hb6.output, Nat.le_trans hb6.size hrec.size, fun k hk => (hrec.block k (by have := hb6.size; omega) (by omega) (by omega) (by omega)).trans (hb6.block k hk)⟩
          change ∃ v, (results _ _).run _ _ = .ok v _ ∧ _
          refine ⟨_, res_cells3 Tryd.results16 _ _ w.heap.size (w.heap.size + 1) (w.heap.size + 1 + 1) rfl rfl rfl _ _ hrec.v Tryd.underlying25 rfl valSize _ _ _ _ hrec.a hrec.e Tryd.underlying3 rfl Tryd.underlying35 rfl, ?_⟩
          rw [HRR.out]
          exact ⟨rfl, hbl⟩
    | ok ve =>
      obtain ⟨v, e0⟩ := ve
      have hve := pvV_ok hst hpv
      have hc := HC.out
      have hj := HPJ.out
      rw [hpv] at hc hj
      have hj : R = if spEnd l e0 < l.length then .error (spEnd l e0, 17) else .ok v := hj
      have HCE := Lib.hid hc
      have hzn := spEnd_le (l := l) (n := e0) hve.2
      have hsp := fun W (hW : Psr W (w.heap.size + 1 + 1 + 1) l e0 0) => psrSpaces_any (w.heap.size + 1 + 1 + 1) l e0 0 W hW hve.2 (by omega)
      obtain ⟨z, hz⟩ : ∃ z, spEnd l e0 = z := ⟨_, rfl⟩
      rw [hz] at hj hzn hsp
      have HSP := Lib.hid hsp
      clear hc hpv HC HPJ hsp hz hve
      by_cases hzl : z < l.length
      · rw [if_pos hzl] at hj
        have HRR := Lib.hid hj
        have hzl' : (z : Int) < l.length := by omega
        clear hj
        go_wp2_with (first
          | (go_at_call 25; refine HCE.out.mono ?_; rintro e w6 ⟨hu6, ⟨u, rfl, ⟨cs, rfl, hv2⟩⟩, hp6⟩; obtain ⟨IB, ib, MB, mb, hcs⟩ := hv2.cells; subst hcs; have hv6 := (hu6.block _ (heap_lt HV5.out) (by omega)).trans HV5.out)
          | ((with_reducible refine gate ?_); refine wp_store_valQ rfl _ _ rfl w.heap.size _ _ _ _ _ _ _ _ _ _ _ _ rfl rfl hv6 rfl ?_; intro w7 hx7 hu7)
          | (go_at_call 26; refine (HSP.out _ (hp6.beside hu7 (by omega))).mono ?_; rintro e w8 ⟨rfl, hp8, hu8⟩; have q1 := hp8.c1))
        · have hz6 := hu6.size
          have hz7 := hu7.size
          have hb6 := HB5.out.trans (hu6.below (B := w.heap.size) (by omega) (by omega))
          have hb7 := hb6.trans (hu7.below (Nat.le_refl _) hb6.size)
          have hb8 := hb7.trans (hu8.below (B := w.heap.size) (by omega) hb7.size)
          have ha6 := (hu6.block _ (heap_lt HA5.out) (by omega)).trans HA5.out
          have he6 := (hu6.block _ (heap_lt HE5.out) (by omega)).trans HE5.out
          have ha7 := (hu7.block _ (heap_lt ha6) (by omega)).trans ha6
          have he7 := (hu7.block _ (heap_lt he6) (by omega)).trans he6
          have hx8 := (hu8.block _ (heap_lt hx7) (by omega)).trans hx7
          have ha8 := (hu8.block _ (heap_lt ha7) (by omega)).trans ha7
          have he8 := (hu8.block _ (heap_lt he7) (by omega)).trans he7
          refine leaves_cons (f := 23) (args := #[.pointer (some ⟨w.heap.size, 0, none⟩), .pointer (some ⟨w.heap.size + 1, 0, none⟩), .pointer (some ⟨w.heap.size + 1 + 1, 0, none⟩)]) (by simp) (by simp [go_sem]) ?_
          refine (parse1_panic w.heap.size (w.heap.size + 1) (w.heap.size + 1 + 1) (z, 17) [] _ _ _ _ _ _ _ 0 0 _ hx8 ha8 he8 (by omega) (by omega) (by omega)).mono ?_
          rintro e u' w9 ⟨rfl, rfl, hrec⟩
          have hbl : Below w.heap.size w w9 := ⟨hrec.os.trans hb8.os, hrec.tape.trans hb8.tape, hrec.output.trans hb8.output, Nat.le_trans hb8.size hrec.size, fun k hk => (hrec.block k (by have := hb8.size; omega) (by omega) (by omega) (by omega)).trans (hb8.block k hk)⟩
          change ∃ v, (results _ _).run _ _ = .ok v _ ∧ _
          refine ⟨_, res_cells3 Tryd.results16 _ _ w.heap.size (w.heap.size + 1) (w.heap.size + 1 + 1) rfl rfl rfl _ _ hrec.v Tryd.underlying25 rfl valSize _ _ _ _ hrec.a hrec.e Tryd.underlying3 rfl Tryd.underlying35 rfl, ?_⟩
          rw [HRR.out]
          exact ⟨rfl, hbl⟩
      · rw [if_neg hzl] at hj
        have HRR := Lib.hid hj
        have hze : z = l.length := by omega
        subst hze
        clear hj
        go_wp2_with (first
          | (go_at_call 25; refine HCE.out.mono ?_; rintro e w6 ⟨hu6, ⟨u, rfl, ⟨cs, rfl, hv2⟩⟩, hp6⟩; obtain ⟨IB, ib, MB, mb, hcs⟩ := hv2.cells; subst hcs; have hv6 := (hu6.block _ (heap_lt HV5.out) (by omega)).trans HV5.out; have ha6 := (hu6.block _ (heap_lt HA5.out) (by omega)).trans HA5.out; have he6 := (hu6.block _ (heap_lt HE5.out) (by omega)).trans HE5.out)
          | (go_at_call 26; refine (HSP.out _ (hp6.beside hu7 (by omega))).mono ?_; rintro e w8 ⟨rfl, hp8, hu8⟩; have q1 := hp8.c1; have hx8 := (hu8.block _ (heap_lt hx7) (by omega)).trans hx7)
          | ((with_reducible refine gate ?_); refine wp_load_val rfl _ rfl w.heap.size 0 rfl _ rfl (range_of_heap hx8) ?_)
          | ((with_reducible refine gate ?_); first
              | (refine wp_store_valQ rfl _ _ rfl w.heap.size _ _ _ _ _ _ _ _ _ _ _ _ rfl rfl hv6 rfl ?_; intro w7 hx7 hu7)
              | (refine wp_store_valQ rfl _ _ rfl w.heap.size _ _ _ _ _ _ _ _ _ _ _ _ rfl rfl hx8 rfl ?_; intro w9 hx9 hu9; have hz6 := hu6.size; have hz7 := hu7.size; have hz8 := hu8.size; have ha9 := (hu9.block _ (by omega) (by omega)).trans ((hu8.block _ (by omega) (by omega)).trans ((hu7.block _ (heap_lt ha6) (by omega)).trans ha6)); have he9 := (hu9.block _ (by omega) (by omega)).trans ((hu8.block _ (by omega) (by omega)).trans ((hu7.block _ (heap_lt he6) (by omega)).trans he6)); have a90 : w9.cell? ⟨w.heap.size + 1, 0, none⟩ = some (.int .i64 0) := (by rw [Lib.cell_of_heap ha9]; rfl); have a9f := Lib.frozen_of_heap ha9 0; have e90 : w9.cell? ⟨w.heap.size + 1 + 1, 0, none⟩ = some (.int .i64 0) := (by rw [Lib.cell_of_heap he9]; rfl); have e9f := Lib.frozen_of_heap he9 0)))
        · have hu10 := Upd.set_ (w.heap.size + 1) 0 w9 (.int .i64 l.length)
          have ha10 : _ = some (Obj.cells #[.int .i64 l.length] _ _) := heap_set (i := 0) ha9 (.int .i64 l.length)
          have he10 := (hu10.block _ (heap_lt he9) (by omega)).trans he9
          have hx10 := (hu10.block _ (heap_lt hx9) (by omega)).trans hx9
          have hz10 := hu10.size
          have hu11 := Upd.set_ (w.heap.size + 1 + 1) 0 (w9.setCell ⟨w.heap.size + 1, 0, none⟩ (.int .i64 l.length)) (.int .i64 0)
          have he11 : _ = some (Obj.cells #[.int .i64 0] _ _) := heap_set (i := 0) he10 (.int .i64 0)
          have ha11 := (hu11.block _ (heap_lt ha10) (by omega)).trans ha10
          have hx11 := (hu11.block _ (heap_lt hx10) (by omega)).trans hx10
          have hz11 := hu11.size
          have hz9 := hu9.size
          have hb6 := HB5.out.trans (hu6.below (B := w.heap.size) (by omega) (by omega))
          have hb9 := (hb6.trans (hu7.below (Nat.le_refl _) hb6.size)).trans ((hu8.below (B := w.heap.size) (by omega) (by omega)).trans (hu9.below (Nat.le_refl _) (by omega)))
          have hb11 := (hb9.trans (hu10.below (B := w.heap.size) (by omega) hb9.size)).trans (hu11.below (B := w.heap.size) (by omega) (by omega))
          have hkeep : ∀ k, W5.heap.size ≤ k → k < w6.heap.size → ((w9.setCell ⟨w.heap.size + 1, 0, none⟩ (.int .i64 l.length)).setCell ⟨w.heap.size + 1 + 1, 0, none⟩ (.int .i64 0)).heap[k]? = w6.heap[k]? := fun k h1 h2 => (hu11.block k (by omega) (by omega)).trans ((hu10.block k (by omega) (by omega)).trans ((hu9.block k (by omega) (by omega)).trans ((hu8.block k (by omega) (by omega)).trans (hu7.block k (by omega) (by omega)))))
          generalize ((w9.setCell ⟨w.heap.size + 1, 0, none⟩ (.int .i64 l.length)).setCell ⟨w.heap.size + 1 + 1, 0, none⟩ (.int .i64 0)) = W11 at *
          refine leaves_cons (f := 23) (args := #[.pointer (some ⟨w.heap.size, 0, none⟩), .pointer (some ⟨w.heap.size + 1, 0, none⟩), .pointer (some ⟨w.heap.size + 1 + 1, 0, none⟩)]) (by simp) (by simp [go_sem]) ?_
          refine (parse1_idle w.heap.size (w.heap.size + 1) (w.heap.size + 1 + 1) _).mono ?_
          rintro e u' w12 ⟨rfl, rfl, rfl⟩
          change ∃ v, (results _ _).run _ _ = .ok v _ ∧ _
          refine ⟨_, res_cells3 Tryd.results16 _ _ w.heap.size (w.heap.size + 1) (w.heap.size + 1 + 1) rfl rfl rfl _ _ hx11 Tryd.underlying25 rfl valSize _ _ _ _ ha11 he11 Tryd.underlying3 rfl Tryd.underlying35 rfl, ?_⟩
          rw [HRR.out]
          exact ⟨⟨_, rfl, _, rfl, ValP.keep (fun k hk => hkeep k hk.1 hk.2) (fun k hk => ⟨by have := hk.1; omega, by have := hk.2; omega⟩) v _ hv2⟩, hb11⟩
end Go.Proofs.YthlppbpccldikaaDoor
set_option linter.unusedVariables false
namespace Go.Proofs.YthlppbpccldikaaDoor
open Go.RowKit

abbrev valAgg (n : JV) (IA : Option Addr) (ic : Nat) (MA : Option Addr) (mc : Nat) : Value :=
  .agg #[.int .i64 n.kind, .bool n.b, .int .i64 n.n, .string (S n.s), .slice IA n.items.length ic, .slice MA n.mems.length mc, .int .i64 n.pos]
abbrev valList (n : JV) (IA : Option Addr) (ic : Nat) (MA : Option Addr) (mc : Nat) : List Value :=
  [.int .i64 n.kind, .bool n.b, .int .i64 n.n, .string (S n.s), .slice IA n.items.length ic, .slice MA n.mems.length mc, .int .i64 n.pos]
/-- A variable of type Value. -/
structure Jbx (W : World) (b : Nat) (n : JV) (IA : Option Addr) (ic : Nat) (MA : Option Addr) (mc : Nat) : Prop where
  box : W.heap[b]? = some (valBox n IA ic MA mc)
  tree : ValV W (· < W.heap.size) n (valAgg n IA ic MA mc)
section
variable {w W W' : World} {b : Nat} {n : JV} {IA : Option Addr} {ic : Nat} {MA : Option Addr} {mc : Nat}
theorem Jbx.lt (h : Jbx W b n IA ic MA mc) : b < W.heap.size := heap_lt h.box
theorem ValV.grow {v : Value} (h : ValV W (· < W.heap.size) n v) (hb : Below W.heap.size W W') : ValV W' (· < W'.heap.size) n v := h.keep (fun k hk => hb.block k hk) (fun k hk => Nat.lt_of_lt_of_le hk hb.size)
theorem Jbx.keep (h : Jbx W b n IA ic MA mc) (hb : Below W.heap.size W W') : Jbx W' b n IA ic MA mc :=
  ⟨(hb.block b h.lt).trans h.box, h.tree.grow hb⟩
theorem Jbx.new (h : ValV w (· < w.heap.size) n (valAgg n IA ic MA mc)) : Jbx (w.alloc (valBox n IA ic MA mc)) w.heap.size n IA ic MA mc :=
  ⟨heap_alloc_new _ _, h.grow ((Below.refl _ _).alloc (Nat.le_refl _) _)⟩
theorem Jbx.range (h : Jbx W b n IA ic MA mc) : W.rangeAt b 0 (valList n IA ic MA mc) := range_of_heap h.box
theorem Jbx.cells (h : Jbx W b n IA ic MA mc) :
    W.cell? ⟨b, 0, none⟩ = some (.int .i64 n.kind) ∧ W.cell? ⟨b, 1, none⟩ = some (.bool n.b) ∧ W.cell? ⟨b, 2, none⟩ = some (.int .i64 n.n) ∧ W.cell? ⟨b, 3, none⟩ = some (.string (S n.s)) ∧
    W.cell? ⟨b, 4, none⟩ = some (.slice IA n.items.length ic) ∧ W.cell? ⟨b, 5, none⟩ = some (.slice MA n.mems.length mc) ∧ W.cell? ⟨b, 6, none⟩ = some (.int .i64 n.pos) := by
  refine ⟨?_, ?_, ?_, ?_, ?_, ?_, ?_⟩ <;> (rw [Lib.cell_of_heap h.box]; rfl)
end
/-- The value, the offset and the error of a parse. -/
def valR : Except (Nat × Nat) JV → JV | .error _ => zJV | .ok v => v
def atRJ (l : Bytes) : Except (Nat × Nat) JV → Int | .error q => q.1 | .ok _ => l.length
def erRJ : Except (Nat × Nat) JV → Int | .error q => q.2 | .ok _ => 0
theorem zValP11 (w : World) (p : Nat → Prop) : ValV w p zJV zValV := ⟨_, rfl, ValP.of_open (n := zJV) (ElsP.nil _ _ _) (ElsP.nil _ _ _)⟩
/-- What a parser of values returns. -/
def BothJ (w' : World) (l : Bytes) (r : Except (Nat × Nat) JV) (e : Ending) : Prop :=
  ∃ IA ic MA mc, e = .returned (.tuple #[valAgg (valR r) IA ic MA mc, .int .i64 (atRJ l r), .int .i64 (erRJ r)]) ∧ ValV w' (· < w'.heap.size) (valR r) (valAgg (valR r) IA ic MA mc)
theorem ParP.both {w w' : World} {l : Bytes} {r : Except (Nat × Nat) JV} {e : Ending} (h : ParP w w' l r e) : BothJ w' l r e := by
  cases r with
  | error q => exact ⟨none, 0, none, 0, h, zValP11 _ _⟩
  | ok v =>
    obtain ⟨u, rfl, hv⟩ := h
    have hn : ValV w' (· < w'.heap.size) v u := hv.keep (fun _ _ => rfl) (fun k hk => hk.2)
    obtain ⟨IA, ic, MA, mc, rfl, _⟩ := hn.open_
    exact ⟨IA, ic, MA, mc, rfl, hn⟩
theorem parse11_both (l : Bytes) (w : World) (hT : Tabs w) (hE : NumE w) (hl : l.length ≤ 1000000) :
    Calls Tryd.prog 16 #[.string (S l)] w fun e w' => BothJ w' l (parseJ l) e ∧ Below w.heap.size w w' :=
  (parse11_any l w hT hE hl).mono fun e w' h => ⟨h.1.both, h.2⟩
end Go.Proofs.YthlppbpccldikaaDoor
set_option linter.unusedVariables false
namespace Go.Proofs.YthlppbpccldikaaDoor
open Go.RowKit

/-! The library's word on valid UTF-8, in terms of the decoder. -/
theorem decodeL_dec {l : Bytes} (h : l ≠ []) : Lib.decodeL l = if (dec l).2 = 0 then (65533, 1) else dec l := utf8_dec l h
theorem decodeL_bad {l : Bytes} (h : l ≠ []) (hd : (Lib.decodeL l).1 = 65533 ∧ (Lib.decodeL l).2 = 1) : (dec l).2 = 0 := by
  by_cases h0 : (dec l).2 = 0
  · exact h0
  · rw [decodeL_dec h, if_neg h0] at hd
    have := dec_one l hd.2
    omega
theorem decodeL_ok {l : Bytes} (h : l ≠ []) (hd : ¬ ((Lib.decodeL l).1 = 65533 ∧ (Lib.decodeL l).2 = 1)) : (dec l).2 ≠ 0 ∧ Lib.decodeL l = dec l := by
  by_cases h0 : (dec l).2 = 0
  · rw [decodeL_dec h, if_pos h0] at hd
    exact absurd ⟨rfl, rfl⟩ hd
  · exact ⟨h0, by rw [decodeL_dec h, if_neg h0]⟩
end Go.Proofs.YthlppbpccldikaaDoor
set_option linter.unusedVariables false
namespace Go.Proofs.YthlppbpccldikaaDoor
open Go.RowKit

/-! Appending some bytes. -/
theorem own_append_list_step {ops : Array Oper} {o : Oper} {a : Act} {K : Act → World → Prop} {Q : Exit → Act → World → Prop} {Z : Prop} (hgd : o.guard = none) (sl x : Operand)
    (ho : o.op = .call { callee := .builtin .append, args := #[sl, x], argTypes := #[34, 34] })
    (w : World) (B : Nat) (v : Value) (l m : Bytes) (cs : Array Value) (k : Nat) (hcs : cs.toList = Lib.byteCells m) (hk : m.length = k) (hm : 1 ≤ k ∧ k ≤ 10) (hs : a.eval sl = v) (h : Own B v l w) (H : Nat) (hH : w.heap.size = H) (hx : a.eval x = .slice (some ⟨H, 0, none⟩) k k) (hlen : l.length + 10 ≤ 140737488355328) (hB : B ≤ w.heap.size)
    (hK : ∀ v' w', Own B v' (l ++ m) w' → Below B w w' → K (a.put o.dst v') w') : if Region.wanted o (yielded ops a.tmps) = true then Oper.wp Tryd.prog o a (w.alloc (.cells cs 5)) K Q else Z := by
  subst hH hk
  obtain ⟨i0, hi, hz0, hz1, hz2⟩ := info_parts infoByte
  have hal : Own B v l (w.alloc (.cells cs 5)) := h.below ((Below.refl _ _).alloc (Nat.le_refl _) _)
  refine step_append_lies _ hgd sl x 34 ho B 5 i0 (.int .u8 0) 1 1 Tryd.underlying34 hi hz0 hz1 hz2 rfl (by decide) v l.length (Lib.byteCells l) hs hal ⟨w.heap.size, 0, none⟩ m.length m.length (Lib.byteCells m) hx (by rw [Lib.byteCells_length]; omega) ?_ ?_ (by omega) (by unfold maxLen; omega) (by omega) (by simp; omega) _ rfl ?_
  · intro j u hj
    exact World.news_of_block (heap_alloc_new w (.cells cs 5)) j u (by rw [hcs]; exact hj)
  · intro u hu
    simp only [Lib.byteCells, List.mem_map] at hu
    obtain ⟨c, _, rfl⟩ := hu
    rfl
  · intro g cap w' h1 h2 hat hlt'
    refine hK _ w' ?_ (((Below.refl _ _).alloc hB _).trans (row_grown h2 (by simp; omega) (fun k hk => by have := h.lt k hk; simp; omega)))
    unfold Own
    rw [Lib.byteCells_append, List.length_append]
    exact h1
theorem own_append_list {ops : Array Oper} {rest : List Oper} {o : Oper} {a : Act} {Q : Exit → Act → World → Prop} (hgd : o.guard = none) (sl x : Operand)
    (ho : o.op = .call { callee := .builtin .append, args := #[sl, x], argTypes := #[34, 34] })
    (w : World) (B : Nat) (v : Value) (l m : Bytes) (cs : Array Value) (k : Nat) (hcs : cs.toList = Lib.byteCells m) (hk : m.length = k) (hm : 1 ≤ k ∧ k ≤ 10) (hs : a.eval sl = v) (h : Own B v l w) (H : Nat) (hH : w.heap.size = H) (hx : a.eval x = .slice (some ⟨H, 0, none⟩) k k) (hlen : l.length + 10 ≤ 140737488355328) (hB : B ≤ w.heap.size)
    (hK : ∀ v' w', Own B v' (l ++ m) w' → Below B w w' → wpList Tryd.prog ops Q rest (a.put o.dst v') w') : wpList Tryd.prog ops Q (o :: rest) a (w.alloc (.cells cs 5)) := by
  subst hH hk
  obtain ⟨i0, hi, hz0, hz1, hz2⟩ := info_parts infoByte
  have hal : Own B v l (w.alloc (.cells cs 5)) := h.below ((Below.refl _ _).alloc (Nat.le_refl _) _)
  refine wpList_append_lies _ hgd sl x 34 ho B 5 i0 (.int .u8 0) 1 1 Tryd.underlying34 hi hz0 hz1 hz2 rfl (by decide) v l.length (Lib.byteCells l) hs hal ⟨w.heap.size, 0, none⟩ m.length m.length (Lib.byteCells m) hx (by rw [Lib.byteCells_length]; omega) ?_ ?_ (by omega) (by unfold maxLen; omega) (by omega) (by simp; omega) _ rfl ?_
  · intro j u hj
    exact World.news_of_block (heap_alloc_new w (.cells cs 5)) j u (by rw [hcs]; exact hj)
  · intro u hu
    simp only [Lib.byteCells, List.mem_map] at hu
    obtain ⟨c, _, rfl⟩ := hu
    rfl
  · intro g cap w' h1 h2 hat hlt'
    refine hK _ w' ?_ (((Below.refl _ _).alloc hB _).trans (row_grown h2 (by simp; omega) (fun k hk => by have := h.lt k hk; simp; omega)))
    unfold Own
    rw [Lib.byteCells_append, List.length_append]
    exact h1
theorem own_new (w : World) (B : Nat) (hB : B ≤ w.heap.size) (c : UInt8) : Own B (.slice (some ⟨w.heap.size, 0, none⟩) 1 1) [c] (w.alloc (.cells #[.int .u8 c.toNat] 5)) :=
  ⟨rfl, .inr ⟨w.heap.size, 1, _, rfl, hB, heap_alloc_new w _, Nat.le_refl _, by decide, rfl, rfl⟩⟩
end Go.Proofs.YthlppbpccldikaaDoor
set_option linter.unusedVariables false
namespace Go.Proofs.YthlppbpccldikaaDoor
open Go.RowKit

theorem vgo_bad {m : Nat} {l : Bytes} (h0 : l ≠ []) (hm : 1 ≤ m) (h : (dec l).2 = 0) : Lib.validGoD m l = false := by
  obtain ⟨m, rfl⟩ : ∃ k, m = k + 1 := ⟨m - 1, by omega⟩
  rw [Lib.validGoD, if_neg h0, decodeL_dec h0, if_pos h]
  simp
theorem vgo_next {m : Nat} {l : Bytes} (h0 : l ≠ []) (hm : 1 ≤ m) (h : (dec l).2 ≠ 0) : Lib.validGoD m l = Lib.validGoD (m - 1) (l.drop (dec l).2) := by
  obtain ⟨m, rfl⟩ : ∃ k, m = k + 1 := ⟨m - 1, by omega⟩
  rw [Lib.validGoD, if_neg h0]
  have e : Lib.decodeL l = dec l := by rw [decodeL_dec h0, if_neg h]
  rw [e]
  rw [if_neg]
  · rfl
  · intro hh
    have := dec_one l hh.2
    omega
theorem vgo_end : ∀ m, Lib.validGoD m [] = true
  | 0 => rfl
  | m + 1 => by rw [Lib.validGoD, if_pos rfl]
/-- The letter of a short escape, or 0. -/
def letterR (c : UInt8) : UInt8 := if c = 34 then 34 else if c = 92 then 92 else if c = 8 then 98 else if c = 9 then 116 else if c = 10 then 110 else if c = 12 then 102 else if c = 13 then 114 else 0
theorem u8n {c : UInt8} {n : Nat} (hn : n < 256) (h : ((c.toNat : Int) == (n : Int)) = true) : c = UInt8.ofNat n := by
  have := eq_of_beq h
  apply UInt8.toNat_inj.1
  rw [u8_of hn]
  omega
theorem u8m {c : UInt8} {n : Nat} (hn : n < 256) (h : ((c.toNat : Int) == (n : Int)) = false) : c ≠ UInt8.ofNat n := by
  intro e
  rw [beq_eq_false_iff_ne] at h
  apply h
  rw [e, u8_of hn]
end Go.Proofs.YthlppbpccldikaaDoor
set_option linter.unusedVariables false
namespace Go.Proofs.YthlppbpccldikaaDoor
open Go.RowKit

theorem isEmpty_len {α : Type} (l : List α) : ((l.length : Int) == 0) = l.isEmpty := by cases l <;> simp <;> omega
end Go.Proofs.YthlppbpccldikaaDoor
set_option linter.unusedVariables false
namespace Go.Proofs.YthlppbpccldikaaDoor
open Go.RowKit

/-- Block b is a map that holds these entries, one behind the other. -/
def MapOf (w : World) (b : Nat) (l : List (Bytes × Value)) : Prop :=
  ∃ es clock, w.heap[b]? = some (.map es clock) ∧ es.toList.map (fun e => (e.key, e.val)) = l.map (fun p => (Value.string (S p.1), p.2))
/-- What the first entry with this key holds. -/
def look (k : Bytes) : List (Bytes × Value) → Option Value
  | [] => none
  | p :: l => if k == p.1 then some p.2 else look k l
/-- A store. -/
def putM (k : Bytes) (v : Value) : List (Bytes × Value) → List (Bytes × Value)
  | [] => [(k, v)]
  | p :: l => if k == p.1 then (k, v) :: l else p :: putM k v l

theorem MapOf.lt {w : World} {b : Nat} {l : List (Bytes × Value)} (h : MapOf w b l) : b < w.heap.size := by
  obtain ⟨es, clock, hb, _⟩ := h
  exact (Array.getElem?_eq_some_iff.1 hb).1
theorem MapOf.keep {w w' : World} {b : Nat} {l : List (Bytes × Value)} (h : MapOf w b l) (hb : w'.heap[b]? = w.heap[b]?) : MapOf w' b l := by
  obtain ⟨es, clock, h1, h2⟩ := h
  exact ⟨es, clock, hb.trans h1, h2⟩
theorem MapOf.below {w w' : World} {b : Nat} {l : List (Bytes × Value)} (h : MapOf w b l) (hb : Below w.heap.size w w') : MapOf w' b l := h.keep (hb.block b h.lt)
theorem MapOf.new (w : World) : MapOf (w.alloc (.map #[] 0)) w.heap.size [] := ⟨#[], 0, heap_alloc_new w _, rfl⟩

theorem S_beq (a b : Bytes) : (S a == S b) = (a == b) := by
  have h : (S a == S b) = (a.toArray == b.toArray) := rfl
  rw [h, List.beq_toArray]
theorem findNow_S (k : Bytes) : ∀ (es : List MapEntry) (l : List (Bytes × Value)) (i : Nat), es.map (fun e => (e.key, e.val)) = l.map (fun p => (Value.string (S p.1), p.2)) →
    ∃ r, Instr.findNow .string (.string (S k)) es i = some r ∧ r.map (·.2) = look k l ∧ (∀ j v, r = some (j, v) → i ≤ j ∧ ∃ e, es[j - i]? = some e ∧ e.key = .string (S k))
  | [], l, i, h => by
    have : l = [] := by cases l with | nil => rfl | cons => simp at h
    subst this
    exact ⟨none, rfl, rfl, fun j v hj => by cases hj⟩
  | e :: es, l, i, h => by
    cases l with
    | nil => simp at h
    | cons p l =>
      simp only [List.map_cons, List.cons.injEq, Prod.mk.injEq] at h
      obtain ⟨⟨hk, hv⟩, h⟩ := h
      simp only [Instr.findNow, hk, Instr.sameNow, S_beq, look]
      cases hb : (k == p.1) with
      | true =>
        refine ⟨some (i, e.val), rfl, by simp [hv], fun j v hj => ?_⟩
        cases hj
        exact ⟨Nat.le_refl _, e, by simp, by rw [hk, eq_of_beq hb]⟩
      | false =>
        obtain ⟨r, h1, h2, h3⟩ := findNow_S k es l (i + 1) h
        refine ⟨r, h1, by simpa using h2, fun j v hj => ?_⟩
        obtain ⟨h4, e', h5, h6⟩ := h3 j v hj
        refine ⟨by omega, e', ?_, h6⟩
        rw [show j - i = (j - (i + 1)) + 1 by omega, List.getElem?_cons_succ]
        exact h5

section
variable {w : World} {b : Nat} {l : List (Bytes × Value)} {t e kt : TypeId} {P : Program} {z : Value}
theorem run_checkKey_string (w : World) (em : Bool) (hk : P.underlying kt = some .string) (v : Value) : (Instr.checkKey em 10000 kt v).run P w = .ok () w := by
  rw [Instr.checkKey]
  simp [run_underlying hk]
theorem run_findKey (w : World) (hk : P.underlying kt = some .string) (k : Bytes) (es : List MapEntry) (r : Option (Nat × Value)) (h : Instr.findNow .string (.string (S k)) es 0 = some r) :
    (Instr.findKey kt (.string (S k)) es).run P w = .ok r w := by
  unfold Instr.findKey
  simp [run_underlying hk, h]
theorem MapOf.run_lookup (h : MapOf w b l) (ht : P.underlying t = some (.map kt e)) (hk : P.underlying kt = some .string) (hz : (zeroValue e).run P w = .ok z w) (k : Bytes) :
    (Instr.lookup t (.map (some b)) (.string (S k)) false).run P w = .ok ((look k l).getD z) w := by
  obtain ⟨es, clock, hb, hes⟩ := h
  obtain ⟨r, h1, h2, _⟩ := findNow_S k es.toList l 0 hes
  unfold Instr.lookup
  simp only [Sem.run_bind, run_underlying ht, Result.andThen_ok, run_getObj_map w b es clock hb, Sem.run_pure]
  rw [run_checkKey_string w es.isEmpty hk]
  simp only [Result.andThen_ok]
  rw [run_findKey w hk k es.toList r h1]
  simp only [Result.andThen_ok]
  cases r with
  | none => simp [← h2, hz]
  | some x => obtain ⟨j, v⟩ := x; simp [← h2]
theorem MapOf.run_lookup_ok (h : MapOf w b l) (ht : P.underlying t = some (.map kt e)) (hk : P.underlying kt = some .string) (hz : (zeroValue e).run P w = .ok z w) (k : Bytes) :
    (Instr.lookup t (.map (some b)) (.string (S k)) true).run P w = .ok (.tuple #[(look k l).getD z, .bool (look k l).isSome]) w := by
  obtain ⟨es, clock, hb, hes⟩ := h
  obtain ⟨r, h1, h2, _⟩ := findNow_S k es.toList l 0 hes
  unfold Instr.lookup
  simp only [Sem.run_bind, run_underlying ht, Result.andThen_ok, run_getObj_map w b es clock hb, Sem.run_pure, run_checkKey_string w es.isEmpty hk, run_findKey w hk k es.toList r h1]
  cases r with
  | none => simp [← h2, hz]
  | some x => obtain ⟨j, v⟩ := x; simp [← h2]
theorem putM_push {k : Bytes} {v : Value} {l : List (Bytes × Value)} (h : look k l = none) : putM k v l = l ++ [(k, v)] := by
  induction l with
  | nil => rfl
  | cons p l ih =>
    rw [look] at h
    rw [putM]
    split at h
    · cases h
    · rename_i hb
      rw [if_neg hb, ih h]; rfl
theorem findNow_at (k : Bytes) : ∀ (es : List MapEntry) (l : List (Bytes × Value)) (i j : Nat) (u : Value), es.map (fun e => (e.key, e.val)) = l.map (fun p => (Value.string (S p.1), p.2)) →
    Instr.findNow .string (.string (S k)) es i = some (some (j, u)) → i ≤ j ∧ ∀ v, (es.modify (j - i) (fun e => { e with key := .string (S k), val := v })).map (fun e => (e.key, e.val)) = (putM k v l).map (fun p => (Value.string (S p.1), p.2))
  | [], l, i, j, u, h, hf => by simp [Instr.findNow] at hf
  | e :: es, l, i, j, u, h, hf => by
    cases l with
    | nil => simp at h
    | cons p l =>
      simp only [List.map_cons, List.cons.injEq, Prod.mk.injEq] at h
      obtain ⟨⟨hk, hv⟩, h⟩ := h
      simp only [Instr.findNow, hk, Instr.sameNow, S_beq] at hf
      cases hb : (k == p.1) with
      | true =>
        rw [hb] at hf
        simp at hf
        obtain ⟨rfl, _⟩ := hf
        refine ⟨Nat.le_refl _, fun v => ?_⟩
        simp [putM, hb, h]
      | false =>
        rw [hb] at hf
        obtain ⟨h4, h5⟩ := findNow_at k es l (i + 1) j u h hf
        refine ⟨by omega, fun v => ?_⟩
        rw [show j - i = (j - (i + 1)) + 1 by omega]
        simp only [List.modify_succ_cons, List.map_cons, hk, hv, putM, hb, Bool.false_eq_true, if_false]
        rw [h5 v]
theorem sameBits_S (n : Nat) (k : Bytes) : Instr.sameBits n (.string (S k)) (.string (S k)) = true := by
  cases n <;> simp [Instr.sameBits, S_beq]
theorem MapOf.run_update (h : MapOf w b l) (ht : P.underlying t = some (.map kt e)) (hk : P.underlying kt = some .string) (k : Bytes) (v : Value) :
    ∃ w', (Instr.mapUpdate t (.map (some b)) (.string (S k)) v).run P w = .ok () w' ∧ MapOf w' b (putM k v l) ∧ Upd b w w' ∧ w'.heap.size = w.heap.size := by
  obtain ⟨es, clock, hb, hes⟩ := h
  have hlt : b < w.heap.size := (Array.getElem?_eq_some_iff.1 hb).1
  obtain ⟨r, h1, h2, h3⟩ := findNow_S k es.toList l 0 hes
  have hset : ∀ o, (setObj b o).run P w = .ok () { w with heap := w.heap.setIfInBounds b o } := fun o => MapKept.run_setObj_map o hb
  have hupd : ∀ o, Upd b w { w with heap := w.heap.setIfInBounds b o } := fun o => ⟨rfl, rfl, rfl, by simp, fun j hj hne => by simp [Ne.symm hne]⟩
  unfold Instr.mapUpdate
  simp only [Sem.run_bind, run_underlying ht, Result.andThen_ok, run_getObj_map w b es clock hb, run_checkKey_string w false hk, run_findKey w hk k es.toList r h1]
  cases r with
  | none =>
    refine ⟨_, hset _, ⟨es.push { key := .string (S k), val := v, born := clock }, clock + 1, by simp [hlt], ?_⟩, hupd _, by simp⟩
    rw [putM_push (by rw [← h2]; rfl)]
    simp [hes]
  | some x =>
    obtain ⟨j, u⟩ := x
    obtain ⟨_, e0, h5, h6⟩ := h3 j u rfl
    simp only [Nat.sub_zero] at h5
    have h5' : es[j]? = some e0 := by simpa using h5
    have hkt : (Instr.keyThatStays (((es[j]?).map (·.key)).getD (.string (S k))) (.string (S k))).run P w = .ok (.string (S k)) w := by
      rw [h5']
      simp only [Option.map_some, Option.getD_some, h6]
      unfold Instr.keyThatStays
      rw [if_pos (sameBits_S _ _)]
      rfl
    simp only [Sem.run_bind, hkt, Result.andThen_ok]
    refine ⟨_, hset _, ⟨es.modify j fun e => { e with key := .string (S k), val := v }, clock, by simp [hlt], ?_⟩, hupd _, by simp⟩
    have := (findNow_at k es.toList l 0 j u hes h1).2 v
    simpa [Array.toList_modify] using this
end
theorem wpList_map_put {P : Program} {w : World} {ops : Array Oper} {rest : List Oper} {o : Oper} {a : Act} {Q : Exit → Act → World → Prop} (hg : o.guard = none) (m x y : Operand) (t : TypeId) (hop : o.op = Op.mapUpdate t m x y)
    {kt e : TypeId} (ht : P.underlying t = some (.map kt e)) (hk : P.underlying kt = some .string) (b : Nat) (l : List (Bytes × Value)) (h : MapOf w b l) (hm : a.eval m = .map (some b)) (k : Bytes) (hx : a.eval x = .string (S k)) (v : Value) (hy : a.eval y = v)
    (hK : ∀ w', MapOf w' b (putM k v l) → Upd b w w' → w'.heap.size = w.heap.size → wpList P ops Q rest (a.put o.dst undef) w') : wpList P ops Q (o :: rest) a w := by
  refine wpList_plain hg fun K' hK' => ?_
  obtain ⟨w', hrun, r1, r2, r3⟩ := h.run_update ht hk k v
  unfold Oper.wp
  simp [execOp, hop, hm, hx, hy, hrun, Result.andThen]
  exact hK' _ _ (hK w' r1 r2 r3)
theorem wpList_map_ins {P : Program} {w : World} {ops : Array Oper} {rest : List Oper} {o : Oper} {a : Act} {Q : Exit → Act → World → Prop} (hg : o.guard = none) (m x y : Operand) (t : TypeId) (hop : o.op = Op.insert t m x y)
    {kt e : TypeId} (ht : P.underlying t = some (.map kt e)) (hk : P.underlying kt = some .string) (b : Nat) (l : List (Bytes × Value)) (h : MapOf w b l) (hm : a.eval m = .map (some b)) (k : Bytes) (hx : a.eval x = .string (S k)) (v : Value) (hy : a.eval y = v)
    (hK : ∀ w', MapOf w' b (putM k v l) → Upd b w w' → w'.heap.size = w.heap.size → wpList P ops Q rest (a.put o.dst undef) w') : wpList P ops Q (o :: rest) a w := by
  refine wpList_plain hg fun K' hK' => ?_
  obtain ⟨w', hrun, r1, r2, r3⟩ := h.run_update ht hk k v
  unfold Oper.wp
  simp [execOp, hop, hm, hx, hy, hrun, Result.andThen]
  exact hK' _ _ (hK w' r1 r2 r3)
end Go.Proofs.YthlppbpccldikaaDoor
set_option linter.unusedVariables false
namespace Go.Proofs.YthlppbpccldikaaDoor
open Go.RowKit

theorem zeroBool (w : World) : (zeroValue 4).run Tryd.prog w = .ok (.bool false) w := by kernel_rfl
/-- The set of the names seen so far. -/
def seenOf (l : List Bytes) : List (Bytes × Value) := l.map fun k => (k, .bool true)
theorem look_seen (k : Bytes) (l : List Bytes) : (look k (seenOf l)).getD (.bool false) = .bool (l.contains k) := by
  induction l with
  | nil => rfl
  | cons x l ih =>
    rw [seenOf, List.map_cons, look]
    by_cases h : k = x
    · subst h; simp
    · have : (k == x) = false := by simp [h]
      rw [this]
      simp only [Bool.false_eq_true, if_false]
      rw [show (look k (l.map fun k => (k, Value.bool true))) = look k (seenOf l) from rfl, ih]
      congr 1
      rw [Bool.eq_iff_iff]
      simp [h]
theorem putM_seen (k : Bytes) (l : List Bytes) (h : l.contains k = false) : putM k (.bool true) (seenOf l) = seenOf (l ++ [k]) := by
  rw [putM_push]
  · simp [seenOf]
  · have := look_seen k l
    rw [h] at this
    cases hl : look k (seenOf l) with
    | none => rfl
    | some v =>
      exfalso
      rw [hl] at this
      simp only [Option.getD_some] at this
      subst this
      have hn : ∀ (l : List Bytes) (v : Value), look k (seenOf l) = some v → v = .bool true := by
        intro l
        induction l with
        | nil => intro v h; cases h
        | cons x l ih =>
          intro v h
          rw [seenOf, List.map_cons, look] at h
          split at h
          · cases h; rfl
          · exact ih v h
      have := hn l _ hl
      cases this
end Go.Proofs.YthlppbpccldikaaDoor
