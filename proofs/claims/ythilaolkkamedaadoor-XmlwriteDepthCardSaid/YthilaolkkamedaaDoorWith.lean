/-
  Walks of chapter 9: With (program and reference).
-/
import Derived.Test.YthilaolkkamedaaDoorStrs
import Derived.Test.YthilaolkkamedaaDoorElem
import Derived.Laws.MakeOwn
import Derived.Deep.RegionHeld3
import Derived.Deep.LoopGhost
set_option linter.unusedVariables false
namespace Go.Proofs.YthilaolkkamedaaDoor
open Go.RowKit

theorem run_make_atts (n c : Nat) (h : n ≤ c) (hc : c ≤ 1000000000000) : ∃ cur : Array Value, cur.size = c * 4 ∧ ∀ W : World, (Instr.makeSlice 22 (.int .i64 (n : Int)) (.int .i64 (c : Int))).run Tryd.prog W = .ok (.slice (some ⟨W.heap.size, 0, none⟩) n c) (W.alloc (.cells cur 37)) := by
  obtain ⟨i0, hi0, hz0, hz1, hz2⟩ := info_parts infoAtt
  have hrun := fun W : World => run_make (P := Tryd.prog) W 22 37 i0 _ Tryd.underlying22 hi0 hz0 .i64 .i64 (n : Int) (c : Int) (by omega) (by omega) (by rw [hz2]; omega) (by omega)
  simp only [hz1, Int.toNat_natCast] at hrun
  exact ⟨_, size_madeCells _ _, hrun⟩
/-- The parameter's box and the result's cell. -/
structure Wth (w : World) (b : Nat) (n : Node) (va : Value) (K : Option Addr) (d : Nat) : Prop where
  box : w.heap[b]? = some (.cells #[.int .i64 n.kind, .string (S n.space), .string (S n.name), va, .slice K n.kids.length d, .string (S n.text), .int .i64 n.pos] 25)
  res : w.heap[b + 1]? = some (.cells zNode.toArray 25)
theorem Wth.below {w w' : World} {b : Nat} {n : Node} {va : Value} {K : Option Addr} {d : Nat} (h : Wth w b n va K d) (hb : Below (b + 2) w w') : Wth w' b n va K d :=
  ⟨(hb.block _ (by omega)).trans h.box, (hb.block _ (by omega)).trans h.res⟩
theorem Wth.drew {w : World} {b : Nat} {n : Node} {va : Value} {K : Option Addr} {d : Nat} (h : Wth w b n va K d) : Wth w.drew b n va K d := ⟨h.box, h.res⟩
theorem Wth.put {w : World} {b : Nat} {n : Node} {va : Value} {K : Option Addr} {d : Nat} (h : Wth w b n va K d) (v : Value) : Wth (w.setCell ⟨b, 3, none⟩ v) b n v K d := by
  refine ⟨?_, (Below.heap_setCell _ _ _ _ (by simp)).trans h.res⟩
  have := h.box
  simp [World.setCell, Array.getElem?_modify, this]
theorem Wth.cell {w : World} {b : Nat} {n : Node} {va : Value} {K : Option Addr} {d : Nat} (h : Wth w b n va K d) : w.cell? ⟨b, 3, none⟩ = some va := by rw [Lib.cell_of_heap h.box]; rfl
theorem Wth.free {w : World} {b : Nat} {n : Node} {va : Value} {K : Option Addr} {d : Nat} (h : Wth w b n va K d) : w.frozen? ⟨b, 3, none⟩ = false := Lib.frozen_of_heap h.box 3

/-- What With returns: the attributes in a row of its own. -/
def WithV (B0 : Nat) (n : Node) (l : List Bytes) (w' : World) (v : Value) : Prop :=
  ∃ va K d, v = .agg #[.int .i64 n.kind, .string (S n.space), .string (S n.name), va, .slice K n.kids.length d, .string (S n.text), .int .i64 n.pos] ∧ AttRow w' B0 va (n.attrs ++ pairsOf l) ∧ NodesIn w' B0 (.slice K n.kids.length d) n.kids
def withNode (n : Node) (l : List Bytes) : Node := .mk n.kind n.space n.name (n.attrs ++ pairsOf l) n.kids n.text n.pos
theorem WithV.nodeV {B0 : Nat} {n : Node} {l : List Bytes} {w' : World} {v : Value} (h : WithV B0 n l w' v) (hB : B0 ≤ w'.heap.size) : NodeV w' w'.heap.size (withNode n l) v := by
  obtain ⟨va, K, d, rfl, ha, hk⟩ := h
  exact NodeV.of_form (n := withNode n l) ha.attsIn (hk.keep (fun _ _ => rfl) hB)

set_option maxHeartbeats 2000000 in
set_option maxRecDepth 100000 in
theorem with9_any (n : Node) (vn : Value) (l : List Bytes) (vl : Value) (w : World) (hal : n.attrs.length ≤ 100000000000) (hll : l.length ≤ 100000000000) (hn : NodeV w w.heap.size n vn) (hv : StrsIn w w.heap.size vl l) :
    Calls Tryd.prog 13 #[vn, vl] w fun e w' => ∃ v, e = .returned v ∧ WithV w.heap.size n l w' v ∧ Below w.heap.size w w' := by
  obtain ⟨A, cap, K, kcap, rfl, ha, hk, hcap, hkcap⟩ := hn.open_
  obtain ⟨LA, lcap, rfl, hlc⟩ := hv.form
  obtain ⟨cur, hcur, hmk⟩ := run_make_atts n.attrs.length (n.attrs.length + l.length / 2) (by omega) (by omega)
  have e1 : ((n.attrs.length + l.length / 2 : Nat) : Int) = (n.attrs.length : Int) + (l.length : Int) / 2 := by omega
  rw [e1] at hmk
  have HCUR := Lib.hid hcur
  have HA := Lib.hid ha
  have HK := Lib.hid hk
  have HV := Lib.hid hv
  obtain ⟨w0, hw0⟩ : ∃ w0, w0 = ((w.alloc (nodeBox n A cap K kcap)).alloc (.cells zNode.toArray 25)).alloc (.cells cur 37) := ⟨_, rfl⟩
  have hbox : Wth w0 w.heap.size n (.slice A n.attrs.length cap) K kcap := by
    rw [hw0]
    refine ⟨(Below.heap_alloc _ _ _ (by simp; omega)).trans ((Below.heap_alloc _ _ _ (by simp)).trans (heap_alloc_new w _)), (Below.heap_alloc _ _ _ (by simp)).trans ?_⟩
    have := heap_alloc_new (w.alloc (nodeBox n A cap K kcap)) (.cells zNode.toArray 25)
    simpa using this
  have hgc : w0.heap[w.heap.size + 2]? = some (.cells cur 37) := by
    rw [hw0]
    have := heap_alloc_new ((w.alloc (nodeBox n A cap K kcap)).alloc (.cells zNode.toArray 25)) (.cells cur 37)
    simpa using this
  have hb0 : Below w.heap.size w w0 := by rw [hw0]; exact (((Below.refl _ _).alloc (Nat.le_refl _) _).alloc (by simp) _).alloc (by simp; omega) _
  have HBX := Lib.hid hbox
  have HGC := Lib.hid hgc
  have HB0 := Lib.hid hb0
  have HW0 := Lib.hid hw0
  clear ha hk hn hv e1 hcur hbox hgc hb0 hw0
  go_enter Tryd.func13, Tryd.ntmps13
  go_wp2_with (with_reducible refine gate ?_; refine atts_copy rfl _ _ rfl _ (w.heap.size + 2) (n.attrs.length + l.length / 2) A cap n.attrs w.heap.size (w.heap.size + 2) rfl rfl (HW0.out ▸ HA.out.below HB0.out) cur (HW0.out ▸ HGC.out) HCUR.out (by omega) (by unfold maxLen; omega) (Nat.le_refl _) ?_; intro w1 hr1 hu1)
  have hb1 : Below w.heap.size w w1 := HB0.out.trans ((HW0.out ▸ hu1 : Upd (w.heap.size + 2) w0 w1).below (by omega) HB0.out.size)
  have hx1 : Wth w1 w.heap.size n (.slice A n.attrs.length cap) K kcap := by
    have hu : Upd (w.heap.size + 2) w0 w1 := HW0.out ▸ hu1
    have h := HBX.out
    exact ⟨(hu.block _ (heap_lt h.box) (by omega)).trans h.box, (hu.block _ (heap_lt h.res) (by omega)).trans h.res⟩
  have HR1 := Lib.hid hr1
  have HB1 := Lib.hid hb1
  have HX1 := Lib.hid hx1
  clear hr1 hu1 hb1 hx1 hmk HCUR HA HBX HGC HB0 HW0
  go_frame
  go_loopg [1, 5] (l.length) (fun k s1 s5 wr => ∃ (r : List Bytes) (done : List Att), r.length ≤ l.length ∧ k = r.length ∧ StrsIn wr w.heap.size s1 r ∧ AttRow wr (w.heap.size + 2) s5 done ∧ done ++ pairsOf r = n.attrs ++ pairsOf l ∧ Below w.heap.size w wr ∧ Wth wr w.heap.size n (.slice A n.attrs.length cap) K kcap)
  case atStart => exact ⟨l, n.attrs, Nat.le_refl _, rfl, HV.out.below HB1.out, HR1.out, rfl, HB1.out, HX1.out⟩
  case round =>
    obtain ⟨r, done, hrl, hk, hstr, hrow, hdone, hb, hwth⟩ := hrel
    have hdl : done.length ≤ 200000000000 := by
      have := congrArg List.length hdone
      rw [List.length_append, List.length_append, pairsOf_len, pairsOf_len] at this
      omega
    have HB := Lib.hid hb
    have HR := Lib.hid hrow
    have HX := Lib.hid hwth
    have HKK := Lib.hid hk
    have hsz : w.heap.size + 2 ≤ wr.heap.size := heap_lt hwth.res
    by_cases hr2 : 2 ≤ r.length
    · obtain ⟨x, y, r, rfl⟩ : ∃ x y r', r = x :: y :: r' := by
        match r, hr2 with
        | x :: y :: r, _ => exact ⟨x, y, r, rfl⟩
      obtain ⟨xb, off, xc, hv1, hxB, hxc, hx0, hx1, v', hsl, hrest⟩ := hstr.two
      have hnx : (done ++ [⟨[], x, y, 0⟩]) ++ pairsOf r = n.attrs ++ pairsOf l := by rw [← hdone, pairsOf]; simp
      have HN := Lib.hid hnx
      have HS := Lib.hid hrest
      have hxB2 : xb < w.heap.size + 2 := by omega
      have h2l : (1 : Int) < (r.length : Int) + 2 := by omega
      have h0l : (0 : Int) < (r.length : Int) + 2 := by omega
      subst hv1
      obtain ⟨vA, vc, hv5, hvc⟩ := hrow.slice
      subst hv5
      clear hrow hstr hdone hwth hb hnx hrest hk
      go_wp2_with fail
      go_region_held3 (fun W => W.cell? ⟨xb, off, none⟩ = some (.string (S x)) ∧ W.cell? ⟨xb, off + 1, none⟩ = some (.string (S y)))
        (first | exact ⟨hx0, hx1⟩ | exact ⟨(q3.cell (p := ⟨xb, off, none⟩) hxB2).trans hx0, (q3.cell (p := ⟨xb, off + 1, none⟩) hxB2).trans hx1⟩ | go_keep)
        (first
          | ((refine atts_append_step (by rfl) _ _ (by rfl) wr.drew (w.heap.size + 2) (.slice vA done.length vc) done (by rfl) (HR.out.below (Below.refl _ _).drew) ⟨[], x, y, 0⟩ wr.heap.size (by rfl) (by rfl) hsz (by omega) ?_; intro g c w2 q1 q2 q3)))
      have Q1 := Lib.hid q1
      have Q3 := Lib.hid (HB.out.drew.trans (q3.mono (by omega)))
      have QX := Lib.hid (HX.out.drew.below q3)
      clear q1 q2 q3 hx0 hx1
      go_wp2_with fail
      go_roundg (r.length)
      case measure => have := HKK.out; simp only [List.length_cons] at this; omega
      case rel => exact ⟨r, _, by simp only [List.length_cons] at hrl; omega, rfl, HS.out.keep (fun j hj => by have := Q3.out.block j hj; have := HB.out.block j hj; simp_all) (Nat.le_refl _), Q1.out, HN.out, Q3.out, QX.out⟩
    · have hp : pairsOf r = [] := pairsOf_short (by omega)
      have hfin : AttRow wr (w.heap.size + 2) u5 (n.attrs ++ pairsOf l) := by rw [← hdone, hp, List.append_nil]; exact hrow
      have hr3 : (r.length : Int) ≤ 1 := by omega
      obtain ⟨rA, rc, hv1, _⟩ := hstr.form
      obtain ⟨vA, vc, hv5, hvc⟩ := hrow.slice
      subst hv1 hv5
      have hput := hwth.put (.slice vA done.length vc)
      have c3 := hwth.cell
      have f3 := hwth.free
      have hra := range_of_heap (cs := [.int .i64 n.kind, .string (S n.space), .string (S n.name), .slice vA done.length vc, .slice K n.kids.length kcap, .string (S n.text), .int .i64 n.pos]) hput.box
      have hres := hput.res
      have HF := Lib.hid hfin
      clear hstr hrow hdone hwth hb hk hp hfin hput hr2
      go_wp2_with (first
        | (with_reducible refine gate ?_; refine wp_load_node rfl _ rfl w.heap.size 0 rfl _ rfl hra ?_)
        | (with_reducible refine gate ?_; refine wp_store_node rfl _ _ rfl (w.heap.size + 1) _ _ _ _ _ _ _ _ _ _ _ _ rfl rfl hres rfl ?_; intro w3 hw3 hu3))
      refine bodyPost_ret (v := .agg _) (res_whole Tryd.results13 _ _ (w.heap.size + 1) rfl _ _ hw3 Tryd.underlying25 rfl nodeSize) rfl ⟨_, rfl, ⟨_, _, _, rfl, ?_, ?_⟩, ?_⟩
      · have hlt := HF.out.lt
        refine ownsRow_base (ownsRow_heap HF.out fun k hk => ?_) (by omega)
        have := hlt k hk
        rw [hu3.block k (by simp [World.setCell]; omega) (by omega)]
        exact Below.heap_setCell _ _ _ _ (by simp; omega)
      · exact HK.out.below ((HB.out.setCell (p := ⟨w.heap.size, 3, none⟩) (Nat.le_refl _) _).trans (hu3.below (by omega) (by simp [World.setCell]; omega)))
      · exact (HB.out.setCell (p := ⟨w.heap.size, 3, none⟩) (Nat.le_refl _) _).trans (hu3.below (by omega) (by simp [World.setCell]; omega))
end Go.Proofs.YthilaolkkamedaaDoor
