/-
  Several texts in one file, in build order:
  - Walks of chapter 9: With (program and reference).
  - Walk of chapter 9's statements: the example of the chapter.
  - Walks of chapter 9's statements RoundTrip and Parsed.
-/
import Derived.Test.YtclhdppppgjgfaaGreatDoorH39
import Derived.Laws.MakeOwn
import Derived.Deep.RegionHeld3
import Derived.Deep.LoopGhost
import Derived.Test.YtclhdppppgjgfaaGreatDoorH27
import Derived.Test.YtclhdppppgjgfaaGreatDoorH17
import Derived.Test.YtclhdppppgjgfaaGreatDoorH24
import Derived.Test.YtclhdppppgjgfaaGreatDoorH35
import Derived.Test.YtclhdppppgjgfaaGreatDoorH29
set_option linter.unusedVariables false
namespace Go.Proofs.YtclhdppppgjgfaaGreatDoor
open Go.RowKit

theorem run_make_atts (n c : Nat) (h : n ≤ c) (hc : c ≤ 1000000000000) : ∃ cur : Array Value, cur.size = c * 4 ∧ ∀ W : World, (Instr.makeSlice 23 (.int .i64 (n : Int)) (.int .i64 (c : Int))).run Tryz.prog W = .ok (.slice (some ⟨W.heap.size, 0, none⟩) n c) (W.alloc (.cells cur 39)) := by
  obtain ⟨i0, hi0, hz0, hz1, hz2⟩ := info_parts infoAtt
  have hrun := fun W : World => run_make (P := Tryz.prog) W 23 39 i0 _ Tryz.underlying23 hi0 hz0 .i64 .i64 (n : Int) (c : Int) (by omega) (by omega) (by rw [hz2]; omega) (by omega)
  simp only [hz1, Int.toNat_natCast] at hrun
  exact ⟨_, size_madeCells _ _, hrun⟩
/-- The parameter's box and the result's cell. -/
structure Wth (w : World) (b : Nat) (n : Node) (va : Value) (K : Option Addr) (d : Nat) : Prop where
  box : w.heap[b]? = some (.cells #[.int .i64 n.kind, .string (S n.space), .string (S n.name), va, .slice K n.kids.length d, .string (S n.text), .int .i64 n.pos] 26)
  res : w.heap[b + 1]? = some (.cells zNode.toArray 26)
theorem Wth.below {w w' : World} {b : Nat} {n : Node} {va : Value} {K : Option Addr} {d : Nat} (h : Wth w b n va K d) (hb : Below (b + 2) w w') : Wth w' b n va K d :=
  ⟨(hb.block _ (by omega)).trans h.box, (hb.block _ (by omega)).trans h.res⟩
theorem Wth.drew {w : World} {b : Nat} {n : Node} {va : Value} {K : Option Addr} {d : Nat} (h : Wth w b n va K d) : Wth w.drew b n va K d := ⟨h.box, h.res⟩
theorem Wth.put {w : World} {b : Nat} {n : Node} {va : Value} {K : Option Addr} {d : Nat} (h : Wth w b n va K d) (v : Value) : Wth (w.setCell ⟨b, 3, none⟩ v) b n v K d := by
  refine ⟨?_, (Below.heap_setCell _ _ _ _ (by simp)).trans h.res⟩
  have := h.box
  simp [World.setCell, Array.getElem?_modify, this]
theorem Wth.cell {w : World} {b : Nat} {n : Node} {va : Value} {K : Option Addr} {d : Nat} (h : Wth w b n va K d) : w.cell? ⟨b, 3, none⟩ = some va := by rw [Lib.cell_of_heap h.box]; rfl
theorem Wth.free {w : World} {b : Nat} {n : Node} {va : Value} {K : Option Addr} {d : Nat} (h : Wth w b n va K d) : w.frozen? ⟨b, 3, none⟩ = false := Lib.frozen_of_heap h.box 3

/-- What With returns: the attributes in a row of its own. -/
def WithV (B0 : Nat) (n : Node) (l : List Bytes) (w' : World) (v : Value) : Prop :=
  ∃ va K d, v = .agg #[.int .i64 n.kind, .string (S n.space), .string (S n.name), va, .slice K n.kids.length d, .string (S n.text), .int .i64 n.pos] ∧ AttRow w' B0 va (n.attrs ++ pairsOf l) ∧ NodesIn w' B0 (.slice K n.kids.length d) n.kids
def withNode (n : Node) (l : List Bytes) : Node := .mk n.kind n.space n.name (n.attrs ++ pairsOf l) n.kids n.text n.pos
theorem WithV.nodeV {B0 : Nat} {n : Node} {l : List Bytes} {w' : World} {v : Value} (h : WithV B0 n l w' v) (hB : B0 ≤ w'.heap.size) : NodeV w' w'.heap.size (withNode n l) v := by
  obtain ⟨va, K, d, rfl, ha, hk⟩ := h
  exact NodeV.of_form (n := withNode n l) ha.attsIn (hk.keep (fun _ _ => rfl) hB)

set_option maxHeartbeats 2000000 in
set_option maxRecDepth 100000 in
theorem with9_any (n : Node) (vn : Value) (l : List Bytes) (vl : Value) (w : World) (hal : n.attrs.length ≤ 100000000000) (hll : l.length ≤ 100000000000) (hn : NodeV w w.heap.size n vn) (hv : StrsIn w w.heap.size vl l) :
    Calls Tryz.prog 50 #[vn, vl] w fun e w' => ∃ v, e = .returned v ∧ WithV w.heap.size n l w' v ∧ Below w.heap.size w w' := by
  obtain ⟨A, cap, K, kcap, rfl, ha, hk, hcap, hkcap⟩ := hn.open_
  obtain ⟨LA, lcap, rfl, hlc⟩ := hv.form
  obtain ⟨cur, hcur, hmk⟩ := run_make_atts n.attrs.length (n.attrs.length + l.length / 2) (by omega) (by omega)
  have e1 : ((n.attrs.length + l.length / 2 : Nat) : Int) = (n.attrs.length : Int) + (l.length : Int) / 2 := by omega
  rw [e1] at hmk
  have HCUR := Lib.hid hcur
  have HA := Lib.hid ha
  have HK := Lib.hid hk
  have HV := Lib.hid hv
  obtain ⟨w0, hw0⟩ : ∃ w0, w0 = ((w.alloc (nodeBox n A cap K kcap)).alloc (.cells zNode.toArray 26)).alloc (.cells cur 39) := ⟨_, rfl⟩
  have hbox : Wth w0 w.heap.size n (.slice A n.attrs.length cap) K kcap := by
    rw [hw0]
    refine ⟨(Below.heap_alloc _ _ _ (by simp; omega)).trans ((Below.heap_alloc _ _ _ (by simp)).trans (heap_alloc_new w _)), (Below.heap_alloc _ _ _ (by simp)).trans ?_⟩
    have := heap_alloc_new (w.alloc (nodeBox n A cap K kcap)) (.cells zNode.toArray 26)
    simpa using this
  have hgc : w0.heap[w.heap.size + 2]? = some (.cells cur 39) := by
    rw [hw0]
    have := heap_alloc_new ((w.alloc (nodeBox n A cap K kcap)).alloc (.cells zNode.toArray 26)) (.cells cur 39)
    simpa using this
  have hb0 : Below w.heap.size w w0 := by rw [hw0]; exact (((Below.refl _ _).alloc (Nat.le_refl _) _).alloc (by simp) _).alloc (by simp; omega) _
  have HBX := Lib.hid hbox
  have HGC := Lib.hid hgc
  have HB0 := Lib.hid hb0
  have HW0 := Lib.hid hw0
  clear ha hk hn hv e1 hcur hbox hgc hb0 hw0
  go_enter Tryz.func50, Tryz.ntmps50
  go_wp2_with (with_reducible refine gate ?_; refine atts_copy rfl _ _ rfl _ (w.heap.size + 2) (n.attrs.length + l.length / 2) A cap n.attrs w.heap.size (w.heap.size + 2) rfl rfl (HW0.out ▸ HA.out.below HB0.out) cur (HW0.out ▸ HGC.out) HCUR.out (by omega) (by unfold maxLen; omega) (Nat.le_refl _) ?_; intro w1 hr1 hu1)
  have hb1 : Below w.heap.size w w1 := HB0.out.trans ((HW0.out ▸ hu1 : Upd (w.heap.size + 2) w0 w1).below (by omega) HB0.out.size)
  have hx1 : Wth w1 w.heap.size n (.slice A n.attrs.length cap) K kcap := by
    have hu : Upd (w.heap.size + 2) w0 w1 := HW0.out ▸ hu1
    have h := HBX.out
    exact ⟨(hu.block _ (heap_lt h.box) (by omega)).trans h.box, (hu.block _ (heap_lt h.res) (by omega)).trans h.res⟩
  have HR1 := Lib.hid hr1
  have HB1 := Lib.hid hb1
  have HX1 := Lib.hid hx1
  clear hr1 hu1 hb1 hx1 hmk HCUR HA HBX HGC HB0 HW0
  go_frame
  go_loopg [1, 5] (l.length) (fun k s1 s5 wr => ∃ (r : List Bytes) (done : List Att), r.length ≤ l.length ∧ k = r.length ∧ StrsIn wr w.heap.size s1 r ∧ AttRow wr (w.heap.size + 2) s5 done ∧ done ++ pairsOf r = n.attrs ++ pairsOf l ∧ Below w.heap.size w wr ∧ Wth wr w.heap.size n (.slice A n.attrs.length cap) K kcap)
  case atStart => exact ⟨l, n.attrs, Nat.le_refl _, rfl, HV.out.below HB1.out, HR1.out, rfl, HB1.out, HX1.out⟩
  case round =>
    obtain ⟨r, done, hrl, hk, hstr, hrow, hdone, hb, hwth⟩ := hrel
    have hdl : done.length ≤ 200000000000 := by
      have := congrArg List.length hdone
      rw [List.length_append, List.length_append, pairsOf_len, pairsOf_len] at this
      omega
    have HB := Lib.hid hb
    have HR := Lib.hid hrow
    have HX := Lib.hid hwth
    have HKK := Lib.hid hk
    have hsz : w.heap.size + 2 ≤ wr.heap.size := heap_lt hwth.res
    by_cases hr2 : 2 ≤ r.length
    · obtain ⟨x, y, r, rfl⟩ : ∃ x y r', r = x :: y :: r' := by
        match r, hr2 with
        | x :: y :: r, _ => exact ⟨x, y, r, rfl⟩
      obtain ⟨xb, off, xc, hv1, hxB, hxc, hx0, hx1, v', hsl, hrest⟩ := hstr.two
      have hnx : (done ++ [⟨[], x, y, 0⟩]) ++ pairsOf r = n.attrs ++ pairsOf l := by rw [← hdone, pairsOf]; simp
      have HN := Lib.hid hnx
      have HS := Lib.hid hrest
      have hxB2 : xb < w.heap.size + 2 := by omega
      have h2l : (1 : Int) < (r.length : Int) + 2 := by omega
      have h0l : (0 : Int) < (r.length : Int) + 2 := by omega
      subst hv1
      obtain ⟨vA, vc, hv5, hvc⟩ := hrow.slice
      subst hv5
      clear hrow hstr hdone hwth hb hnx hrest hk
      go_wp2_with fail
      go_region_held3 (fun W => W.cell? ⟨xb, off, none⟩ = some (.string (S x)) ∧ W.cell? ⟨xb, off + 1, none⟩ = some (.string (S y)))
        (first | exact ⟨hx0, hx1⟩ | exact ⟨(q3.cell (p := ⟨xb, off, none⟩) hxB2).trans hx0, (q3.cell (p := ⟨xb, off + 1, none⟩) hxB2).trans hx1⟩ | go_keep)
        (first
          | ((refine atts_append_step (by rfl) _ _ (by rfl) wr.drew (w.heap.size + 2) (.slice vA done.length vc) done (by rfl) (HR.out.below (Below.refl _ _).drew) ⟨[], x, y, 0⟩ wr.heap.size (by rfl) (by rfl) hsz (by omega) ?_; intro g c w2 q1 q2 q3)))
      have Q1 := Lib.hid q1
      have Q3 := Lib.hid (HB.out.drew.trans (q3.mono (by omega)))
      have QX := Lib.hid (HX.out.drew.below q3)
      clear q1 q2 q3 hx0 hx1
      go_wp2_with fail
      go_roundg (r.length)
      case measure => have := HKK.out; simp only [List.length_cons] at this; omega
      case rel => exact ⟨r, _, by simp only [List.length_cons] at hrl; omega, rfl, HS.out.keep (fun j hj => by have := Q3.out.block j hj; have := HB.out.block j hj; simp_all) (Nat.le_refl _), Q1.out, HN.out, Q3.out, QX.out⟩
    · have hp : pairsOf r = [] := pairsOf_short (by omega)
      have hfin : AttRow wr (w.heap.size + 2) u5 (n.attrs ++ pairsOf l) := by rw [← hdone, hp, List.append_nil]; exact hrow
      have hr3 : (r.length : Int) ≤ 1 := by omega
      obtain ⟨rA, rc, hv1, _⟩ := hstr.form
      obtain ⟨vA, vc, hv5, hvc⟩ := hrow.slice
      subst hv1 hv5
      have hput := hwth.put (.slice vA done.length vc)
      have c3 := hwth.cell
      have f3 := hwth.free
      have hra := range_of_heap (cs := [.int .i64 n.kind, .string (S n.space), .string (S n.name), .slice vA done.length vc, .slice K n.kids.length kcap, .string (S n.text), .int .i64 n.pos]) hput.box
      have hres := hput.res
      have HF := Lib.hid hfin
      clear hstr hrow hdone hwth hb hk hp hfin hput hr2
      go_wp2_with (first
        | (with_reducible refine gate ?_; refine wp_load_node rfl _ rfl w.heap.size 0 rfl _ rfl hra ?_)
        | (with_reducible refine gate ?_; refine wp_store_node rfl _ _ rfl (w.heap.size + 1) _ _ _ _ _ _ _ _ _ _ _ _ rfl rfl hres rfl ?_; intro w3 hw3 hu3))
      refine bodyPost_ret (v := .agg _) (res_whole Tryz.results50 _ _ (w.heap.size + 1) rfl _ _ hw3 Tryz.underlying26 rfl nodeSize) rfl ⟨_, rfl, ⟨_, _, _, rfl, ?_, ?_⟩, ?_⟩
      · have hlt := HF.out.lt
        refine ownsRow_base (ownsRow_heap HF.out fun k hk => ?_) (by omega)
        have := hlt k hk
        rw [hu3.block k (by simp [World.setCell]; omega) (by omega)]
        exact Below.heap_setCell _ _ _ _ (by simp; omega)
      · exact HK.out.below ((HB.out.setCell (p := ⟨w.heap.size, 3, none⟩) (Nat.le_refl _) _).trans (hu3.below (by omega) (by simp [World.setCell]; omega)))
      · exact (HB.out.setCell (p := ⟨w.heap.size, 3, none⟩) (Nat.le_refl _) _).trans (hu3.below (by omega) (by simp [World.setCell]; omega))
end Go.Proofs.YtclhdppppgjgfaaGreatDoor
set_option linter.unusedVariables false
namespace Go.Proofs.YtclhdppppgjgfaaGreatDoor
open Go.RowKit

theorem NodesIn.one {w : World} {n : Node} {k p : Int} {s nm t : ByteArray} {A K : Option Addr} {i c j d : Nat} (h : NodeV w w.heap.size n (.agg #[.int .i64 k, .string s, .string nm, .slice A i c, .slice K j d, .string t, .int .i64 p])) :
    NodesIn (w.alloc (.cells #[.int .i64 k, .string s, .string nm, .slice A i c, .slice K j d, .string t, .int .i64 p] 26)) (w.alloc (.cells #[.int .i64 k, .string s, .string nm, .slice A i c, .slice K j d, .string t, .int .i64 p] 26)).heap.size (.slice (some ⟨w.heap.size, 0, none⟩) 1 1) [n] := by
  rw [World.size_alloc]
  obtain ⟨cs, hv, hn⟩ := h
  have hcs : cs = [.int .i64 k, .string s, .string nm, .slice A i c, .slice K j d, .string t, .int .i64 p] := by
    have := congrArg (fun v => match v with | Value.agg a => a.toList | _ => []) hv
    simpa using this.symm
  refine ⟨_, 1, rfl, Nat.le_refl _, .inr ⟨w.heap.size, 0, rfl, by omega, ?_⟩⟩
  rw [KidsIn, KidsIn]
  refine ⟨⟨cs, NodeIn.keep (fun j hj => Below.heap_alloc w _ j hj) (Nat.le_succ _) n cs hn, ?_⟩, trivial⟩
  rw [hcs]
  exact range_of_heap (heap_alloc_new w _)
theorem StrsIn.two_new (w : World) (a b : Bytes) : StrsIn (w.alloc (.cells #[.string (S a), .string (S b)] 9)) (w.alloc (.cells #[.string (S a), .string (S b)] 9)).heap.size (.slice (some ⟨w.heap.size, 0, none⟩) 2 2) [a, b] := by
  rw [World.size_alloc]
  refine ⟨_, 2, rfl, Nat.le_refl _, by omega, .inr ⟨w.heap.size, 0, rfl, by omega, fun i s hi => ?_⟩⟩
  rw [Nat.zero_add, Lib.cell_of_heap (heap_alloc_new w _)]
  match i, hi with
  | 0, hi => simp at hi; subst hi; rfl
  | 1, hi => simp at hi; subst hi; rfl

def example9 : Node := withNode (elemNode [97] [textNode [120]]) [[98], [60]]
def wrong9 : Node := elemNode [49, 97] []
theorem example9_ok : vld true example9 1 = true := by decide +kernel
theorem wrong9_no : vld true wrong9 1 = false := by decide +kernel
theorem example9_canon : canon example9 = [60, 97, 32, 98, 61, 34, 38, 108, 116, 59, 34, 62, 120, 60, 47, 97, 62] := by decide +kernel

set_option maxHeartbeats 4000000 in
set_option maxRecDepth 100000 in
theorem alive9_any (w : World) (hT : Tabs w) :
    Calls Tryz.prog 28 #[] w fun e w' => e = .returned (.bool true) ∧ Below w.heap.size w w' := by
  have HT := Lib.hid hT
  clear hT
  go_enter Tryz.func28, Tryz.ntmps28
  go_wp2_with fail
  refine (text9_any [120] _).mono ?_
  rintro e w1 ⟨v1, rfl, hn1, hb1⟩
  obtain ⟨A1, c1, K1, d1, hv1, _, _, _, _⟩ := hn1.open_
  subst hv1
  have hk1 := NodesIn.one hn1
  have HK1 := Lib.hid hk1
  have HB1 := Lib.hid (hb1.alloc (B := w.heap.size) hb1.size (.cells #[.int .i64 (textNode [120]).kind, .string (S (textNode [120]).space), .string (S (textNode [120]).name), .slice A1 (textNode [120]).attrs.length c1, .slice K1 (textNode [120]).kids.length d1, .string (S (textNode [120]).text), .int .i64 (textNode [120]).pos] 26))
  clear hk1 hn1 hb1
  go_wp2_with fail
  refine (elem9_any [97] [textNode [120]] _ _ (by decide) HK1.out).mono ?_
  rintro e w2 ⟨v2, rfl, hn2, hb2⟩
  have HB2 := Lib.hid (HB1.out.trans (hb2.mono HB1.out.size))
  have HN2 := Lib.hid hn2
  clear HK1 HB1 hb2 hn2
  go_wp2_with fail
  obtain ⟨W2, hW2⟩ : ∃ W2, W2 = w2.alloc (.cells #[.string (S [98]), .string (S [60])] 9) := ⟨_, rfl⟩
  have hst := StrsIn.two_new w2 [98] [60]
  have hb2 := HB2.out.alloc (HB2.out.size) (.cells #[.string (S [98]), .string (S [60])] 9)
  have hn2 : NodeV W2 W2.heap.size (elemNode [97] [textNode [120]]) v2 := by
    rw [hW2]; exact HN2.out.keep (fun j hj => Below.heap_alloc _ _ j hj) (by rw [World.size_alloc]; omega)
  rw [← hW2] at hst hb2
  change Calls _ _ _ (w2.alloc (.cells #[.string (S [98]), .string (S [60])] 9)) _
  rw [← hW2]
  refine (with9_any (elemNode [97] [textNode [120]]) v2 [[98], [60]] _ W2 (by decide) (by decide) hn2 hst).mono ?_
  rintro e w3 ⟨v3, rfl, hn3, hb3⟩
  have hn4 : NodeV w3 w3.heap.size example9 v3 := hn3.nodeV hb3.size
  have hb4 := hb2.trans (hb3.mono hb2.size)
  clear hW2 hst hb2 hn2 hn3 hb3 HB2 HN2
  have hwr := fun W => fun (hW : Below w3.heap.size w3 W) => write9_any example9 v3 W (by decide +kernel) (by rw [example9_canon]; decide) (HT.out.below (hb4.trans (hW.mono hb4.size)) (Nat.le_refl _)) (hn4.keep hW.block hW.size)
  have hck := fun W => fun (hW : Below w3.heap.size w3 W) => check9_any example9 v3 W (by decide +kernel) (HT.out.below (hb4.trans (hW.mono hb4.size)) (Nat.le_refl _)) (hn4.keep hW.block hW.size)
  rw [example9_ok] at hwr hck
  have hdoc : outOf example9 true = [60, 63, 120, 109, 108, 32, 118, 101, 114, 115, 105, 111, 110, 61, 34, 49, 46, 48, 34, 32, 101, 110, 99, 111, 100, 105, 110, 103, 61, 34, 85, 84, 70, 45, 56, 34, 63, 62, 10, 60, 97, 32, 98, 61, 34, 38, 108, 116, 59, 34, 62, 120, 60, 47, 97, 62, 10] := by rw [outOf, doc, example9_canon]; rfl
  rw [hdoc] at hwr
  obtain ⟨A4, c4, K4, d4, hv4, _, _, _, _⟩ := hn4.open_
  generalize example9.kind = x1, S example9.space = x2, S example9.name = x3, example9.attrs.length = x4, example9.kids.length = x5, S example9.text = x6, example9.pos = x7 at *
  subst hv4
  have HWR := Lib.hid hwr
  have HCK := Lib.hid hck
  have HB4 := Lib.hid hb4
  clear hwr hck hb4 hn4 hdoc
  go_wp2_with fail
  refine (HWR.out _ ((Below.refl _ _).alloc (Nat.le_refl _) _)).mono ?_
  rintro e w5 ⟨rfl, hb5⟩
  have hbx : w5.heap[w3.heap.size]? = some (.cells #[.int .i64 x1, .string x2, .string x3, .slice A4 x4 c4, .slice K4 x5 d4, .string x6, .int .i64 x7] 26) := (hb5.block w3.heap.size (by simp)).trans (heap_alloc_new w3 _)
  have h35 : Below w3.heap.size w3 w5 := ((Below.refl _ _).alloc (Nat.le_refl _) _).trans (hb5.mono (by simp))
  have HBX := Lib.hid hbx
  have H35 := Lib.hid h35
  have hl5 : w3.heap.size < w5.heap.size := heap_lt hbx
  clear hbx h35 hb5
  go_wp2_with fail
  refine (elem9_any [49, 97] [] _ _ (by decide) ⟨none, 0, rfl, Nat.le_refl _, .inl rfl⟩).mono ?_
  rintro e w6 ⟨v6, rfl, hn6, hb6⟩
  have h36 : Below w3.heap.size w3 w6 := H35.out.trans (hb6.mono (by omega))
  have hwr := write9_any wrong9 v6 w6 (by decide +kernel) (by decide +kernel) (HT.out.below (HB4.out.trans (h36.mono HB4.out.size)) (Nat.le_refl _)) hn6
  rw [wrong9_no] at hwr
  have H36 := Lib.hid h36
  have HWR2 := Lib.hid hwr
  have HBX2 := Lib.hid ((hb6.block _ (by omega)).trans HBX.out)
  clear h36 hwr hn6 hb6
  go_wp2_with fail
  refine HWR2.out.mono ?_
  rintro e w7 ⟨rfl, hb7⟩
  have hl6 := heap_lt HBX2.out
  have HBX3 := Lib.hid ((hb7.block _ hl6).trans HBX2.out)
  have H37 := Lib.hid (H36.out.trans (hb7.mono (by omega)))
  obtain ⟨k0, k1, k2, k3, k4, k5, k6⟩ := cells7 HBX3.out
  clear hb7
  go_wp2_with (go_at_call 53; refine (HCK.out _ H37.out).mono ?_; rintro e w8 ⟨rfl, hb8⟩)
  go_ret
  exact ⟨rfl, HB4.out.trans ((H37.out.trans (hb8.mono H37.out.size)).mono HB4.out.size)⟩
end Go.Proofs.YtclhdppppgjgfaaGreatDoor
set_option linter.unusedVariables false
namespace Go.Proofs.YtclhdppppgjgfaaGreatDoor
open Go.RowKit

theorem tooLarge_cases9 (n : Node) : tooLarge n = 1 ∨ (tooLarge n = 0 ∧ full n ≤ 5000) := by
  unfold tooLarge
  by_cases h : 5000 < wgt n 0
  · rw [if_pos h]; exact .inl rfl
  · rw [if_neg h]; exact .inr ⟨rfl, small_of (by omega)⟩
theorem doc_len (n : Node) : (doc n).length ≤ 6 * full n + 40 := by
  have := canon_len n
  simp [doc, header]; omega
/-- What the reading of a canonical document gives. -/
theorem read_doc {n : Node} (h : vld true n 1 = true) (hf : full n ≤ 15000) : ∃ m, parse (doc n) = .ok m ∧ eqv false n m = true ∧ vld true m 1 = true ∧ doc m = doc n ∧ Fit m ∧ full m ≤ 500000 := by
  obtain ⟨h1, h2⟩ := parse_doc h
  have hl := doc_len n
  obtain ⟨_, h3, h4⟩ := parse_slim (by omega) h1
  refine ⟨posN 39 n, h1, h2, parse_vld h1, ?_, h3, h4⟩
  unfold doc
  rw [canon_eqv _ _ h2]

set_option maxHeartbeats 4000000 in
set_option maxRecDepth 100000 in
theorem law9round_any (n : Node) (v : Value) (m : Int) (w : World) (hT : Tabs w) (hM : MaxLen m w) (hf : Fit n) (hv : NodeV w w.heap.size n v) :
    Calls Tryz.prog 9 #[v] w fun e w' => e = .returned (.bool true) ∧ Below w.heap.size w w' := by
  have htl := fun W => fun (hW : Below w.heap.size w W) => tooLarge_any n v W hf (hv.keep hW.block hW.size)
  have hal := fun W => fun (hW : Below w.heap.size w W) => alive9_any W (hT.next hW)
  have HAL := Lib.hid hal
  rcases tooLarge_cases9 n with h | ⟨h, hs⟩
  · rw [h] at htl
    obtain ⟨A, cap, K, kcap, rfl, ha, hk, hcap, hkcap⟩ := hv.open_
    have HTL := Lib.hid htl
    have F1 : Hid (∀ x, Below w.heap.size w (w.alloc x)) := Lib.hid (fun x => (Below.refl _ _).alloc (Nat.le_refl _) x)
    clear htl hal hv ha hk hT hM hf h
    go_enter Tryz.func9, Tryz.ntmps9
    go_wp2_with (first
      | (go_at_call 15; refine (HTL.out _ (F1.out _)).mono ?_; rintro e w1 ⟨rfl, hb1⟩; have hb1' := (F1.out _).trans (hb1.mono (show w.heap.size ≤ (w.alloc _).heap.size by simp)))
      | (go_at_call 28; refine (HAL.out _ hb1').mono ?_; rintro e w2 ⟨rfl, hb2⟩))
    go_ret
    exact ⟨rfl, hb1'.trans (hb2.mono hb1'.size)⟩
  rw [h] at htl
  obtain ⟨A, cap, K, kcap, rfl, _, _, _, _⟩ := hv.open_
  have hck := fun W (hv : NodeV W W.heap.size n (nodeAgg n A cap K kcap)) => refCheck9_any n _ W (by omega) hv
  have N0 := Lib.hid (Nbx.new hv)
  have BB0 := Lib.hid ((Below.refl w.heap.size w).alloc (Nat.le_refl _) (nodeBox n A cap K kcap))
  have HTL := Lib.hid htl
  cases E : vld true n 1 with
  | false =>
    rw [E] at hck
    have HCK := Lib.hid hck
    clear htl hal hv hT hM hf h hs hck E
    go_enter Tryz.func9, Tryz.ntmps9
    go_wp2_with fail
    generalize w.alloc (nodeBox n A cap K kcap) = W0 at *
    refine (HTL.out _ BB0.out).mono ?_
    rintro e w1 ⟨rfl, hb1⟩
    have N1 := Lib.hid (N0.out.keep hb1)
    have BB1 := Lib.hid (BB0.out.trans (hb1.mono BB0.out.size))
    obtain ⟨l0, l1, l2, l3, l4, l5, l6⟩ := N1.out.cells
    clear hb1 N0
    go_wp2_with fail
    refine (HCK.out _ N1.out.tree).mono ?_
    rintro e w2 ⟨rfl, hb2⟩
    have BB2 := Lib.hid (BB1.out.trans (hb2.mono BB1.out.size))
    clear hb2
    go_wp2_with (go_at_call 28; refine (HAL.out _ BB2.out).mono ?_; rintro e w3 ⟨rfl, hb3⟩)
    go_ret
    exact ⟨rfl, BB2.out.trans (hb3.mono BB2.out.size)⟩
  | true =>
    obtain ⟨mm, hp, hev, hvm, hdm, hfm, hfl⟩ := read_doc E (by omega)
    have hdl := doc_len n
    have hwn := fun W (hW : Below w.heap.size w W) (hv : NodeV W W.heap.size n (nodeAgg n A cap K kcap)) => write9_any n _ W (by omega) (by have := canon_len n; omega) (hT.next hW) hv
    have hwm := fun W v (hW : Below w.heap.size w W) (hv : NodeV W W.heap.size mm v) => write9_any mm v W (by omega) (by have := canon_len mm; omega) (hT.next hW) hv
    have hps := fun W (hW : Below w.heap.size w W) => parse7_both (doc n) m W (hT.next hW) (hM.below hW) (by omega)
    have heq := fun W v u (hv : NodeV W W.heap.size n v) (hu : NodeV W W.heap.size mm u) => refEqual_any false n mm v u W hv hu hf hfm
    unfold BothR at hps
    rw [hp] at hps
    simp only [treeR, atR, erR] at hps
    rw [E] at hwn hck
    rw [hvm] at hwm
    rw [show outOf n true = doc n from rfl] at hwn
    rw [show outOf mm true = doc n from hdm] at hwm
    rw [hev] at heq
    have hsz : (doc n).length ≤ 100000 := by omega
    clear hp hev hvm hdm hfm hfl hdl E htl hal hv hT hM hf h hs
    generalize doc n = X at *
    have HCK := Lib.hid hck
    have HWN := Lib.hid hwn
    have HWM := Lib.hid hwm
    have HPS := Lib.hid hps
    have HEQ := Lib.hid heq
    clear hck hwn hwm hps heq
    go_enter Tryz.func9, Tryz.ntmps9
    go_wp2_with fail
    generalize w.alloc (nodeBox n A cap K kcap) = W0 at *
    refine (HTL.out _ BB0.out).mono ?_
    rintro e w1 ⟨rfl, hb1⟩
    have N1 := Lib.hid (N0.out.keep hb1)
    have BB1 := Lib.hid (BB0.out.trans (hb1.mono BB0.out.size))
    obtain ⟨l0, l1, l2, l3, l4, l5, l6⟩ := N1.out.cells
    clear hb1 N0
    go_wp2_with fail
    refine (HCK.out _ N1.out.tree).mono ?_
    rintro e w2 ⟨rfl, hb2⟩
    have N2 := Lib.hid (N1.out.keep hb2)
    have BB2 := Lib.hid (BB1.out.trans (hb2.mono BB1.out.size))
    clear hb2 N1 l0 l1 l2 l3 l4 l5 l6
    obtain ⟨l0, l1, l2, l3, l4, l5, l6⟩ := N2.out.cells
    go_wp2_with fail
    refine (HWN.out _ BB2.out N2.out.tree).mono ?_
    rintro e w3 ⟨rfl, hb3⟩
    have N3 := Lib.hid (N2.out.keep hb3)
    have BB3 := Lib.hid (BB2.out.trans (hb3.mono BB2.out.size))
    clear hb3 N2 l0 l1 l2 l3 l4 l5 l6
    go_wp2_with fail
    refine (HPS.out _ BB3.out).mono ?_
    rintro e w4 ⟨⟨A4, c4, K4, d4, rfl, hv4⟩, hb4⟩
    have X4 := hb4.alloc hb4.size (nodeBox mm A4 c4 K4 d4)
    have N4 := Lib.hid (N3.out.keep X4)
    have M4 := Lib.hid (Nbx.new hv4)
    have BB4 := Lib.hid (BB3.out.trans (X4.mono BB3.out.size))
    obtain ⟨m0, m1, m2, m3, m4, m5, m6⟩ := M4.out.cells
    clear hb4 hv4 X4 N3
    go_wp2_with fail
    refine (HWM.out _ _ BB4.out M4.out.tree).mono ?_
    rintro e w5 ⟨rfl, hb5⟩
    have N5 := Lib.hid (N4.out.keep hb5)
    have M5 := Lib.hid (M4.out.keep hb5)
    have BB5 := Lib.hid (BB4.out.trans (hb5.mono BB4.out.size))
    clear hb5 N4 M4 m0 m1 m2 m3 m4 m5 m6
    go_wp2_with fail
    refine (HAL.out _ BB5.out).mono ?_
    rintro e w6 ⟨rfl, hb6⟩
    have N6 := Lib.hid (N5.out.keep hb6)
    have M6 := Lib.hid (M5.out.keep hb6)
    have BB6 := Lib.hid (BB5.out.trans (hb6.mono BB5.out.size))
    clear hb6 N5 M5
    obtain ⟨l0, l1, l2, l3, l4, l5, l6⟩ := N6.out.cells
    obtain ⟨m0, m1, m2, m3, m4, m5, m6⟩ := M6.out.cells
    go_wp2_with fail
    refine (HEQ.out _ _ _ N6.out.tree M6.out.tree).mono ?_
    rintro e w7 ⟨rfl, hb7⟩
    go_wp2_with fail
    go_ret
    exact ⟨by simp, BB6.out.trans (hb7.mono BB6.out.size)⟩

set_option maxHeartbeats 4000000 in
set_option maxRecDepth 100000 in
theorem law9parsed_any (l : Bytes) (m : Int) (w : World) (hT : Tabs w) (hM : MaxLen m w) (hl : l.length ≤ 9223372036854775807) :
    Calls Tryz.prog 10 #[.string (S l)] w fun e w' => e = .returned (.bool true) ∧ Below w.heap.size w w' := by
  have hal := fun W => fun (hW : Below w.heap.size w W) => alive9_any W (hT.next hW)
  have HAL := Lib.hid hal
  by_cases h5 : 3000 < l.length
  · have h5' : (3000 : Int) < l.length := by omega
    clear hal hT hM
    go_enter Tryz.func10, Tryz.ntmps10
    go_wp2_with (go_at_call 28; refine (HAL.out _ (Below.refl _ _)).mono ?_; rintro e w1 ⟨rfl, hb1⟩)
    go_ret
    exact ⟨rfl, hb1⟩
  have h5' : ¬ (3000 : Int) < l.length := by omega
  have h1 := refParse_both l w (by omega)
  unfold BothR at h1
  cases hR : parse l with
  | error q =>
    have hq := parse_errne hR
    rw [hR] at h1
    simp only [treeR, atR, erR] at h1
    obtain ⟨x, y⟩ := q
    have t1 : ((y : Int) != 0) = true := by simpa using hq
    have H1 := Lib.hid h1
    clear hal hT hM h1 hR hq
    go_enter Tryz.func10, Tryz.ntmps10
    go_wp2_with fail
    refine H1.out.mono ?_
    rintro e w1 ⟨⟨A1, c1, K1, d1, rfl, hv1⟩, hb1⟩
    have BB1 := Lib.hid (hb1.alloc hb1.size (nodeBox zNodeN A1 c1 K1 d1))
    clear hv1 hb1
    go_wp2_with (go_at_call 28; refine (HAL.out _ BB1.out).mono ?_; rintro e w2 ⟨rfl, hb2⟩)
    go_ret
    exact ⟨rfl, BB1.out.trans (hb2.mono BB1.out.size)⟩
  | ok n =>
    have hfu := parse_full hR
    have hvn := parse_vld hR
    obtain ⟨_, hfn, _⟩ := parse_slim (by omega) hR
    obtain ⟨mm, hp, hev, hvm, hdm, hfm, hfl⟩ := read_doc hvn (by omega)
    have hdl := doc_len n
    have hwn := fun W (hW : Below w.heap.size w W) v (hv : NodeV W W.heap.size n v) => write9_any n v W (by omega) (by have := canon_len n; omega) (hT.next hW) hv
    have hps := fun W (hW : Below w.heap.size w W) => parse7_both (doc n) m W (hT.next hW) (hM.below hW) (by omega)
    have heq := fun W v u (hv : NodeV W W.heap.size n v) (hu : NodeV W W.heap.size mm u) => refEqual_any false n mm v u W hv hu hfn hfm
    unfold BothR at hps
    rw [hp] at hps
    rw [hR] at h1
    simp only [treeR, atR, erR] at hps h1
    rw [hvn] at hwn
    rw [show outOf n true = doc n from rfl] at hwn
    rw [hev] at heq
    clear hp hev hvm hdm hfm hfl hdl hal hT hM hfu hvn hfn hR
    generalize doc n = X at *
    have H1 := Lib.hid h1
    have HWN := Lib.hid hwn
    have HPS := Lib.hid hps
    have HEQ := Lib.hid heq
    clear h1 hwn hps heq
    go_enter Tryz.func10, Tryz.ntmps10
    go_wp2_with fail
    refine H1.out.mono ?_
    rintro e w1 ⟨⟨A1, c1, K1, d1, rfl, hv1⟩, hb1⟩
    have N1 := Lib.hid (Nbx.new hv1)
    have BB1 := Lib.hid (hb1.alloc hb1.size (nodeBox n A1 c1 K1 d1))
    obtain ⟨l0, l1, l2, l3, l4, l5, l6⟩ := N1.out.cells
    clear hv1 hb1
    go_wp2_with fail
    refine (HWN.out _ BB1.out _ N1.out.tree).mono ?_
    rintro e w3 ⟨rfl, hb3⟩
    have N3 := Lib.hid (N1.out.keep hb3)
    have BB3 := Lib.hid (BB1.out.trans (hb3.mono BB1.out.size))
    clear hb3 N1 l0 l1 l2 l3 l4 l5 l6
    obtain ⟨b1, hw1⟩ : ∃ b1, w1.heap.size = b1 := ⟨_, rfl⟩
    rw [hw1] at N3 ⊢
    clear hw1
    go_wp2_with fail
    refine (HPS.out _ BB3.out).mono ?_
    rintro e w4 ⟨⟨A4, c4, K4, d4, rfl, hv4⟩, hb4⟩
    have X4 := hb4.alloc hb4.size (nodeBox mm A4 c4 K4 d4)
    have N4 := Lib.hid (N3.out.keep X4)
    have M4 := Lib.hid (Nbx.new hv4)
    have BB4 := Lib.hid (BB3.out.trans (X4.mono BB3.out.size))
    clear hb4 hv4 X4 N3
    obtain ⟨b4, hw4⟩ : ∃ b4, w4.heap.size = b4 := ⟨_, rfl⟩
    rw [hw4] at M4
    have HW4 := Lib.hid hw4
    clear hw4
    go_wp2_with fail
    rw [HW4.out]
    generalize w4.alloc (nodeBox mm A4 c4 K4 d4) = W4 at *
    refine (HAL.out _ BB4.out).mono ?_
    rintro e w6 ⟨rfl, hb6⟩
    have N6 := Lib.hid (N4.out.keep hb6)
    have M6 := Lib.hid (M4.out.keep hb6)
    have BB6 := Lib.hid (BB4.out.trans (hb6.mono BB4.out.size))
    clear hb6 N4 M4
    obtain ⟨l0, l1, l2, l3, l4, l5, l6⟩ := N6.out.cells
    obtain ⟨m0, m1, m2, m3, m4, m5, m6⟩ := M6.out.cells
    go_wp2_with fail
    refine (HEQ.out _ _ _ N6.out.tree M6.out.tree).mono ?_
    rintro e w7 ⟨rfl, hb7⟩
    go_wp2_with fail
    go_ret
    exact ⟨by simp, BB6.out.trans (hb7.mono BB6.out.size)⟩
end Go.Proofs.YtclhdppppgjgfaaGreatDoor
