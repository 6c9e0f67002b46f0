/-
  Walk of chapter 9's statements: the example of the chapter.
-/
import Derived.Test.YthilaolkkamedaaDoorWith
import Derived.Test.YthilaolkkamedaaDoorWrite2
import Derived.Test.YthilaolkkamedaaDoorPlain9
set_option linter.unusedVariables false
namespace Go.Proofs.YthilaolkkamedaaDoor
open Go.RowKit

theorem NodesIn.one {w : World} {n : Node} {k p : Int} {s nm t : ByteArray} {A K : Option Addr} {i c j d : Nat} (h : NodeV w w.heap.size n (.agg #[.int .i64 k, .string s, .string nm, .slice A i c, .slice K j d, .string t, .int .i64 p])) :
    NodesIn (w.alloc (.cells #[.int .i64 k, .string s, .string nm, .slice A i c, .slice K j d, .string t, .int .i64 p] 25)) (w.alloc (.cells #[.int .i64 k, .string s, .string nm, .slice A i c, .slice K j d, .string t, .int .i64 p] 25)).heap.size (.slice (some ⟨w.heap.size, 0, none⟩) 1 1) [n] := by
  rw [World.size_alloc]
  obtain ⟨cs, hv, hn⟩ := h
  have hcs : cs = [.int .i64 k, .string s, .string nm, .slice A i c, .slice K j d, .string t, .int .i64 p] := by
    have := congrArg (fun v => match v with | Value.agg a => a.toList | _ => []) hv
    simpa using this.symm
  refine ⟨_, 1, rfl, Nat.le_refl _, .inr ⟨w.heap.size, 0, rfl, by omega, ?_⟩⟩
  rw [KidsIn, KidsIn]
  refine ⟨⟨cs, NodeIn.keep (fun j hj => Below.heap_alloc w _ j hj) (Nat.le_succ _) n cs hn, ?_⟩, trivial⟩
  rw [hcs]
  exact range_of_heap (heap_alloc_new w _)
theorem StrsIn.two_new (w : World) (a b : Bytes) : StrsIn (w.alloc (.cells #[.string (S a), .string (S b)] 9)) (w.alloc (.cells #[.string (S a), .string (S b)] 9)).heap.size (.slice (some ⟨w.heap.size, 0, none⟩) 2 2) [a, b] := by
  rw [World.size_alloc]
  refine ⟨_, 2, rfl, Nat.le_refl _, by omega, .inr ⟨w.heap.size, 0, rfl, by omega, fun i s hi => ?_⟩⟩
  rw [Nat.zero_add, Lib.cell_of_heap (heap_alloc_new w _)]
  match i, hi with
  | 0, hi => simp at hi; subst hi; rfl
  | 1, hi => simp at hi; subst hi; rfl

def example9 : Node := withNode (elemNode [97] [textNode [120]]) [[98], [60]]
def wrong9 : Node := elemNode [49, 97] []
theorem example9_ok : vld true example9 1 = true := by decide +kernel
theorem wrong9_no : vld true wrong9 1 = false := by decide +kernel
theorem example9_canon : canon example9 = [60, 97, 32, 98, 61, 34, 38, 108, 116, 59, 34, 62, 120, 60, 47, 97, 62] := by decide +kernel

set_option maxHeartbeats 4000000 in
set_option maxRecDepth 100000 in
theorem alive9_any (w : World) (hT : Tabs w) :
    Calls Tryd.prog 8 #[] w fun e w' => e = .returned (.bool true) ∧ Below w.heap.size w w' := by
  have HT := Lib.hid hT
  clear hT
  go_enter Tryd.func8, Tryd.ntmps8
  go_wp2_with fail
  refine (text9_any [120] _).mono ?_
  rintro e w1 ⟨v1, rfl, hn1, hb1⟩
  obtain ⟨A1, c1, K1, d1, hv1, _, _, _, _⟩ := hn1.open_
  subst hv1
  have hk1 := NodesIn.one hn1
  have HK1 := Lib.hid hk1
  have HB1 := Lib.hid (hb1.alloc (B := w.heap.size) hb1.size (.cells #[.int .i64 (textNode [120]).kind, .string (S (textNode [120]).space), .string (S (textNode [120]).name), .slice A1 (textNode [120]).attrs.length c1, .slice K1 (textNode [120]).kids.length d1, .string (S (textNode [120]).text), .int .i64 (textNode [120]).pos] 25))
  clear hk1 hn1 hb1
  go_wp2_with fail
  refine (elem9_any [97] [textNode [120]] _ _ (by decide) HK1.out).mono ?_
  rintro e w2 ⟨v2, rfl, hn2, hb2⟩
  have HB2 := Lib.hid (HB1.out.trans (hb2.mono HB1.out.size))
  have HN2 := Lib.hid hn2
  clear HK1 HB1 hb2 hn2
  go_wp2_with fail
  obtain ⟨W2, hW2⟩ : ∃ W2, W2 = w2.alloc (.cells #[.string (S [98]), .string (S [60])] 9) := ⟨_, rfl⟩
  have hst := StrsIn.two_new w2 [98] [60]
  have hb2 := HB2.out.alloc (HB2.out.size) (.cells #[.string (S [98]), .string (S [60])] 9)
  have hn2 : NodeV W2 W2.heap.size (elemNode [97] [textNode [120]]) v2 := by
    rw [hW2]; exact HN2.out.keep (fun j hj => Below.heap_alloc _ _ j hj) (by rw [World.size_alloc]; omega)
  rw [← hW2] at hst hb2
  change Calls _ _ _ (w2.alloc (.cells #[.string (S [98]), .string (S [60])] 9)) _
  rw [← hW2]
  refine (with9_any (elemNode [97] [textNode [120]]) v2 [[98], [60]] _ W2 (by decide) (by decide) hn2 hst).mono ?_
  rintro e w3 ⟨v3, rfl, hn3, hb3⟩
  have hn4 : NodeV w3 w3.heap.size example9 v3 := hn3.nodeV hb3.size
  have hb4 := hb2.trans (hb3.mono hb2.size)
  clear hW2 hst hb2 hn2 hn3 hb3 HB2 HN2
  have hwr := fun W => fun (hW : Below w3.heap.size w3 W) => write9_any example9 v3 W (by decide +kernel) (by rw [example9_canon]; decide) (HT.out.below (hb4.trans (hW.mono hb4.size)) (Nat.le_refl _)) (hn4.keep hW.block hW.size)
  have hck := fun W => fun (hW : Below w3.heap.size w3 W) => check9_any example9 v3 W (by decide +kernel) (HT.out.below (hb4.trans (hW.mono hb4.size)) (Nat.le_refl _)) (hn4.keep hW.block hW.size)
  rw [example9_ok] at hwr hck
  have hdoc : outOf example9 true = [60, 63, 120, 109, 108, 32, 118, 101, 114, 115, 105, 111, 110, 61, 34, 49, 46, 48, 34, 32, 101, 110, 99, 111, 100, 105, 110, 103, 61, 34, 85, 84, 70, 45, 56, 34, 63, 62, 10, 60, 97, 32, 98, 61, 34, 38, 108, 116, 59, 34, 62, 120, 60, 47, 97, 62, 10] := by rw [outOf, doc, example9_canon]; rfl
  rw [hdoc] at hwr
  obtain ⟨A4, c4, K4, d4, hv4, _, _, _, _⟩ := hn4.open_
  generalize example9.kind = x1, S example9.space = x2, S example9.name = x3, example9.attrs.length = x4, example9.kids.length = x5, S example9.text = x6, example9.pos = x7 at *
  subst hv4
  have HWR := Lib.hid hwr
  have HCK := Lib.hid hck
  have HB4 := Lib.hid hb4
  clear hwr hck hb4 hn4 hdoc
  go_wp2_with fail
  refine (HWR.out _ ((Below.refl _ _).alloc (Nat.le_refl _) _)).mono ?_
  rintro e w5 ⟨rfl, hb5⟩
  have hbx : w5.heap[w3.heap.size]? = some (.cells #[.int .i64 x1, .string x2, .string x3, .slice A4 x4 c4, .slice K4 x5 d4, .string x6, .int .i64 x7] 25) := (hb5.block w3.heap.size (by simp)).trans (heap_alloc_new w3 _)
  have h35 : Below w3.heap.size w3 w5 := ((Below.refl _ _).alloc (Nat.le_refl _) _).trans (hb5.mono (by simp))
  have HBX := Lib.hid hbx
  have H35 := Lib.hid h35
  have hl5 : w3.heap.size < w5.heap.size := heap_lt hbx
  clear hbx h35 hb5
  go_wp2_with fail
  refine (elem9_any [49, 97] [] _ _ (by decide) ⟨none, 0, rfl, Nat.le_refl _, .inl rfl⟩).mono ?_
  rintro e w6 ⟨v6, rfl, hn6, hb6⟩
  have h36 : Below w3.heap.size w3 w6 := H35.out.trans (hb6.mono (by omega))
  have hwr := write9_any wrong9 v6 w6 (by decide +kernel) (by decide +kernel) (HT.out.below (HB4.out.trans (h36.mono HB4.out.size)) (Nat.le_refl _)) hn6
  rw [wrong9_no] at hwr
  have H36 := Lib.hid h36
  have HWR2 := Lib.hid hwr
  have HBX2 := Lib.hid ((hb6.block _ (by omega)).trans HBX.out)
  clear h36 hwr hn6 hb6
  go_wp2_with fail
  refine HWR2.out.mono ?_
  rintro e w7 ⟨rfl, hb7⟩
  have hl6 := heap_lt HBX2.out
  have HBX3 := Lib.hid ((hb7.block _ hl6).trans HBX2.out)
  have H37 := Lib.hid (H36.out.trans (hb7.mono (by omega)))
  obtain ⟨k0, k1, k2, k3, k4, k5, k6⟩ := cells7 HBX3.out
  clear hb7
  go_wp2_with (go_at_call 11; refine (HCK.out _ H37.out).mono ?_; rintro e w8 ⟨rfl, hb8⟩)
  go_ret
  exact ⟨rfl, HB4.out.trans ((H37.out.trans (hb8.mono H37.out.size)).mono HB4.out.size)⟩
end Go.Proofs.YthilaolkkamedaaDoor
