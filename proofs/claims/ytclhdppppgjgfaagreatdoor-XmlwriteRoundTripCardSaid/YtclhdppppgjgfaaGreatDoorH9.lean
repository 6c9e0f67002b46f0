/-
  Several texts in one file, in build order:
  - Walks of chapter 6: the program's tag: expected, named.
  - Slices of nodes: appending all nodes of a row, appending one that lies in a block, as steps of a region; joining text to the last node.
  - Small laws for a statement that builds an empty slice of nodes, appends a row to it and a node behind it, in whatever order.
  - Regions that draw their order and end in one operation that waits for all others: loads may be taken first under a condition on the world that need not hold behind that last operation. No function of the program.
  - A statement 'x.f = append(append([]Node{}, x.f...), k)' in whatever order its operations come: over a frame and a post that are letters.
  - The statement 't.token.Attrs = append(t.token.Attrs, a)' in whatever order its operations come: over a frame and a post that are letters. Made by gen_attreg.py.
-/
import Derived.Test.YtclhdppppgjgfaaGreatDoorH7
import Derived.Test.YtclhdppppgjgfaaGreatDoorH8
import Derived.Test.YtclhdppppgjgfaaGreatDoorH4
import Derived.Maps.AppendAt
import Derived.Test.YtclhdppppgjgfaaGreatDoorH3
import Derived.OrdersHeld
import Derived.StillTail
import Derived.Deep.RegionHeld
set_option linter.unusedVariables false
namespace Go.Proofs.YtclhdppppgjgfaaGreatDoor
open Go.RowKit

/-- Block g is a tag over the position b. -/
def TagB (w : World) (g b : Nat) (k : Int) (nm : Bytes) (A : Option Addr) (n c : Nat) (em : Bool) (tx : Bytes) (p : Int) : Prop :=
  w.heap[g]? = some (.cells #[.pointer (some ⟨b, 0, none⟩), .int .i64 k, .string (S nm), .slice A n c, .bool em, .string (S tx), .int .i64 p] 121 (0, 0))
section
variable {w w' : World} {g b : Nat} {k : Int} {nm : Bytes} {A : Option Addr} {n c : Nat} {em : Bool} {tx : Bytes} {p : Int}
theorem TagB.lt (h : TagB w g b k nm A n c em tx p) : g < w.heap.size := heap_lt h
theorem TagB.cells (h : TagB w g b k nm A n c em tx p) : w.cell? ⟨g, 0, none⟩ = some (.pointer (some ⟨b, 0, none⟩)) ∧ w.cell? ⟨g, 1, none⟩ = some (.int .i64 k) ∧ w.cell? ⟨g, 2, none⟩ = some (.string (S nm)) ∧ w.cell? ⟨g, 3, none⟩ = some (.slice A n c) ∧ w.cell? ⟨g, 4, none⟩ = some (.bool em) ∧ w.cell? ⟨g, 5, none⟩ = some (.string (S tx)) ∧ w.cell? ⟨g, 6, none⟩ = some (.int .i64 p) := cells7 h
theorem TagB.free (h : TagB w g b k nm A n c em tx p) (i : Nat) : w.frozen? ⟨g, i, none⟩ = false := Lib.frozen_of_heap h i
theorem TagB.keep (h : TagB w g b k nm A n c em tx p) (hk : w'.heap[g]? = w.heap[g]?) : TagB w' g b k nm A n c em tx p := hk.trans h
theorem TagB.upd (h : TagB w g b k nm A n c em tx p) (hu : Upd b w w') (hne : g ≠ b) : TagB w' g b k nm A n c em tx p := h.keep (hu.block _ h.lt hne)
theorem TagB.drew (h : TagB w g b k nm A n c em tx p) : TagB w.drew g b k nm A n c em tx p := h
theorem TagB.kind_ (h : TagB w g b k nm A n c em tx p) (x : Int) : TagB (w.setCell ⟨g, 1, none⟩ (.int .i64 x)) g b x nm A n c em tx p := by
  unfold TagB at h ⊢
  simp [World.setCell, Array.getElem?_modify, h]
theorem TagB.name_ (h : TagB w g b k nm A n c em tx p) (x : Bytes) : TagB (w.setCell ⟨g, 2, none⟩ (.string (S x))) g b k x A n c em tx p := by
  unfold TagB at h ⊢
  simp [World.setCell, Array.getElem?_modify, h]
theorem TagB.atts_ (h : TagB w g b k nm A n c em tx p) (A' : Option Addr) (n' c' : Nat) : TagB (w.setCell ⟨g, 3, none⟩ (.slice A' n' c')) g b k nm A' n' c' em tx p := by
  unfold TagB at h ⊢
  simp [World.setCell, Array.getElem?_modify, h]
theorem TagB.empty_ (h : TagB w g b k nm A n c em tx p) (x : Bool) : TagB (w.setCell ⟨g, 4, none⟩ (.bool x)) g b k nm A n c x tx p := by
  unfold TagB at h ⊢
  simp [World.setCell, Array.getElem?_modify, h]
theorem TagB.text_ (h : TagB w g b k nm A n c em tx p) (x : Bytes) : TagB (w.setCell ⟨g, 5, none⟩ (.string (S x))) g b k nm A n c em x p := by
  unfold TagB at h ⊢
  simp [World.setCell, Array.getElem?_modify, h]
end
theorem Cur.other {w : World} {b g i : Nat} {l : Bytes} {n ea er : Int} (h : Cur w b l n ea er) (hne : b ≠ g) (v : Value) : Cur (w.setCell ⟨g, i, none⟩ v) b l n ea er := h.keep (Below.heap_setCell _ _ _ _ (by simpa using hne))

set_option maxHeartbeats 2000000 in
theorem tagExpected_any (g b : Nat) (l : Bytes) (n a : Nat) (ea : Int) (k : Int) (nm : Bytes) (A : Option Addr) (q c : Nat) (em : Bool) (tx : Bytes) (w : World)
    (hG : TagB w g b k nm A q c em tx a) (hgb : g ≠ b) (hC : Cur w b l n ea 0) (hl : l.length ≤ 1000000000) :
    Calls Tryz.prog 86 #[.pointer (some ⟨g, 0, none⟩)] w fun e w' => e = .returned (.bool false) ∧ Cur w' b l n (missing l a n).1 (missing l a n).2 ∧ Upd b w w' := by
  obtain ⟨g0, _, _, _, _, _, g6⟩ := hG.cells
  have c0 := hC.c0
  have c1 := hC.c1
  have HC := Lib.hid hC
  have HG := Lib.hid hG
  by_cases h : l.length ≤ n
  · have h' : (l.length : Int) ≤ n := by omega
    have e : missing l a n = (a, 8) := by unfold missing; rw [if_pos h]
    rw [e]
    have HF := Lib.hid (fun W hW => curFail0_any b l n ea a 8 W hW)
    clear e hC hG
    go_enter Tryz.func86, Tryz.ntmps86
    go_wp2_with fail
    go_quiet (fail)
    go_wp2_with fail
    have hC1 := HC.out.drewN nq
    have hG1 : TagB (w.drewN nq) g b k nm A q c em tx a := HG.out.keep rfl
    have HU := Lib.hid (drewN_upd b w nq)
    generalize w.drewN nq = W at *
    clear g0 g6 c0 c1
    obtain ⟨g0, _, _, _, _, _, g6⟩ := hG1.cells
    have HC1 := Lib.hid hC1
    have HG1 := Lib.hid hG1
    clear hC1 hG1
    go_region_held3 (fun x => x.cell? ⟨g, 0, none⟩ = some (.pointer (some ⟨b, 0, none⟩)) ∧ x.cell? ⟨g, 6, none⟩ = some (.int .i64 a))
      (first | exact ⟨d0, d6⟩ | exact ⟨g0, g6⟩)
      ((go_at_call 83; refine (HF.out _ HC1.out.drew).mono ?_; rintro e w2 ⟨rfl, hcu, hup⟩; obtain ⟨d0, _, _, _, _, _, d6⟩ := (HG1.out.drew.upd hup hgb).cells))
    have HCU := Lib.hid hcu
    have HUP := Lib.hid (HU.out.drew.trans hup)
    clear hcu hup
    go_wp2_with fail
    go_ret
    exact ⟨rfl, HCU.out, HUP.out⟩
  · have h' : ¬ (l.length : Int) ≤ n := by omega
    have e : missing l a n = (n, 7) := by unfold missing; rw [if_neg h]
    rw [e]
    have HF := Lib.hid (fun W hW => curFail0_any b l n ea n 7 W hW)
    clear e hC hG
    go_enter Tryz.func86, Tryz.ntmps86
    go_wp2_with fail
    go_quiet (fail)
    go_wp2_with fail
    have hC1 := HC.out.drewN nq
    have hG1 : TagB (w.drewN nq) g b k nm A q c em tx a := HG.out.keep rfl
    have HU := Lib.hid (drewN_upd b w nq)
    generalize w.drewN nq = W at *
    clear g0 g6 c0 c1
    obtain ⟨g0, _, _, _, _, _, g6⟩ := hG1.cells
    have c1 := hC1.c1
    have HC1 := Lib.hid hC1
    have HG1 := Lib.hid hG1
    clear hC1 hG1 g6
    go_region_held3 (fun x => x.cell? ⟨g, 0, none⟩ = some (.pointer (some ⟨b, 0, none⟩)) ∧ x.cell? ⟨b, 1, none⟩ = some (.int .i64 n))
      (first | exact ⟨d0, d1⟩ | exact ⟨g0, c1⟩)
      ((go_at_call 83; refine (HF.out _ HC1.out.drew).mono ?_; rintro e w2 ⟨rfl, hcu, hup⟩; have d1 := hcu.c1; obtain ⟨d0, _, _, _, _, _, d6⟩ := (HG1.out.drew.upd hup hgb).cells))
    have HCU := Lib.hid hcu
    have HUP := Lib.hid (HU.out.drew.trans hup)
    clear hcu hup d0 d1
    go_wp2_with fail
    go_ret
    exact ⟨rfl, HCU.out, HUP.out⟩

/-- What a tag's methods may count on: the world w0 at the start of the construct. -/
structure TS (w0 : World) (b : Nat) (m : Int) : Prop where
  tabs : Tabs w0
  max : MaxLen m w0
  cur : ∃ l n ea er, Cur w0 b l n ea er
section
variable {w0 W : World} {b : Nat} {m : Int}
theorem TS.tabs_ (h : TS w0 b m) (hu : Upd b w0 W) : Tabs W := by obtain ⟨l, n, ea, er, hc⟩ := h.cur; exact h.tabs.upd hc hu
theorem TS.max_ (h : TS w0 b m) (hu : Upd b w0 W) : MaxLen m W := by obtain ⟨l, n, ea, er, hc⟩ := h.cur; exact h.max.upd hc hu
theorem TS.lt (h : TS w0 b m) : b < w0.heap.size := by obtain ⟨l, n, ea, er, hc⟩ := h.cur; exact hc.lt
end
/-- A name that has been read, or the error. -/
def NamedRes (w0 : World) (g b : Nat) (l : Bytes) (n a : Nat) (ea : Int) (k : Int) (A : Option Addr) (q c : Nat) (em : Bool) (tx : Bytes) (K : Nat) (T : Bytes) (e : Ending) (w' : World) : Prop :=
  if K = 0 then e = .returned (.bool false) ∧ Cur w' b l n (missing l a n).1 (missing l a n).2 ∧ (∃ nm, TagB w' g b k nm A q c em tx a) ∧ Upd b w0 w'
  else e = .returned (.bool true) ∧ Cur w' b l (n + K : Nat) ea 0 ∧ TagB w' g b k T A q c em tx a ∧ Upd b w0 w'
set_option maxHeartbeats 2000000 in
theorem tagNamed_any (w0 : World) (m : Int) (g b : Nat) (l : Bytes) (n a : Nat) (ea : Int) (k : Int) (nm : Bytes) (A : Option Addr) (q c : Nat) (em : Bool) (tx : Bytes) (w : World)
    (hS : TS w0 b m) (hg : w0.heap.size ≤ g) (hU : Upd b w0 w) (hG : TagB w g b k nm A q c em tx a) (hC : Cur w b l n ea 0) (hn : n ≤ l.length) (hl : l.length ≤ 1000000000) :
    Calls Tryz.prog 84 #[.pointer (some ⟨g, 0, none⟩)] w (NamedRes w0 g b l n a ea k A q c em tx (nameLen (l.drop n)) ((l.drop n).take (nameLen (l.drop n)))) := by
  have hb := hS.lt
  have hgb : g ≠ b := by omega
  have hN := curName_any b l n ea 0 w (hS.tabs_ hU) hC hn (by omega)
  have hkl := nameLen_le (l.drop n)
  rw [List.length_drop] at hkl
  obtain ⟨K, hK⟩ : ∃ K, nameLen (l.drop n) = K := ⟨_, rfl⟩
  rw [hK] at hN hkl ⊢
  have hTl : ((l.drop n).take K).length = K := by rw [List.length_take, List.length_drop]; omega
  obtain ⟨T, hT⟩ : ∃ T, (l.drop n).take K = T := ⟨_, rfl⟩
  rw [hT] at hN hTl ⊢
  obtain ⟨g0, _⟩ := hG.cells
  have HN := Lib.hid hN
  have HG := Lib.hid hG
  have HU := Lib.hid hU
  clear hN hG hU hC hK hT
  by_cases h0 : K = 0
  · have hT0 : T = [] := List.eq_nil_of_length_eq_zero (by omega)
    subst hT0
    subst h0
    go_enter Tryz.func84, Tryz.ntmps84
    go_wp2_with fail
    refine HN.out.mono ?_
    rintro e w1 ⟨rfl, hcu, hup⟩
    have hG1 := HG.out.upd hup hgb
    obtain ⟨g0, _, g2, _⟩ := hG1.cells
    have f2 := hG1.free 2
    have hG2 := hG1.name_ []
    have hC2 := hcu.other (i := 2) hgb.symm (.string (S []))
    obtain ⟨_, _, e2, _⟩ := hG2.cells
    have HX := Lib.hid (tagExpected_any g b l (n + 0) a ea k [] A q c em tx _ hG2 hgb hC2 hl)
    have HG2 := Lib.hid hG2
    have HU2 := Lib.hid ((HU.out.trans hup).more ((Below.refl _ _).setCell (p := ⟨g, 2, none⟩) hg (.string (S []))))
    clear hG1 hcu hup hC2 hG2
    go_wp2_with fail
    refine HX.out.mono ?_
    rintro e w2 ⟨rfl, hcu, hup⟩
    have HCU := Lib.hid hcu
    have HUP := Lib.hid hup
    clear hcu hup
    go_wp2_with fail
    go_ret
    unfold NamedRes
    rw [if_pos rfl]
    exact ⟨rfl, HCU.out, ⟨_, HG2.out.upd HUP.out hgb⟩, HU2.out.trans HUP.out⟩
  · have hT0 : T ≠ [] := by rintro rfl; simp at hTl; omega
    have H0 := Lib.hid h0
    have t1 : (T == []) = false := by rw [beq_eq_false_iff_ne]; exact hT0
    have t2 : (T != []) = true := by rw [bne_iff_ne]; exact hT0
    clear hT0 h0
    go_enter Tryz.func84, Tryz.ntmps84
    go_wp2_with fail
    refine HN.out.mono ?_
    rintro e w1 ⟨rfl, hcu, hup⟩
    have hG1 := HG.out.upd hup hgb
    obtain ⟨g0, _, g2, _⟩ := hG1.cells
    have f2 := hG1.free 2
    have hG2 := hG1.name_ T
    have hC2 := hcu.other (i := 2) hgb.symm (.string (S T))
    obtain ⟨_, _, e2, _⟩ := hG2.cells
    have HG2 := Lib.hid hG2
    have HC2 := Lib.hid hC2
    have HU2 := Lib.hid ((HU.out.trans hup).more ((Below.refl _ _).setCell (p := ⟨g, 2, none⟩) hg (.string (S T))))
    clear hG1 hcu hup hC2 hG2
    go_wp2_with fail
    go_ret
    unfold NamedRes
    rw [if_neg H0.out]
    exact ⟨rfl, HC2.out, HG2.out, HU2.out⟩
end Go.Proofs.YtclhdppppgjgfaaGreatDoor
set_option linter.unusedVariables false
namespace Go.Proofs.YtclhdppppgjgfaaGreatDoor
open Go.RowKit

/-- The cells of a row of nodes. -/
theorem NodeRow.open_ {w : World} {base : Nat} {p : Nat → Prop} {v : Value} {ks : List Node} (h : NodeRow w base p v ks) :
    ∃ css : List (List Value), css.length = ks.length ∧ (∀ cs ∈ css, cs.length = 7) ∧ (∀ u ∈ css.flatten, u.oneCell' = true) ∧ (∀ (i : Nat) k cs, ks[i]? = some k → css[i]? = some cs → NodeP w p k cs) ∧ w.ownsRow base 26 7 v ks.length css.flatten := by
  obtain ⟨css, hl, hin, hown⟩ := h
  have hat : ∀ cs ∈ css, ∃ k, NodeP w p k cs := fun cs hcs => by
    obtain ⟨i, hi⟩ := List.getElem?_of_mem hcs
    have hik : i < ks.length := by rw [← hl]; exact (List.getElem?_eq_some_iff.1 hi).1
    exact ⟨_, hin i _ cs (List.getElem?_eq_getElem hik) hi⟩
  refine ⟨css, hl, fun cs hcs => ?_, fun u hu => ?_, hin, hown⟩
  · obtain ⟨k, hk⟩ := hat cs hcs; exact hk.len
  · obtain ⟨cs, hcs, hu⟩ := List.mem_flatten.1 hu
    obtain ⟨k, hk⟩ := hat cs hcs
    exact hk.one u hu
theorem NodeRow.join {w : World} {base : Nat} {p : Nat → Prop} {v : Value} {xs ks : List Node} {cx ck : List (List Value)} (hx : cx.length = xs.length) (hk : ck.length = ks.length)
    (h1 : ∀ (i : Nat) k cs, xs[i]? = some k → cx[i]? = some cs → NodeP w p k cs) (h2 : ∀ (i : Nat) k cs, ks[i]? = some k → ck[i]? = some cs → NodeP w p k cs)
    (h : w.ownsRow base 26 7 v (xs.length + ks.length) (cx.flatten ++ ck.flatten)) : NodeRow w base p v (xs ++ ks) := by
  refine ⟨cx ++ ck, by simp [hx, hk], fun i k cs hi hc => ?_, by rw [List.flatten_append, List.length_append]; exact h⟩
  by_cases hlt : i < xs.length
  · rw [List.getElem?_append_left hlt] at hi
    rw [List.getElem?_append_left (by omega)] at hc
    exact h1 i k cs hi hc
  · rw [List.getElem?_append_right (by omega)] at hi
    rw [List.getElem?_append_right (by omega), hx] at hc
    exact h2 _ k cs hi hc
/-- Appending all nodes of a row to another. -/
theorem run_append_nodes (w : World) (ty : TypeId) (base : Nat) (p : Nat → Prop) (v : Value) (xs : List Node) (hx : NodeRow w base p v xs) (A : Option Addr) (c : Nat) (ks : List Node) (base' : Nat) (h : NodeRow w base' p (.slice A ks.length c) ks) (hpx : ∀ b, p b → v.ownBlock ≠ some b) (hpw : ∀ b, p b → b < w.heap.size) (hbase : base ≤ w.heap.size) (hl : xs.length + ks.length < 1000000000000) :
    ∃ v' w', (Builtin.append_ #[24, 24] ty #[v, .slice A ks.length c]).run Tryz.prog w = .ok v' w' ∧ NodeRow w' base p v' (xs ++ ks) ∧ Grew w v v' w' ∧ Below base w w' ∧ (v'.ownBlock = v.ownBlock ∨ v'.ownBlock = some w.heap.size) := by
  obtain ⟨i0, hi, hz0, hz1, hz2⟩ := info_parts infoNode
  obtain ⟨cx, hcx, _, _, hinx, hownx⟩ := hx.open_
  obtain ⟨ck, hck, hck7, hck1, hink, hownk⟩ := h.open_
  cases A with
  | none =>
    have hn : ks = [] := by
      rcases hownk.2 with ⟨_, h0⟩ | ⟨g, cap, cur, hv, _⟩
      · exact List.eq_nil_of_length_eq_zero h0
      · cases hv
    subst hn
    refine ⟨v, w, ?_, by rw [List.append_nil]; exact hx, ⟨⟨rfl, rfl, rfl, Nat.le_refl _, fun _ _ _ => rfl⟩, Nat.le_refl _⟩, Below.refl _ _, .inl rfl⟩
    rcases hownx.2 with ⟨rfl, hn⟩ | ⟨g, cap, cur, rfl, _, _, hnc, _⟩
    · simp [Builtin.append_, run_underlying Tryz.underlying24, sizeOf, typeInfo, hi, Builtin.lenOf, Builtin.firstCells]
    · simp [Builtin.append_, run_underlying Tryz.underlying24, sizeOf, typeInfo, hi, Builtin.lenOf, Builtin.firstCells, hnc, storeCells]
  | some ad =>
    obtain ⟨g, hg⟩ : ∃ g, ad = ⟨g, 0, none⟩ := by
      rcases hownk.2 with ⟨hv, _⟩ | ⟨g, cap, cur, hv, _⟩
      · cases hv
      · cases hv; exact ⟨g, rfl⟩
    subst hg
    have hcells : ∀ j u, ck.flatten[j]? = some u → w.cell? ((⟨g, 0, none⟩ : Addr).add j) = some u := fun j u hu => hownk.cells (g := g) rfl j u hu
    have hfl : ck.flatten.length = ks.length * 7 := by rw [flat_len (c := 7) hck7, hck]
    obtain ⟨v', w', h1, h2, h3, _, h5⟩ := run_append_own_at (P := Tryz.prog) w base 24 ty 26 i0 _ 7 112 Tryz.underlying24 hi hz0 hz1 hz2 rfl (by omega) v xs.length _ hownx ⟨g, 0, none⟩ ks.length c _ hfl hcells hck1 (by unfold maxLen; omega) (by omega) hbase
    have hkeep : ∀ (n : Node) cs, NodeP w p n cs → NodeP w' p n cs := fun n cs hn => NodeP.keep (fun j hj => h3.block j (hpw j hj) (fun e => hpx j hj e.symm)) (fun _ h => h) n cs hn
    refine ⟨v', w', h1, NodeRow.join hcx hck (fun i k cs a b => hkeep _ _ (hinx i k cs a b)) (fun i k cs a b => hkeep _ _ (hink i k cs a b)) h2, ⟨h3, h3.size⟩, row_grown h3 hbase hownx.lt, h5⟩
/-- The same as a step of a region. -/
theorem nodes_all_step {ops : Array Oper} {o : Oper} {a : Act} {K : Act → World → Prop} {Q : Exit → Act → World → Prop} {E : Prop} (hgd : o.guard = none) (s x : Operand)
    (ho : o.op = .call { callee := .builtin .append, args := #[s, x], argTypes := #[24, 24] })
    (w : World) (base : Nat) (p : Nat → Prop) (v : Value) (xs : List Node) (hs : a.eval s = v) (hx : NodeRow w base p v xs) (A : Option Addr) (c : Nat) (ks : List Node) (base' : Nat) (hxv : a.eval x = .slice A ks.length c) (h : NodeRow w base' p (.slice A ks.length c) ks) (hpx : ∀ b, p b → v.ownBlock ≠ some b) (hpw : ∀ b, p b → b < w.heap.size) (hbase : base ≤ w.heap.size) (hl : xs.length + ks.length < 1000000000000)
    (hK : ∀ v' w', NodeRow w' base p v' (xs ++ ks) → Grew w v v' w' → Below base w w' → (v'.ownBlock = v.ownBlock ∨ v'.ownBlock = some w.heap.size) → K (a.put o.dst v') w') :
    if Region.wanted o (yielded ops a.tmps) = true then Oper.wp Tryz.prog o a w K Q else E := by
  rw [if_pos (by simp [Region.wanted, hgd])]
  obtain ⟨v', w', hrun, h1, h2, h3, h4⟩ := run_append_nodes w o.type base p v xs hx A c ks base' h hpx hpw hbase hl
  unfold Oper.wp
  simp [execOp, ho, resolve, invoke, builtin, hs, hxv, hrun, Result.andThen]
  exact hK v' w' h1 h2 h3 h4
/-- Appending one node that lies in a block. -/
theorem nodes_one_step {ops : Array Oper} {o : Oper} {a : Act} {K : Act → World → Prop} {Q : Exit → Act → World → Prop} {E : Prop} (hgd : o.guard = none) (s x : Operand)
    (ho : o.op = .call { callee := .builtin .append, args := #[s, x], argTypes := #[24, 24] })
    (w : World) (base : Nat) (p : Nat → Prop) (v : Value) (ks : List Node) (hs : a.eval s = v) (h : NodeRow w base p v ks) (k : Node) (cs : List Value) (b : Nat) (hx : a.eval x = .slice (some ⟨b, 0, none⟩) 1 1) (hb : w.rangeAt b 0 cs) (hk : NodeP w p k cs) (hpx : ∀ b, p b → v.ownBlock ≠ some b) (hpw : ∀ b, p b → b < w.heap.size) (hbase : base ≤ w.heap.size) (hlen : ks.length < 1000000000000)
    (hK : ∀ g cap w', NodeRow w' base p (.slice (some ⟨g, 0, none⟩) (ks.length + 1) cap) (ks ++ [k]) → Grew w v (.slice (some ⟨g, 0, none⟩) (ks.length + 1) cap) w' → Below base w w' → (v.ownBlock = some g ∨ g = w.heap.size) → K (a.put o.dst (.slice (some ⟨g, 0, none⟩) (ks.length + 1) cap)) w') :
    if Region.wanted o (yielded ops a.tmps) = true then Oper.wp Tryz.prog o a w K Q else E := by
  obtain ⟨i0, hi0, hz0, hz1, hz2⟩ := info_parts infoNode
  obtain ⟨css, hl, hc7, hc1, hin, hown⟩ := h.open_
  refine step_append_lies _ hgd s x 24 ho base 26 i0 _ 7 112 Tryz.underlying24 hi0 hz0 hz1 hz2 rfl (by omega) v ks.length css.flatten hs hown ⟨b, 0, none⟩ 1 1 cs hx (by rw [hk.len]) ?_ hk.one (by omega) (by unfold maxLen; omega) (by omega) hbase _ rfl ?_
  · intro j u hu
    rw [add_zero_block]
    have := hb j u hu
    rw [Nat.zero_add] at this
    exact this
  · intro g cap w1 hown1 hgrow hat hlt
    have hkeep : ∀ (n : Node) cs, NodeP w p n cs → NodeP w1 p n cs := fun n cs hn => NodeP.keep (fun j hj => hgrow.block j (hpw j hj) (fun e => hpx j hj e.symm)) (fun _ h => h) n cs hn
    refine hK g cap w1 (NodeRow.join (ck := [cs]) hl rfl (fun i k cs a b => hkeep _ _ (hin i k cs a b)) ?_ (by simpa using hown1)) ⟨hgrow, hgrow.size⟩ (row_grown hgrow hbase hown.lt) hat
    intro i k' cs' hi hc
    cases i with
    | zero =>
      simp at hi hc
      subst hi hc
      exact hkeep _ _ hk
    | succ i => simp at hi
/-- A store into a row. -/
theorem own_set {w : World} {base : Nat} {e : TypeId} {size : Nat} {g n cap : Nat} {xs : List Value} (h : w.ownsRow base e size (.slice (some ⟨g, 0, none⟩) n cap) n xs) (j : Nat) (u : Value) : (w.setCell ⟨g, j, none⟩ u).ownsRow base e size (.slice (some ⟨g, 0, none⟩) n cap) n (xs.set j u) := by
  obtain ⟨h1, h2⟩ := h
  refine ⟨by rw [List.length_set]; exact h1, ?_⟩
  rcases h2 with ⟨hv, _⟩ | ⟨g', cap', cur, hv, hg, hh, hn, hm, hs, ht⟩
  · cases hv
  · cases hv
    refine .inr ⟨g, cap, cur.setIfInBounds j u, rfl, hg, ?_, hn, hm, by simpa using hs, ?_⟩
    · simp [World.setCell, Array.getElem?_modify, hh]
    · rw [Array.toList_setIfInBounds, List.take_set, ht]
/-- Text joins the text of the last node. -/
theorem NodeRow.joinText {w : World} {base : Nat} {p : Nat → Prop} {g cap : Nat} {xs : List Node} {k : Int} {s n t : Bytes} {ats : List Att} {kk : List Node} {q : Int} {N : Nat}
    (h : NodeRow w base p (.slice (some ⟨g, 0, none⟩) N cap) (xs ++ [.mk k s n ats kk t q])) (hN : N = xs.length + 1) (hp : ¬ p g) (u : Bytes) :
    NodeRow (w.setCell ⟨g, xs.length * 7 + 5, none⟩ (.string (S u))) base p (.slice (some ⟨g, 0, none⟩) N cap) (xs ++ [.mk k s n ats kk u q]) := by
  obtain ⟨css, hl, hc7, _, hin, hown⟩ := h.open_
  have hlx : css.length = xs.length + 1 := by simpa using hl
  obtain ⟨ci, cl, rfl⟩ : ∃ ci cl, css = ci ++ [cl] := by
    cases hcs : css.reverse with
    | nil => have h0 : css.length = 0 := by { have := congrArg List.length hcs; rwa [List.length_reverse] at this }; omega
    | cons a b => exact ⟨b.reverse, a, by have := congrArg List.reverse hcs; simpa using this⟩
  have hci : ci.length = xs.length := by simp at hlx; exact hlx
  have hfl : ci.flatten.length = xs.length * 7 := by rw [flat_len (c := 7) (fun cs h => hc7 cs (by simp [h])), hci]
  have hlast := hin xs.length (.mk k s n ats kk t q) cl (by simp) (by rw [List.getElem?_append_right (by omega), hci]; simp)
  have hkeep : ∀ (m : Node) cs, NodeP w p m cs → NodeP (w.setCell ⟨g, xs.length * 7 + 5, none⟩ (.string (S u))) p m cs := fun m cs hm =>
    NodeP.keep (fun j hj => Below.heap_setCell _ _ _ _ (fun e => hp (by simp at e; rw [← e]; exact hj))) (fun _ h => h) m cs hm
  obtain ⟨va, vk, hcl, ha, hk⟩ := hlast.form
  rw [show (xs ++ [Node.mk k s n ats kk t q]).length = N by simp [hN]] at hown
  have hset := own_set hown (xs.length * 7 + 5) (.string (S u))
  have hf2 : ((ci ++ [cl]).flatten).set (xs.length * 7 + 5) (.string (S u)) = (ci ++ [cl.set 5 (.string (S u))]).flatten := by
    rw [List.flatten_append, List.flatten_append, List.set_append_right _ _ (by omega), hfl, show xs.length * 7 + 5 - xs.length * 7 = 5 by omega]
    simp
  rw [hf2] at hset
  refine ⟨ci ++ [cl.set 5 (.string (S u))], by simp [hci], fun i m cs hi hc => ?_, by rw [show (xs ++ [Node.mk k s n ats kk u q]).length = N by simp [hN]]; exact hset⟩
  by_cases hlt : i < xs.length
  · rw [List.getElem?_append_left hlt] at hi
    rw [List.getElem?_append_left (by omega)] at hc
    exact hkeep _ _ (hin i m cs (by rw [List.getElem?_append_left hlt]; exact hi) (by rw [List.getElem?_append_left (by omega)]; exact hc))
  · rw [List.getElem?_append_right (by omega)] at hi
    rw [List.getElem?_append_right (by omega), hci] at hc
    cases hij : i - xs.length with
    | succ j => rw [hij] at hi; simp at hi
    | zero =>
      rw [hij] at hi hc
      simp at hi hc
      subst hi hc
      rw [hcl]
      have h3 := hkeep _ _ (NodeP.of_form (n := Node.mk k s n ats kk t q) ha hk)
      obtain ⟨va', vk', e3, ha3, hk3⟩ := h3.form
      simp only [List.cons.injEq] at e3
      obtain ⟨_, _, _, e4, e5, _⟩ := e3
      subst e4 e5
      exact NodeP.of_form (n := Node.mk k s n ats kk u q) ha3 hk3
end Go.Proofs.YtclhdppppgjgfaaGreatDoor
set_option linter.unusedVariables false
namespace Go.Proofs.YtclhdppppgjgfaaGreatDoor
open Go.RowKit

/-- An empty slice that has just been built. -/
theorem rowE {W : World} {base h : Nat} {p : Nat → Prop} (e : W.heap[h]? = some (.cells #[] 26 (0, 0))) (hb : base ≤ h) : NodeRow W base p (.slice (some ⟨h, 0, none⟩) 0 0) [] :=
  ⟨[], rfl, by simp, by simp, .inr ⟨h, 0, #[], rfl, hb, e, Nat.le_refl _, by decide, rfl, by simp⟩⟩
theorem grew_below {B : Nat} {V W w' : World} {v v' : Value} (h : Below B V W) (g : Grew W v v' w') (hv : ∀ k, v.ownBlock = some k → B ≤ k) (hB : B ≤ V.heap.size) : Below B V w' :=
  ⟨g.grown.os.trans h.os, g.grown.tape.trans h.tape, g.grown.output.trans h.output, Nat.le_trans h.size g.lt, fun k hk => (g.grown.block k (Nat.lt_of_lt_of_le (Nat.lt_of_lt_of_le hk hB) h.size) (fun e => by have := hv k e.symm; omega)).trans (h.block k hk)⟩
theorem range_at {W : World} {b : Nat} {cs : List Value} (h : W.heap[b]? = some (.cells cs.toArray 26 (0, 0))) : W.rangeAt b 0 cs := range_of_heap h
/-- The block of a row that is not empty, and its cells. -/
theorem NodeRow.ptr {w : World} {base : Nat} {p : Nat → Prop} {A : Option Addr} {n c : Nat} {ks : List Node} (h : NodeRow w base p (.slice A n c) ks) (hne : 1 ≤ ks.length) : ∃ g, A = some ⟨g, 0, none⟩ ∧ base ≤ g ∧ g < w.heap.size := by
  obtain ⟨css, _, _, hown⟩ := h
  rcases hown.2 with ⟨_, h0⟩ | ⟨g, cap, cur, hv, hg, hh, _⟩
  · omega
  · cases hv; exact ⟨g, rfl, hg, heap_lt hh⟩
theorem NodeRow.free {w : World} {base : Nat} {p : Nat → Prop} {g n c : Nat} {ks : List Node} (h : NodeRow w base p (.slice (some ⟨g, 0, none⟩) n c) ks) (j : Nat) : w.frozen? ⟨g, j, none⟩ = false := by
  obtain ⟨css, _, _, hown⟩ := h
  rcases hown.2 with ⟨hv, h0⟩ | ⟨g', cap, cur, hv, hg, hh, _⟩
  · cases hv
  · cases hv; exact Lib.frozen_of_heap hh j
theorem NodeRow.at_ {w : World} {base : Nat} {p : Nat → Prop} {g n c : Nat} {ks : List Node} (h : NodeRow w base p (.slice (some ⟨g, 0, none⟩) n c) ks) {i : Nat} (hi : i < ks.length) : ∃ cs, NodeP w p ks[i] cs ∧ w.rangeAt g (i * 7) cs := by
  obtain ⟨css, hl, hc7, _, hin, hown⟩ := h.open_
  have hic : i < css.length := by omega
  refine ⟨css[i], hin i _ _ (List.getElem?_eq_getElem hi) (List.getElem?_eq_getElem hic), fun j v hv => ?_⟩
  have hj : j < 7 := by
    have := (List.getElem?_eq_some_iff.1 hv).1
    rw [hc7 _ (List.getElem_mem hic)] at this
    exact this
  have := hown.cells (g := g) rfl (i * 7 + j) v (by rw [flat_at hc7 (List.getElem?_eq_getElem hic) hj]; exact hv)
  rw [add_zero_block] at this
  exact this
end Go.Proofs.YtclhdppppgjgfaaGreatDoor
set_option linter.unusedVariables false
namespace Go.Proofs.YtclhdppppgjgfaaGreatDoor
open Go

section
variable {P : Program} {ops : Array Oper} {Q : Exit → Act → World → Prop} {md : Region.Mode} {S : World → Prop} {n : Nat}

/-- Whatever order is picked; behind each operation but the last the condition holds. -/
def wpAnyT (P : Program) (md : Region.Mode) (ops : Array Oper) (Q : Exit → Act → World → Prop) (S : World → Prop) (n : Nat) : Nat → Array Bool → Act → World → Prop
  | 0, listed, a, w => Region.ready md ops listed = [] ∧ Q .normal a w
  | fuel + 1, listed, a, w =>
    (Region.ready md ops listed = [] → Q .normal a w) ∧
    ∀ i ∈ Region.ready md ops listed, wpOp P ops Q i (fun a' w' => (i < n → S w') ∧ wpAnyT P md ops Q S n fuel (listed.setIfInBounds i true) a' w') a w
theorem wpAny_of_T : ∀ (fuel : Nat) (listed : Array Bool) (a : Act) (w : World), wpAnyT P md ops Q S n fuel listed a w → wpAny P md ops Q fuel listed a w
  | 0, _, _, _, h => h
  | fuel + 1, _, _, _, h => ⟨h.1, fun i hi => wpOp_mono (fun a' w' h' => wpAny_of_T fuel _ a' w' h'.2) (h.2 i hi)⟩
theorem wpAnyT_first {i : Nat} {oi : Oper} {v : Value} (hi : ops[i]? = some oi) (hsel : ∀ (j : Nat) (o : Oper) cs b, ops[j]? = some o → o.op ≠ .select cs b)
    (hQ : ∀ c a w, Q (.panic c) (a.put oi.dst v) w → Q (.panic c) a w)
    (hs : Region.sinkB md ops n = true) (hc : Region.chainB md ops n = true) (hn : n < ops.size) (hin : i < n) :
    ∀ (fuel : Nat) (listed : Array Bool) (a : Act) (w : World), HeadInv md ops n listed →
      (∀ j oj, ops[j]? = some oj → j ≠ i → listed.getD j true = false → (∀ e ∈ oj.after, Region.binds md e = true → e.on ≠ i) → oi.apart ops oj = true) →
      i ∈ Region.ready md ops listed → YieldsIf P ops S oi v a → S w →
      wpAnyT P md ops Q S n fuel (listed.setIfInBounds i true) (a.put oi.dst v) w → wpAnyT P md ops Q S n (fuel + 1) listed a w := by
  intro fuel
  induction fuel with
  | zero =>
    intro listed a w _ _ hr hy hS H
    refine ⟨fun h => (by rw [h] at hr; cases hr), fun j hj => ?_⟩
    by_cases hji : j = i
    · subst hji; exact hy.wpOp hi hS ⟨fun _ => hS, H⟩
    · have := ready_mono hj hji
      rw [H.1] at this
      cases this
  | succ fuel ih =>
    intro listed a w inv hfree hr hy hS H
    refine ⟨fun h => (by rw [h] at hr; cases hr), fun j hj => ?_⟩
    by_cases hji : j = i
    · subst hji; exact hy.wpOp hi hS ⟨fun _ => hS, H⟩
    · have hjn : j < n := by
        rcases Nat.lt_or_ge j n with h | h
        · exact h
        · exact absurd hj (tail_waits hs hc hn inv _ i rfl hin (mem_ready.1 hr).1 j h)
      have h1 := H.2 j (ready_mono hj hji)
      obtain ⟨hjun, oj, hoj, hall⟩ := mem_ready.1 hj
      have hnot : ∀ e ∈ oj.after, Region.binds md e = true → e.on ≠ i := fun e he hb heq => by
        have h1 := hall e he hb
        have h0 := (mem_ready.1 hr).1
        rw [heq] at h1
        rcases Nat.lt_or_ge i listed.size with h' | h'
        · simp [h'] at h0 h1; rw [h0] at h1; cases h1
        · simp [Array.getElem?_eq_none h'] at h1
      have h2 := wpOp_putIf hoj (hfree j oj hoj hji hjun hnot) (fun cs b => hsel i oi cs b hi) (fun cs b => hsel j oj cs b hoj) hQ hy h1
      have hfree' : ∀ k ok, ops[k]? = some ok → k ≠ i → (listed.setIfInBounds j true).getD k true = false →
          (∀ e ∈ ok.after, Region.binds md e = true → e.on ≠ i) → oi.apart ops ok = true := fun k ok hk hki hun hno => by
        refine hfree k ok hk hki ?_ hno
        by_cases hjk : j = k
        · subst hjk; exact hjun
        · rw [getD_set_ne true hjk] at hun; exact hun
      refine wpOp_mono (fun a' w' h3 => ⟨h3.2.1, ih (listed.setIfInBounds j true) a' w' (inv.set hj hjn) hfree' (ready_mono hr (Ne.symm hji)) h3.1 (h3.2.1 hjn) ?_⟩) h2
      rw [Array.setIfInBounds_comm _ _ hji]
      exact h3.2.2

/-- The moves. -/
def RegT (P : Program) (ops : Array Oper) (Q : Exit → Act → World → Prop) (S : World → Prop) (n fuel : Nat) (listed : Array Bool) (a : Act) (w : World) : Prop :=
  HeadInv .any ops n listed → wpAnyT P .any ops Q S n fuel listed a w
theorem headInv_start (hn : n < ops.size) : HeadInv md ops n (Array.replicate ops.size false) := by
  refine ⟨by simp, fun j oj _ h => ?_, fun t _ ht => ?_⟩
  · rw [getD_replicate_false] at h; cases h
  · simp [ht]
theorem regT_start {id : Nat} {a : Act} {w : World} (hm : P.follows .mixedOrders = true) (hn : n < ops.size) (hS : S w.drew)
    (h : S w.drew → RegT P ops Q S n ops.size (Array.replicate ops.size false) a w.drew) : (Code.region id ops true).wp P Q a w :=
  wp_region_any hm (wpAny_of_T _ _ _ _ (h hS (headInv_start hn)))
theorem regT_take {i : Nat} {oi : Oper} {v : Value} {fuel : Nat} {listed : Array Bool} {a : Act} {w : World} (hi : ops[i]? = some oi)
    (hs : Region.noSelect ops = true) (hb : (Region.sinkB .any ops n && Region.chainB .any ops n && decide (n < ops.size) && decide (i < n)) = true) (hf : Region.free .any ops listed i = true) (hr : (Region.ready .any ops listed).contains i = true)
    (hQ : ∀ c a w, Q (.panic c) (a.put oi.dst v) w → Q (.panic c) a w) (hy : YieldsIf P ops S oi v a) (hS : S w)
    (h : RegT P ops Q S n fuel (listed.setIfInBounds i true) (a.put oi.dst v) w) : RegT P ops Q S n (fuel + 1) listed a w := by
  simp only [Bool.and_eq_true, decide_eq_true_eq] at hb
  intro inv
  have hr' : i ∈ Region.ready .any ops listed := by simpa using hr
  exact wpAnyT_first hi (Region.noSelect_spec hs) hQ hb.1.1.1 hb.1.1.2 hb.1.2 hb.2 fuel listed a w inv (Region.free_spec hi hf) hr' hy hS (h (inv.set hr' hb.2))
theorem regT_all {rs : List Nat} {fuel : Nat} {listed : Array Bool} {a : Act} {w : World} (hr : Region.ready .any ops listed = rs) (hne : rs ≠ []) (hlt : rs.all (fun i => decide (i < n)) = true)
    (h : ∀ i ∈ rs, wpOp P ops Q i (fun a' w' => S w' ∧ RegT P ops Q S n fuel (listed.setIfInBounds i true) a' w') a w) : RegT P ops Q S n (fuel + 1) listed a w := by
  intro inv
  refine ⟨fun h0 => absurd (hr ▸ h0) hne, fun i hi => ?_⟩
  have hi' : i ∈ rs := hr ▸ hi
  have hin : i < n := by simpa using List.all_eq_true.1 hlt i hi'
  exact wpOp_mono (fun a' w' h' => ⟨fun _ => h'.1, h'.2 (inv.set hi hin)⟩) (h i hi')
theorem regT_last {fuel : Nat} {listed : Array Bool} {a : Act} {w : World} (hr : Region.ready .any ops listed = [n]) (hr2 : Region.ready .any ops (listed.setIfInBounds n true) = [])
    (h : wpOp P ops Q n (Q .normal) a w) : RegT P ops Q S n (fuel + 1) listed a w := by
  intro _
  refine ⟨fun h0 => (by rw [hr] at h0; cases h0), fun i hi => ?_⟩
  rw [hr] at hi
  obtain rfl : i = n := by simpa using hi
  refine wpOp_mono (fun a' w' h' => ⟨fun h0 => absurd h0 (Nat.lt_irrefl _), ?_⟩) h
  cases fuel with
  | zero => exact ⟨hr2, h'⟩
  | succ f => exact ⟨fun _ => h', by rw [hr2]; simp⟩
/-- One operation of the region, its continuation behind a letter. -/
theorem regT_op {i : Nat} {o : Oper} {K : Act → World → Prop} {a : Act} {w : World} (ho : ops[i]? = some o)
    (h : ∀ K' : Act → World → Prop, Shut (∀ a w, K a w → K' a w) → if Region.wanted o (yielded ops a.tmps) = true then Oper.wp P o a w K' Q else K' (a.put o.dst undef) w) : wpOp P ops Q i K a w := by
  unfold wpOp
  simp only [ho]
  have := h K (fun _ _ h => h)
  split
  · rename_i hw; rw [if_pos hw] at this; exact .inl this
  · rename_i hw; rw [if_neg hw] at this; exact this
end
end Go.Proofs.YtclhdppppgjgfaaGreatDoor
set_option linter.unusedVariables false
set_option linter.unusedSimpArgs false
namespace Go.Proofs.YtclhdppppgjgfaaGreatDoor
open Go.RowKit

theorem eval_put_same {a : Act} {s : Nat} {v : Value} (h : s < a.tmps.size) : (a.put (some s) v).eval (.tmp s) = v := by simp [Act.put, Act.eval, h]
theorem eval_put_ne {a : Act} {s t : Nat} {v : Value} (h : s ≠ t) : (a.put (some s) v).eval (.tmp t) = a.eval (.tmp t) :=
  Act.eval_put fun d hd => by cases hd; intro e; cases e; exact h rfl
theorem eval_tmp {a : Act} {s : Nat} {v : Value} (h : a.eval (.tmp s) = v) : a.tmps[s]?.getD undef = v := by simpa [Act.eval] using h
theorem size_put {a : Act} {d : Option Nat} {v : Value} : (a.put d v).tmps.size = a.tmps.size := by cases d <;> simp [Act.put]

set_option maxHeartbeats 1000000 in
theorem region_app2 {ops : Array Oper} {Q : Exit → Act → World → Prop} {n : Nat} {B : Nat} {V : World} {L0 : Array Bool} {a : Act} {w : World}
    (iE iA1 iK iA2 iF : Nat) {sE sL sA1 sN sK sA2 sF : Nat} {t1 t2 t3 t4 t5 t6 : TypeId} {p1 p2 p3 p4 p5 p6 : String} {x1 x2 x3 x4 x5 x6 : Array Edge}
    (oE : ops[iE]? = some ⟨some sE, .buildSlice 24 0 #[], t1, p1, x1, none⟩)
    (oA1 : ops[iA1]? = some ⟨some sA1, .call { callee := .builtin .append, args := #[.tmp sE, .tmp sL], argTypes := #[24, 24] }, t2, p2, x2, none⟩)
    (oK : ops[iK]? = some ⟨some sK, .buildSlice 24 1 #[(0, .tmp sN)], t3, p3, x3, none⟩)
    (oA2 : ops[iA2]? = some ⟨some sA2, .call { callee := .builtin .append, args := #[.tmp sA1, .tmp sK], argTypes := #[24, 24] }, t4, p4, x4, none⟩)
    (oF : ops[iF]? = some ⟨some sF, .fieldAddr 26 (.tmp 8) 4, t5, p5, x5, none⟩)
    (oS : ops[n]? = some ⟨none, .store 24 (.tmp sF) (.tmp sA2), t6, p6, x6, none⟩)
    (hlt : ([iE, iA1, iK, iA2, iF].all (fun i => decide (i < n)) && decide ([sE, sL, sA1, sN, sK, sA2, sF, 8].Nodup) && decide (sE < a.tmps.size) && decide (sA1 < a.tmps.size) && decide (sK < a.tmps.size) && decide (sA2 < a.tmps.size) && decide (sF < a.tmps.size)) = true)
    (hne : iE ≠ iK ∧ iE ≠ iA1 ∧ iK ≠ iA1)
    (r0 : Region.ready .any ops L0 = [iE, iK])
    (r1 : Region.ready .any ops (L0.setIfInBounds iE true) = [iA1, iK])
    (r2 : Region.ready .any ops ((L0.setIfInBounds iE true).setIfInBounds iA1 true) = [iK])
    (r3 : Region.ready .any ops ((L0.setIfInBounds iE true).setIfInBounds iK true) = [iA1])
    (r4 : Region.ready .any ops (L0.setIfInBounds iK true) = [iE])
    (r5 : Region.ready .any ops (((L0.setIfInBounds iE true).setIfInBounds iK true).setIfInBounds iA1 true) = [iA2])
    (r6 : Region.ready .any ops ((((L0.setIfInBounds iE true).setIfInBounds iK true).setIfInBounds iA1 true).setIfInBounds iA2 true) = [iF])
    (r7 : Region.ready .any ops (((((L0.setIfInBounds iE true).setIfInBounds iK true).setIfInBounds iA1 true).setIfInBounds iA2 true).setIfInBounds iF true) = [n])
    (r8 : Region.ready .any ops ((((((L0.setIfInBounds iE true).setIfInBounds iK true).setIfInBounds iA1 true).setIfInBounds iA2 true).setIfInBounds iF true).setIfInBounds n true) = [])
    (base : Nat) (p : Nat → Prop) (KA : Option Addr) (kc : Nat) (ks : List Node) (k : Node) (c0 c1 c2 c3 c4 c5 c6 : Value) (nb : Nat)
    (hL : a.eval (.tmp sL) = .slice KA ks.length kc) (hN : a.eval (.tmp sN) = .agg #[c0, c1, c2, c3, c4, c5, c6]) (h8 : a.eval (.tmp 8) = .pointer (some ⟨nb, 0, none⟩))
    (hS : Below B V w) (hBV : B = V.heap.size) (hbase : base ≤ B) (hks : ks.length < 1000000000)
    (hp : ∀ b, p b → b < B)
    (HCL : ∀ W, Below B V W → NodeRow W base p (.slice KA ks.length kc) ks ∧ NodeP W p k [c0, c1, c2, c3, c4, c5, c6] ∧ W.cell? ⟨nb, 4, none⟩ = some (.slice KA ks.length kc) ∧ W.frozen? ⟨nb, 4, none⟩ = false)
    (hQ : ∀ (eb kb2 : Nat) (v1 : Value) (g' c' : Nat) (w2 : World), B ≤ g' → NodeRow w2 base p (.slice (some ⟨g', 0, none⟩) (ks.length + 1) c') (ks ++ [k]) → Below B V w2 →
      Q .normal (((((a.put (some sE) (.slice (some ⟨eb, 0, none⟩) 0 0)).put (some sK) (.slice (some ⟨kb2, 0, none⟩) 1 1)).put (some sA1) v1).put (some sA2) (.slice (some ⟨g', 0, none⟩) (ks.length + 1) c')).put (some sF) (.pointer (some ⟨nb, 4, none⟩))) (w2.setCell ⟨nb, 4, none⟩ (.slice (some ⟨g', 0, none⟩) (ks.length + 1) c'))) :
    RegT Tryz.prog ops Q (fun x => Below B V x) n 6 L0 a w := by
  simp only [Bool.and_eq_true, decide_eq_true_eq, List.all_cons, List.all_nil, List.nodup_cons, List.mem_cons, List.not_mem_nil, or_false, not_or, Bool.and_true] at hlt
  obtain ⟨⟨⟨⟨⟨⟨⟨lE, lA1, lK, lA2, lF⟩, ⟨dEL, dEA1, dEN, dEK, dEA2, dEF, dE8⟩, ⟨dLA1, dLN, dLK, dLA2, dLF, dL8⟩, ⟨dA1N, dA1K, dA1A2, dA1F, dA18⟩, ⟨dNK, dNA2, dNF, dN8⟩, ⟨dKA2, dKF, dK8⟩, ⟨dA2F, dA28⟩, dF8, _⟩, zE⟩, zA1⟩, zK⟩, zA2⟩, zF⟩ := hlt
  have M2 : ∀ (eb kb2 : Nat) (v1 : Value) (W : World), Below B V W → NodeRow W base p v1 ks → (∀ b, v1.ownBlock = some b → B ≤ b) → W.rangeAt kb2 0 [c0, c1, c2, c3, c4, c5, c6] →
      RegT Tryz.prog ops Q (fun x => Below B V x) n 3 (((L0.setIfInBounds iE true).setIfInBounds iK true).setIfInBounds iA1 true) (((a.put (some sE) (.slice (some ⟨eb, 0, none⟩) 0 0)).put (some sK) (.slice (some ⟨kb2, 0, none⟩) 1 1)).put (some sA1) v1) W := by
    intro eb kb2 v1 W hB r1 u4 hK2
    have hz := hB.size
    refine regT_all r5 (by simp) (by simp [lA2]) ?_
    intro i hi
    obtain rfl : i = iA2 := by simpa using hi
    refine regT_op oA2 (fun K' hK => ?_)
    refine nodes_one_step (by rfl) (.tmp sA1) (.tmp sK) (by rfl) W base p v1 ks (by rw [eval_put_same (by simpa [size_put] using zA1)]) r1 k [c0, c1, c2, c3, c4, c5, c6] kb2 (by rw [eval_put_ne (Ne.symm (Ne.symm dA1K)), eval_put_same (by simpa [size_put] using zK)]) hK2 (HCL _ hB).2.1 (fun b hb e => by have := hp b hb; have := u4 b e; omega) (fun b hb => by have := hp b hb; omega) (by omega) (by omega) ?_
    intro g' c' w2 z1 z2 z3 z4
    have s2 : Below B V w2 := grew_below hB z2 u4 (by omega)
    have hg8 : B ≤ g' := by
      rcases z4 with e | e
      · exact u4 _ e
      · omega
    refine hK.out _ _ ⟨s2, ?_⟩
    clear hK
    refine regT_all r6 (by simp) (by simp [lF]) ?_
    intro i hi
    obtain rfl : i = iF := by simpa using hi
    refine regT_op oF (fun K' hK => ?_)
    have e8 : (((((a.put (some sE) (.slice (some ⟨eb, 0, none⟩) 0 0)).put (some sK) (.slice (some ⟨kb2, 0, none⟩) 1 1)).put (some sA1) v1).put (some sA2) (.slice (some ⟨g', 0, none⟩) (ks.length + 1) c'))).eval (.tmp 8) = .pointer (some ⟨nb, 0, none⟩) := by
      rw [eval_put_ne dA28, eval_put_ne dA18, eval_put_ne dK8, eval_put_ne dE8, h8]
    have eA2 : (((((a.put (some sE) (.slice (some ⟨eb, 0, none⟩) 0 0)).put (some sK) (.slice (some ⟨kb2, 0, none⟩) 1 1)).put (some sA1) v1).put (some sA2) (.slice (some ⟨g', 0, none⟩) (ks.length + 1) c')).put (some sF) (.pointer (some ⟨nb, 4, none⟩))).eval (.tmp sA2) = .slice (some ⟨g', 0, none⟩) (ks.length + 1) c' := by
      rw [eval_put_ne (Ne.symm dA2F), eval_put_same (by simpa [size_put] using zA2)]
    have eF : (((((a.put (some sE) (.slice (some ⟨eb, 0, none⟩) 0 0)).put (some sK) (.slice (some ⟨kb2, 0, none⟩) 1 1)).put (some sA1) v1).put (some sA2) (.slice (some ⟨g', 0, none⟩) (ks.length + 1) c')).put (some sF) (.pointer (some ⟨nb, 4, none⟩))).eval (.tmp sF) = .pointer (some ⟨nb, 4, none⟩) := eval_put_same (by simpa [size_put] using zF)
    have hq := hQ eb kb2 v1 g' c' w2 hg8 z1 s2
    have e4 := (HCL _ s2).2.2.1
    have e5 := (HCL _ s2).2.2.2
    generalize ((((a.put (some sE) (.slice (some ⟨eb, 0, none⟩) 0 0)).put (some sK) (.slice (some ⟨kb2, 0, none⟩) 1 1)).put (some sA1) v1).put (some sA2) (.slice (some ⟨g', 0, none⟩) (ks.length + 1) c')) = a4 at *
    have e8' := eval_tmp e8
    have HQ := Lib.hid hq
    have ES := Lib.hid s2
    clear hq hQ HCL z1 z2 z3 z4 hB r1 s2 hS hp
    go_simp
    refine hK.out _ _ ⟨ES.out, ?_⟩
    clear hK
    change RegT _ _ _ _ _ _ _ (a4.put (some sF) (.pointer (some ⟨nb, 4, none⟩))) _
    refine regT_last r7 r8 ?_
    refine regT_op oS (fun K' hK => ?_)
    generalize a4.put (some sF) (.pointer (some ⟨nb, 4, none⟩)) = a5 at *
    have e2' := eval_tmp eA2
    have eF' := eval_tmp eF
    go_simp
    exact hK.out _ _ HQ.out
  have ERow : ∀ (W : World) (eb : Nat), B ≤ eb → W.heap[eb]? = some (.cells #[] 26 (0, 0)) → NodeRow W base p (.slice (some ⟨eb, 0, none⟩) 0 0) [] := fun W eb h1 h2 => rowE h2 (by omega)
  have M1 : ∀ (eb kb2 : Nat) (W : World), Below B V W → W.heap[eb]? = some (.cells #[] 26 (0, 0)) → B ≤ eb → W.rangeAt kb2 0 [c0, c1, c2, c3, c4, c5, c6] → kb2 ≠ eb → kb2 < W.heap.size →
      RegT Tryz.prog ops Q (fun x => Below B V x) n 4 ((L0.setIfInBounds iE true).setIfInBounds iK true) ((a.put (some sE) (.slice (some ⟨eb, 0, none⟩) 0 0)).put (some sK) (.slice (some ⟨kb2, 0, none⟩) 1 1)) W := by
    intro eb kb2 W hB hE hEb hK2 hne2 hlt2
    have hz := hB.size
    refine regT_all r3 (by simp) (by simp [lA1]) ?_
    intro i hi
    obtain rfl : i = iA1 := by simpa using hi
    refine regT_op oA1 (fun K' hK => ?_)
    refine nodes_all_step (by rfl) (.tmp sE) (.tmp sL) (by rfl) _ base p _ [] (by rw [eval_put_ne (Ne.symm dEK), eval_put_same (by simpa [size_put] using zE)]) (ERow W eb hEb hE) KA kc ks base (by rw [eval_put_ne (Ne.symm dLK), eval_put_ne dEL, hL]) (HCL _ hB).1 (fun b hb => by have := hp b hb; simp [Value.ownBlock]; omega) (fun b hb => by have := hp b hb; omega) (by omega) (by simp; omega) ?_
    intro v1 w1 q1 q2 q3 q4
    have s1 : Below B V w1 := grew_below hB q2 (fun b hb => by simp [Value.ownBlock] at hb; omega) (by omega)
    have hz1 := s1.size
    rw [List.nil_append] at q1
    refine hK.out _ _ ⟨s1, ?_⟩
    refine M2 eb kb2 v1 w1 s1 q1 (fun b hb => ?_) (rangeAt_keep hK2 (q2.grown.block kb2 hlt2 (by simp [Value.ownBlock]; omega)))
    rcases q4 with e | e <;> (rw [e] at hb; simp [Value.ownBlock] at hb; omega)
  have hBw : B ≤ w.heap.size := by rw [hBV]; exact hS.size
  refine regT_all r0 (by simp) (by simp [lE, lK]) ?_
  intro i hi
  have hi' : i = iE ∨ i = iK := by simpa using hi
  clear hi
  have HQ := Lib.hid hQ
  have HC := Lib.hid HCL
  have HM1 := Lib.hid M1
  have HM2 := Lib.hid M2
  clear hQ HCL M1 M2
  rcases hi' with rfl | rfl
  · refine regT_op oE (fun K' hK => ?_)
    go_simp
    refine hK.out _ _ ⟨hS.alloc hBw _, ?_⟩
    clear hK
    change RegT _ _ _ _ _ _ _ (a.put (some sE) (.slice (some ⟨w.heap.size, 0, none⟩) 0 0)) _
    have hB := hS.alloc hBw (.cells #[] 26)
    have hE : (w.alloc (.cells #[] 26)).heap[w.heap.size]? = some (.cells #[] 26 (0, 0)) := heap_alloc_new w _
    have hZ : w.heap.size < (w.alloc (.cells #[] 26)).heap.size := by simp
    generalize w.alloc (.cells #[] 26) = W at *
    generalize w.heap.size = eb at *
    have hz := hB.size
    refine regT_all r1 (by simp) (by simp [lA1, lK]) ?_
    intro i hi
    have hi' : i = iA1 ∨ i = iK := by simpa using hi
    clear hi
    rcases hi' with rfl | rfl
    · refine regT_op oA1 (fun K' hK => ?_)
      refine nodes_all_step (by rfl) (.tmp sE) (.tmp sL) (by rfl) _ base p _ [] (by rw [eval_put_same zE]) (ERow W eb hBw hE) KA kc ks base (by rw [eval_put_ne dEL, hL]) (HC.out _ hB).1 (fun b hb => by have := hp b hb; simp [Value.ownBlock]; omega) (fun b hb => by have := hp b hb; omega) (by omega) (by simp; omega) ?_
      intro v1 w1 q1 q2 q3 q4
      have s1 : Below B V w1 := grew_below hB q2 (fun b hb => by simp [Value.ownBlock] at hb; omega) (by omega)
      have hz1 := s1.size
      rw [List.nil_append] at q1
      have u4 : ∀ b, v1.ownBlock = some b → B ≤ b := by
        intro b hb
        rcases q4 with e | e <;> (rw [e] at hb; simp [Value.ownBlock] at hb; omega)
      refine hK.out _ _ ⟨s1, ?_⟩
      clear hK
      refine regT_all r2 (by simp) (by simp [lK]) ?_
      intro i hi
      obtain rfl : i = iK := by simpa using hi
      refine regT_op oK (fun K' hK => ?_)
      have hN' := eval_tmp (a := (a.put (some sE) (.slice (some ⟨eb, 0, none⟩) 0 0)).put (some sA1) v1) (by rw [eval_put_ne dA1N, eval_put_ne dEN, hN])
      have hZZ := HM2.out eb w1.heap.size v1 (w1.alloc (.cells #[c0, c1, c2, c3, c4, c5, c6] 26)) (s1.alloc (by omega) _) (q1.below ((Below.refl _ _).alloc (Nat.le_refl _) _) (fun b hb => by have := hp b hb; omega)) u4 (range_at (heap_alloc_new _ _))
      rw [Act.put_comm _ _ _ (fun d hd e => by cases hd; cases e; exact dA1K rfl), Array.setIfInBounds_comm _ _ hne.2.2] at hZZ
      have HZ := Lib.hid hZZ
      generalize (a.put (some sE) (.slice (some ⟨eb, 0, none⟩) 0 0)).put (some sA1) v1 = a4 at *
      go_simp
      refine hK.out _ _ ⟨s1.alloc (by omega) _, HZ.out⟩
    · refine regT_op oK (fun K' hK => ?_)
      have hN' := eval_tmp (a := a.put (some sE) (.slice (some ⟨eb, 0, none⟩) 0 0)) (by rw [eval_put_ne dEN, hN])
      have hZZ := HM1.out eb W.heap.size (W.alloc (.cells #[c0, c1, c2, c3, c4, c5, c6] 26)) (hB.alloc (by omega) _) (alloc_old hE) hBw (range_at (heap_alloc_new _ _)) (by omega) (by simp)
      have HZ := Lib.hid hZZ
      generalize a.put (some sE) (.slice (some ⟨eb, 0, none⟩) 0 0) = a4 at *
      go_simp
      refine hK.out _ _ ⟨hB.alloc (by omega) _, HZ.out⟩
  · refine regT_op oK (fun K' hK => ?_)
    have hN' := eval_tmp hN
    go_simp
    refine hK.out _ _ ⟨hS.alloc hBw _, ?_⟩
    clear hK
    change RegT _ _ _ _ _ _ _ (a.put (some sK) (.slice (some ⟨w.heap.size, 0, none⟩) 1 1)) _
    have hB := hS.alloc hBw (.cells #[c0, c1, c2, c3, c4, c5, c6] 26)
    have hK1 : (w.alloc (.cells #[c0, c1, c2, c3, c4, c5, c6] 26)).rangeAt w.heap.size 0 [c0, c1, c2, c3, c4, c5, c6] := range_at (heap_alloc_new w _)
    have hZ : w.heap.size < (w.alloc (.cells #[c0, c1, c2, c3, c4, c5, c6] 26)).heap.size := by simp
    generalize w.alloc (.cells #[c0, c1, c2, c3, c4, c5, c6] 26) = W at *
    generalize w.heap.size = kb at *
    have hz := hB.size
    refine regT_all r4 (by simp) (by simp [lE]) ?_
    intro i hi
    obtain rfl : i = iE := by simpa using hi
    refine regT_op oE (fun K' hK => ?_)
    have hZZ := HM1.out W.heap.size kb (W.alloc (.cells #[] 26)) (hB.alloc (by omega) _) (alloc_at rfl) (by omega) (rangeAt_keep hK1 (Below.heap_alloc _ _ _ (by omega))) (by omega) (by simp; omega)
    rw [Act.put_comm _ _ _ (fun d hd e => by cases hd; cases e; exact dEK rfl), Array.setIfInBounds_comm _ _ hne.1] at hZZ
    have HZ := Lib.hid hZZ
    generalize a.put (some sK) (.slice (some ⟨kb, 0, none⟩) 1 1) = a4 at *
    go_simp
    refine hK.out _ _ ⟨hB.alloc (by omega) _, HZ.out⟩
end Go.Proofs.YtclhdppppgjgfaaGreatDoor
set_option linter.unusedVariables false
set_option linter.unusedSimpArgs false
namespace Go.Proofs.YtclhdppppgjgfaaGreatDoor
open Go.RowKit

/-- What is asked of the region's edges. -/
def att6Ok (ops : Array Oper) : Bool :=
  let L0 := Array.replicate 13 false
  let L1 := L0.setIfInBounds 0 true
  let L2 := L1.setIfInBounds 1 true
  let L3 := L2.setIfInBounds 2 true
  let L4 := L3.setIfInBounds 3 true
  let L5 := L4.setIfInBounds 4 true
  let L6 := L5.setIfInBounds 5 true
  let L7 := L6.setIfInBounds 6 true
  let L8 := L7.setIfInBounds 7 true
  let L9 := L8.setIfInBounds 8 true
  let L10 := L9.setIfInBounds 9 true
  let L11 := L10.setIfInBounds 10 true
  let L12 := L11.setIfInBounds 11 true
  Region.noSelect ops && decide (ops.size = 13) && Region.sinkB .any ops 12 && Region.chainB .any ops 12 && (Region.free .any ops L0 0 && (Region.ready .any ops L0).contains 0) && (Region.free .any ops L1 1 && (Region.ready .any ops L1).contains 1) && (Region.free .any ops L2 2 && (Region.ready .any ops L2).contains 2) && (Region.free .any ops L3 3 && (Region.ready .any ops L3).contains 3) && (Region.free .any ops L4 4 && (Region.ready .any ops L4).contains 4) && (Region.free .any ops L5 5 && (Region.ready .any ops L5).contains 5) && (Region.free .any ops L6 6 && (Region.ready .any ops L6).contains 6) && (Region.ready .any ops L7 == [7]) && (Region.ready .any ops L8 == [8]) && (Region.free .any ops L9 9 && (Region.ready .any ops L9).contains 9) && (Region.free .any ops L10 10 && (Region.ready .any ops L10).contains 10) && (Region.free .any ops L11 11 && (Region.ready .any ops L11).contains 11) && (Region.ready .any ops L12 == [12]) && (Region.ready .any ops (L12.setIfInBounds 12 true) == [])

set_option maxHeartbeats 1000000 in
theorem region_att6 {id : Nat} {ops : Array Oper} {Q : Exit → Act → World → Prop} {a : Act} {w : World} {t0 t1 t2 t3 t4 t5 t6 t7 t8 t9 t10 t11 t12 : TypeId} {p0 p1 p2 p3 p4 p5 p6 p7 p8 p9 p10 p11 p12 : String} {x0 x1 x2 x3 x4 x5 x6 x7 x8 x9 x10 x11 x12 : Array Edge}
    (o0 : ops[0]? = some ⟨some 173, .move (.tmp 0), t0, p0, x0, none⟩)
    (o1 : ops[1]? = some ⟨some 174, .move (.tmp 0), t1, p1, x1, none⟩)
    (o2 : ops[2]? = some ⟨some 175, .nilCheck (.tmp 174), t2, p2, x2, none⟩)
    (o3 : ops[3]? = some ⟨some 176, .fieldAddr 121 (.tmp 175) 1, t3, p3, x3, none⟩)
    (o4 : ops[4]? = some ⟨some 177, .fieldAddr 54 (.tmp 176) 2, t4, p4, x4, none⟩)
    (o5 : ops[5]? = some ⟨some 178, .load 23 (.tmp 177), t5, p5, x5, none⟩)
    (o6 : ops[6]? = some ⟨some 179, .load 39 (.tmp 3), t6, p6, x6, none⟩)
    (o7 : ops[7]? = some ⟨some 180, .buildSlice 23 1 #[(0, .tmp 179)], t7, p7, x7, none⟩)
    (o8 : ops[8]? = some ⟨some 181, .call { callee := .builtin .append, args := #[.tmp 178, .tmp 180], argTypes := #[23, 23] }, t8, p8, x8, none⟩)
    (o9 : ops[9]? = some ⟨some 182, .nilCheck (.tmp 173), t9, p9, x9, none⟩)
    (o10 : ops[10]? = some ⟨some 183, .fieldAddr 121 (.tmp 182) 1, t10, p10, x10, none⟩)
    (o11 : ops[11]? = some ⟨some 184, .fieldAddr 54 (.tmp 183) 2, t11, p11, x11, none⟩)
    (o12 : ops[12]? = some ⟨none, .store 23 (.tmp 184) (.tmp 181), t12, p12, x12, none⟩)
    (hck : att6Ok ops = true) (hsz : a.tmps.size = 185)
    (hQp : ∀ s v c a w, Q (.panic c) (a.put (some s) v) w → Q (.panic c) a w)
    (g h : Nat) (A : Option Addr) (bs : List Att) (c : Nat) (t : Att) (cur : Array Value) (ty : TypeId)
    (h0 : a.eval (.tmp 0) = .pointer (some ⟨g, 0, none⟩)) (h3 : a.eval (.tmp 3) = .pointer (some ⟨h, 0, none⟩))
    (hg : w.heap[g]? = some (.cells cur ty (0, 0))) (hcur : cur[3]? = some (.slice A bs.length c)) (hh : w.heap[h]? = some (.cells (attCells t).toArray 39 (0, 0))) (hgh : g < h)
    (hrow : AttRow w (g + 1) (.slice A bs.length c) bs) (hown : (Value.slice A bs.length c).ownBlock ≠ some h) (hl : bs.length ≤ 1000000000)
    (hQ : ∀ (bb g' c' : Nat) (W : World), AttRow W (g + 1) (.slice (some ⟨g', 0, none⟩) (bs.length + 1) c') (bs ++ [t]) → Grew w (.slice A bs.length c) (.slice (some ⟨g', 0, none⟩) (bs.length + 1) c') W → Below (g + 1) w W → W.heap[g]? = some (.cells cur ty (0, 0)) →
      Q .normal ((((((((((((a.put (some 173) (.pointer (some ⟨g, 0, none⟩))).put (some 174) (.pointer (some ⟨g, 0, none⟩))).put (some 175) (.pointer (some ⟨g, 0, none⟩))).put (some 176) (.pointer (some ⟨g, 1, none⟩))).put (some 177) (.pointer (some ⟨g, 3, none⟩))).put (some 178) (.slice A bs.length c)).put (some 179) (.agg #[.string (S t.space), .string (S t.name), .string (S t.value), .int .i64 t.pos])).put (some 180) (.slice (some ⟨bb, 0, none⟩) 1 1)).put (some 181) (.slice (some ⟨g', 0, none⟩) (bs.length + 1) c')).put (some 182) (.pointer (some ⟨g, 0, none⟩))).put (some 183) (.pointer (some ⟨g, 1, none⟩))).put (some 184) (.pointer (some ⟨g, 3, none⟩))) (W.setCell ⟨g, 3, none⟩ (.slice (some ⟨g', 0, none⟩) (bs.length + 1) c'))) :
    (Code.region id ops true).wp Tryz.prog Q a w := by
  unfold att6Ok at hck
  simp only [Bool.and_eq_true, decide_eq_true_eq, beq_iff_eq] at hck
  obtain ⟨⟨⟨⟨⟨⟨⟨⟨⟨⟨⟨⟨⟨⟨⟨⟨⟨ns, hz⟩, hsi⟩, hch⟩, f0⟩, f1⟩, f2⟩, f3⟩, f4⟩, f5⟩, f6⟩, r7⟩, r8⟩, f9⟩, f10⟩, f11⟩, r12⟩, rE⟩ := hck
  have hgl := heap_lt hg
  have hhl := heap_lt hh
  have hS0 : w.drew.cell? ⟨g, 3, none⟩ = some (.slice A bs.length c) ∧ w.drew.rangeAt h 0 (attCells t) := ⟨by rw [World.cell?_drew, Lib.cell_of_heap hg]; exact hcur, range_of_heap (w := w.drew) hh⟩
  have hsc : ∀ i, i < 12 → (Region.sinkB .any ops 12 && Region.chainB .any ops 12 && decide (12 < ops.size) && decide (i < 12)) = true := fun i hi => by rw [hsi, hch, hz]; simp; exact hi
  refine regT_start (n := 12) (S := fun x => x.cell? ⟨g, 3, none⟩ = some (.slice A bs.length c) ∧ x.rangeAt h 0 (attCells t)) (by kernel_rfl) (by rw [hz]; decide) hS0 ?_
  intro _
  rw [hz]
  have q0 := h0
  have q3 := h3
  refine regT_take (i := 0) (v := .pointer (some ⟨g, 0, none⟩)) o0 ns (hsc 0 (by decide)) f0.1 f0.2 (fun _ _ _ h => hQp _ _ _ _ _ h) (.inl ⟨by simp [Region.wanted], fun x hx => ?_⟩) hS0 ?_
  · have h' := eval_tmp q0
    clear hQ hsz
    go_simp
  obtain ⟨a1, ea1⟩ : ∃ z, a.put (some 173) (.pointer (some ⟨g, 0, none⟩)) = z := ⟨_, rfl⟩
  have q0 : a1.eval (.tmp 0) = .pointer (some ⟨g, 0, none⟩) := by rw [← ea1, eval_put_ne (by decide), q0]
  have q3 : a1.eval (.tmp 3) = .pointer (some ⟨h, 0, none⟩) := by rw [← ea1, eval_put_ne (by decide), q3]
  have q173 : a1.eval (.tmp 173) = .pointer (some ⟨g, 0, none⟩) := by rw [← ea1, eval_put_same (by rw [hsz]; decide)]
  have hsz : a1.tmps.size = 185 := by rw [← ea1, size_put, hsz]
  rw [ea1] at hQ ⊢
  refine regT_take (i := 1) (v := .pointer (some ⟨g, 0, none⟩)) o1 ns (hsc 1 (by decide)) f1.1 f1.2 (fun _ _ _ h => hQp _ _ _ _ _ h) (.inl ⟨by simp [Region.wanted], fun x hx => ?_⟩) hS0 ?_
  · have h' := eval_tmp q0
    clear hQ hsz
    go_simp
  obtain ⟨a2, ea2⟩ : ∃ z, a1.put (some 174) (.pointer (some ⟨g, 0, none⟩)) = z := ⟨_, rfl⟩
  have q3 : a2.eval (.tmp 3) = .pointer (some ⟨h, 0, none⟩) := by rw [← ea2, eval_put_ne (by decide), q3]
  have q173 : a2.eval (.tmp 173) = .pointer (some ⟨g, 0, none⟩) := by rw [← ea2, eval_put_ne (by decide), q173]
  have q174 : a2.eval (.tmp 174) = .pointer (some ⟨g, 0, none⟩) := by rw [← ea2, eval_put_same (by rw [hsz]; decide)]
  have hsz : a2.tmps.size = 185 := by rw [← ea2, size_put, hsz]
  rw [ea2] at hQ ⊢
  refine regT_take (i := 2) (v := .pointer (some ⟨g, 0, none⟩)) o2 ns (hsc 2 (by decide)) f2.1 f2.2 (fun _ _ _ h => hQp _ _ _ _ _ h) (.inl ⟨by simp [Region.wanted], fun x hx => ?_⟩) hS0 ?_
  · have h' := eval_tmp q174
    clear hQ hsz
    go_simp
  obtain ⟨a3, ea3⟩ : ∃ z, a2.put (some 175) (.pointer (some ⟨g, 0, none⟩)) = z := ⟨_, rfl⟩
  have q3 : a3.eval (.tmp 3) = .pointer (some ⟨h, 0, none⟩) := by rw [← ea3, eval_put_ne (by decide), q3]
  have q173 : a3.eval (.tmp 173) = .pointer (some ⟨g, 0, none⟩) := by rw [← ea3, eval_put_ne (by decide), q173]
  have q175 : a3.eval (.tmp 175) = .pointer (some ⟨g, 0, none⟩) := by rw [← ea3, eval_put_same (by rw [hsz]; decide)]
  have hsz : a3.tmps.size = 185 := by rw [← ea3, size_put, hsz]
  rw [ea3] at hQ ⊢
  refine regT_take (i := 3) (v := .pointer (some ⟨g, 1, none⟩)) o3 ns (hsc 3 (by decide)) f3.1 f3.2 (fun _ _ _ h => hQp _ _ _ _ _ h) (.inl ⟨by simp [Region.wanted], fun x hx => ?_⟩) hS0 ?_
  · have h' := eval_tmp q175
    clear hQ hsz
    go_simp
  obtain ⟨a4, ea4⟩ : ∃ z, a3.put (some 176) (.pointer (some ⟨g, 1, none⟩)) = z := ⟨_, rfl⟩
  have q3 : a4.eval (.tmp 3) = .pointer (some ⟨h, 0, none⟩) := by rw [← ea4, eval_put_ne (by decide), q3]
  have q173 : a4.eval (.tmp 173) = .pointer (some ⟨g, 0, none⟩) := by rw [← ea4, eval_put_ne (by decide), q173]
  have q176 : a4.eval (.tmp 176) = .pointer (some ⟨g, 1, none⟩) := by rw [← ea4, eval_put_same (by rw [hsz]; decide)]
  have hsz : a4.tmps.size = 185 := by rw [← ea4, size_put, hsz]
  rw [ea4] at hQ ⊢
  refine regT_take (i := 4) (v := .pointer (some ⟨g, 3, none⟩)) o4 ns (hsc 4 (by decide)) f4.1 f4.2 (fun _ _ _ h => hQp _ _ _ _ _ h) (.inl ⟨by simp [Region.wanted], fun x hx => ?_⟩) hS0 ?_
  · have h' := eval_tmp q176
    clear hQ hsz
    go_simp
  obtain ⟨a5, ea5⟩ : ∃ z, a4.put (some 177) (.pointer (some ⟨g, 3, none⟩)) = z := ⟨_, rfl⟩
  have q3 : a5.eval (.tmp 3) = .pointer (some ⟨h, 0, none⟩) := by rw [← ea5, eval_put_ne (by decide), q3]
  have q173 : a5.eval (.tmp 173) = .pointer (some ⟨g, 0, none⟩) := by rw [← ea5, eval_put_ne (by decide), q173]
  have q177 : a5.eval (.tmp 177) = .pointer (some ⟨g, 3, none⟩) := by rw [← ea5, eval_put_same (by rw [hsz]; decide)]
  have hsz : a5.tmps.size = 185 := by rw [← ea5, size_put, hsz]
  rw [ea5] at hQ ⊢
  refine regT_take (i := 5) (v := .slice A bs.length c) o5 ns (hsc 5 (by decide)) f5.1 f5.2 (fun _ _ _ h => hQp _ _ _ _ _ h) (.inl ⟨by simp [Region.wanted], fun x hx => ?_⟩) hS0 ?_
  · have h' := eval_tmp q177
    have hx1 := hx.1
    clear hQ hsz
    go_simp
  obtain ⟨a6, ea6⟩ : ∃ z, a5.put (some 178) (.slice A bs.length c) = z := ⟨_, rfl⟩
  have q3 : a6.eval (.tmp 3) = .pointer (some ⟨h, 0, none⟩) := by rw [← ea6, eval_put_ne (by decide), q3]
  have q173 : a6.eval (.tmp 173) = .pointer (some ⟨g, 0, none⟩) := by rw [← ea6, eval_put_ne (by decide), q173]
  have q178 : a6.eval (.tmp 178) = .slice A bs.length c := by rw [← ea6, eval_put_same (by rw [hsz]; decide)]
  have hsz : a6.tmps.size = 185 := by rw [← ea6, size_put, hsz]
  rw [ea6] at hQ ⊢
  refine regT_take (i := 6) (v := .agg #[.string (S t.space), .string (S t.name), .string (S t.value), .int .i64 t.pos]) o6 ns (hsc 6 (by decide)) f6.1 f6.2 (fun _ _ _ h => hQp _ _ _ _ _ h) (.inl ⟨by simp [Region.wanted], fun x hx => ?_⟩) hS0 ?_
  · unfold execOp
    simp only [q3, Instr.loadAt, Instr.sureAddr, Sem.run_bind, Sem.run_pure, Result.andThen_ok, run_loadVar_mid x h 0 39 (attCells t) _ hx.2 Tryz.underlying39 rfl attSize]
    rfl
  obtain ⟨a7, ea7⟩ : ∃ z, a6.put (some 179) (.agg #[.string (S t.space), .string (S t.name), .string (S t.value), .int .i64 t.pos]) = z := ⟨_, rfl⟩
  have q173 : a7.eval (.tmp 173) = .pointer (some ⟨g, 0, none⟩) := by rw [← ea7, eval_put_ne (by decide), q173]
  have q178 : a7.eval (.tmp 178) = .slice A bs.length c := by rw [← ea7, eval_put_ne (by decide), q178]
  have q179 : a7.eval (.tmp 179) = .agg #[.string (S t.space), .string (S t.name), .string (S t.value), .int .i64 t.pos] := by rw [← ea7, eval_put_same (by rw [hsz]; decide)]
  have hsz : a7.tmps.size = 185 := by rw [← ea7, size_put, hsz]
  rw [ea7] at hQ ⊢
  refine regT_all r7 (by simp) (by decide) ?_
  intro i hi
  obtain rfl : i = 7 := by simpa using hi
  refine regT_op o7 (fun K' hK => ?_)
  have h' := eval_tmp q179
  have hS1 : (w.drew.alloc (.cells (attCells t).toArray 39)).cell? ⟨g, 3, none⟩ = some (.slice A bs.length c) ∧ (w.drew.alloc (.cells (attCells t).toArray 39)).rangeAt h 0 (attCells t) :=
    ⟨by rw [Lib.cell_of_heap (alloc_old (W := w.drew) hg)]; exact hcur, rangeAt_keep hS0.2 (Below.heap_alloc w.drew _ _ hhl)⟩
  have HQ := Lib.hid hQ
  have HZ := Lib.hid hsz
  clear hQ hsz
  go_simp
  refine hK.out _ _ ⟨hS1, ?_⟩
  clear hK
  change RegT _ _ _ _ _ _ _ (a7.put (some 180) (.slice (some ⟨w.heap.size, 0, none⟩) 1 1)) _
  have hQ := HQ.out w.heap.size
  have hsz := HZ.out
  obtain ⟨b1, eb1⟩ : ∃ z, a7.put (some 180) (.slice (some ⟨w.heap.size, 0, none⟩) 1 1) = z := ⟨_, rfl⟩
  have q178 : b1.eval (.tmp 178) = .slice A bs.length c := by rw [← eb1, eval_put_ne (by decide), q178]
  have q173 : b1.eval (.tmp 173) = .pointer (some ⟨g, 0, none⟩) := by rw [← eb1, eval_put_ne (by decide), q173]
  have q180 : b1.eval (.tmp 180) = .slice (some ⟨w.heap.size, 0, none⟩) 1 1 := by rw [← eb1, eval_put_same (by rw [hsz]; decide)]
  have hsz : b1.tmps.size = 185 := by rw [← eb1, size_put, hsz]
  rw [eb1] at hQ ⊢
  refine regT_all r8 (by simp) (by decide) ?_
  intro i hi
  obtain rfl : i = 8 := by simpa using hi
  refine regT_op o8 (fun K' hK => ?_)
  refine atts_append_step (by rfl) (.tmp 178) (.tmp 180) (by rfl) w.drew (g + 1) (.slice A bs.length c) bs q178 (show AttRow w.drew (g + 1) (.slice A bs.length c) bs from hrow) t w.heap.size rfl q180 (by show g + 1 ≤ w.heap.size; omega) (by omega) ?_
  intro g' c' W z1 z2 z3
  have hgW : W.heap[g]? = some (.cells cur ty (0, 0)) := (z3.block g (by omega)).trans hg
  have hhW : W.heap[h]? = some (.cells (attCells t).toArray 39 (0, 0)) := z2.heap (w := w.drew) hh hown
  have hS2 : W.cell? ⟨g, 3, none⟩ = some (.slice A bs.length c) ∧ W.rangeAt h 0 (attCells t) := ⟨by rw [Lib.cell_of_heap hgW]; exact hcur, range_of_heap hhW⟩
  refine hK.out _ _ ⟨hS2, ?_⟩
  clear hK
  have hq := hQ g' c' W z1 ⟨⟨z2.grown.os, z2.grown.tape, z2.grown.output, z2.grown.size, z2.grown.block⟩, z2.lt⟩ ⟨z3.os, z3.tape, z3.output, z3.size, z3.block⟩ hgW
  obtain ⟨b2, eb2⟩ : ∃ z, b1.put (some 181) (.slice (some ⟨g', 0, none⟩) (bs.length + 1) c') = z := ⟨_, rfl⟩
  have q173 : b2.eval (.tmp 173) = .pointer (some ⟨g, 0, none⟩) := by rw [← eb2, eval_put_ne (by decide), q173]
  have q181 : b2.eval (.tmp 181) = .slice (some ⟨g', 0, none⟩) (bs.length + 1) c' := by rw [← eb2, eval_put_same (by rw [hsz]; decide)]
  have hsz : b2.tmps.size = 185 := by rw [← eb2, size_put, hsz]
  rw [eb2] at hq
  change RegT _ _ _ _ _ _ _ (b1.put (some 181) (.slice (some ⟨g', 0, none⟩) (bs.length + 1) c')) _
  rw [eb2]
  refine regT_take (i := 9) (v := .pointer (some ⟨g, 0, none⟩)) o9 ns (hsc 9 (by decide)) f9.1 f9.2 (fun _ _ _ h => hQp _ _ _ _ _ h) (.inl ⟨by simp [Region.wanted], fun x hx => ?_⟩) hS2 ?_
  · have h' := eval_tmp q173
    clear hQ hsz hq HQ
    go_simp
  obtain ⟨b3, eb3⟩ : ∃ z, b2.put (some 182) (.pointer (some ⟨g, 0, none⟩)) = z := ⟨_, rfl⟩
  have q182 : b3.eval (.tmp 182) = .pointer (some ⟨g, 0, none⟩) := by rw [← eb3, eval_put_same (by rw [hsz]; decide)]
  have q181 : b3.eval (.tmp 181) = .slice (some ⟨g', 0, none⟩) (bs.length + 1) c' := by rw [← eb3, eval_put_ne (by decide), q181]
  have hsz : b3.tmps.size = 185 := by rw [← eb3, size_put, hsz]
  rw [eb3] at hq ⊢
  refine regT_take (i := 10) (v := .pointer (some ⟨g, 1, none⟩)) o10 ns (hsc 10 (by decide)) f10.1 f10.2 (fun _ _ _ h => hQp _ _ _ _ _ h) (.inl ⟨by simp [Region.wanted], fun x hx => ?_⟩) hS2 ?_
  · have h' := eval_tmp q182
    clear hQ hsz hq HQ
    go_simp
  obtain ⟨b4, eb4⟩ : ∃ z, b3.put (some 183) (.pointer (some ⟨g, 1, none⟩)) = z := ⟨_, rfl⟩
  have q183 : b4.eval (.tmp 183) = .pointer (some ⟨g, 1, none⟩) := by rw [← eb4, eval_put_same (by rw [hsz]; decide)]
  have q181 : b4.eval (.tmp 181) = .slice (some ⟨g', 0, none⟩) (bs.length + 1) c' := by rw [← eb4, eval_put_ne (by decide), q181]
  have hsz : b4.tmps.size = 185 := by rw [← eb4, size_put, hsz]
  rw [eb4] at hq ⊢
  refine regT_take (i := 11) (v := .pointer (some ⟨g, 3, none⟩)) o11 ns (hsc 11 (by decide)) f11.1 f11.2 (fun _ _ _ h => hQp _ _ _ _ _ h) (.inl ⟨by simp [Region.wanted], fun x hx => ?_⟩) hS2 ?_
  · have h' := eval_tmp q183
    clear hQ hsz hq HQ
    go_simp
  obtain ⟨b5, eb5⟩ : ∃ z, b4.put (some 184) (.pointer (some ⟨g, 3, none⟩)) = z := ⟨_, rfl⟩
  have q184 : b5.eval (.tmp 184) = .pointer (some ⟨g, 3, none⟩) := by rw [← eb5, eval_put_same (by rw [hsz]; decide)]
  have q181 : b5.eval (.tmp 181) = .slice (some ⟨g', 0, none⟩) (bs.length + 1) c' := by rw [← eb5, eval_put_ne (by decide), q181]
  have hsz : b5.tmps.size = 185 := by rw [← eb5, size_put, hsz]
  rw [eb5] at hq ⊢
  refine regT_last r12 rE ?_
  refine regT_op o12 (fun K' hK => ?_)
  have h1 := eval_tmp q184
  have h2 := eval_tmp q181
  have hf : W.frozen? ⟨g, 3, none⟩ = false := Lib.frozen_of_heap hgW 3
  have hc := hS2.1
  have HQ2 := Lib.hid hq
  clear hq hQ HQ hsz
  go_simp
  exact hK.out _ _ HQ2.out
end Go.Proofs.YtclhdppppgjgfaaGreatDoor
