/-
  Several texts in one file, in build order:
  - Walks of chapter 9: Text and Elem (program and reference).
  - Walks of chapter 9: With (program and reference).
  - Plain functions of chapter 5 (xmlescape): escaping. No program.
  - Walks of chapter 5: escaping (program and reference).
  - Plain functions of chapter 1 (text): which numbers are characters, which may stand in names; what a list of bytes checks as. No program.
  - Plain functions of chapter 6 (xmltoken): the longest name at the head of a list of bytes. No program.
  - Plain functions of chapter 9 (xmlwrite): which trees are valid. No program.
  - Plain functions of chapter 9: the canonical form of a tree. No program.
  - The writer's builder and the variable that holds the closure.
  - Walk of chapter 9: the closure that writes a node.
  - A map with string keys that the call has made itself, told by the list of its entries.
  - Walks of chapter 1: which numbers are characters, which may stand in names (program and reference).
  - Walks of chapter 1: the tables of the name characters.
  - Walks of chapter 1: decoding, encoding, checking (program and reference).
-/
import Derived.Deep.RegionHeld3
import Derived.Laws.ResultCell
import Derived.Laws.MakeOwn
import Derived.Deep.LoopGhost
import Derived.WalkSpells
import Derived.WalkLawsBesides
import Derived.Lib.BufferKept
import Derived.Maps.Own
import Derived.Maps.OwnOps
import Derived.Deep.DeepCutAuto
import Derived.Laws.Rows
import Derived.Test.YthilaolkkamedaaDoorF1
set_option linter.unusedVariables false
namespace Go.Proofs.YthilaolkkamedaaDoor
open Go.RowKit

/-- Character data. -/
def textNode (s : Bytes) : Node := .mk 1 [] [] [] [] s 0
theorem NodeV.bare (w : World) (B : Nat) (k : Int) (nm t : Bytes) (p : Int) : NodeV w B (.mk k [] nm [] [] t p) (.agg #[.int .i64 k, .string (S []), .string (S nm), .slice none 0 0, .slice none 0 0, .string (S t), .int .i64 p]) :=
  NodeV.of_form (n := .mk k [] nm [] [] t p) ⟨none, 0, rfl, Nat.le_refl _, .inl rfl⟩ ⟨none, 0, rfl, Nat.le_refl _, .inl rfl⟩

set_option maxHeartbeats 400000 in
theorem text9_any (s : Bytes) (w : World) :
    Calls Tryd.prog 17 #[.string (S s)] w fun e w' => ∃ v, e = .returned v ∧ NodeV w' w'.heap.size (textNode s) v ∧ Below w.heap.size w w' := by
  go_enter Tryd.func17, Tryd.ntmps17
  go_wp2
  exact bodyPost_ret (v := .agg #[.int .i64 1, .string ⟨#[]⟩, .string ⟨#[]⟩, .slice none 0 0, .slice none 0 0, .string (S s), .int .i64 0]) (by simp [results, Tryd.results17, go_sem]) rfl ⟨_, rfl, NodeV.bare _ _ _ _ _ _, (Below.refl _ _).alloc (Nat.le_refl _) _⟩

/-- Elem leaves out empty character data. -/
def keepKid (k : Node) : Bool := !(k.kind == 1 && k.text == [])
def elemNode (nm : Bytes) (ks : List Node) : Node := .mk 0 [] nm [] (ks.filter keepKid) [] 0
abbrev zNode : List Value := [.int .i64 0, .string ⟨#[]⟩, .string ⟨#[]⟩, .slice none 0 0, .slice none 0 0, .string ⟨#[]⟩, .int .i64 0]
theorem filter_take_yes {ks : List Node} {i : Nat} (h : i < ks.length) (hk : keepKid ks[i] = true) : (ks.take (i + 1)).filter keepKid = (ks.take i).filter keepKid ++ [ks[i]] := by
  rw [← List.take_append_getElem h, List.filter_append]; simp [hk]
theorem filter_take_no {ks : List Node} {i : Nat} (h : i < ks.length) (hk : keepKid ks[i] = false) : (ks.take (i + 1)).filter keepKid = (ks.take i).filter keepKid := by
  rw [← List.take_append_getElem h, List.filter_append]; simp [hk]
/-- The result's cell and the node that is being built. -/
structure Elm (w : World) (b : Nat) (nm : Bytes) (vk : Value) : Prop where
  res : w.heap[b]? = some (.cells zNode.toArray 25)
  nod : w.heap[b + 1]? = some (.cells #[.int .i64 0, .string ⟨#[]⟩, .string (S nm), .slice none 0 0, vk, .string ⟨#[]⟩, .int .i64 0] 25)
theorem Elm.below {w w' : World} {b : Nat} {nm : Bytes} {vk : Value} (h : Elm w b nm vk) (hb : Below w.heap.size w w') : Elm w' b nm vk :=
  ⟨(hb.block _ (heap_lt h.res)).trans h.res, (hb.block _ (heap_lt h.nod)).trans h.nod⟩

theorem Elm.put {w : World} {b : Nat} {nm : Bytes} {vk : Value} (h : Elm w b nm vk) (v : Value) : Elm (w.setCell ⟨b + 1, 4, none⟩ v) b nm v := by
  refine ⟨(Below.heap_setCell _ _ _ _ (by simp)).trans h.res, ?_⟩
  have := h.nod
  simp [World.setCell, Array.getElem?_modify, this]
theorem Elm.cell {w : World} {b : Nat} {nm : Bytes} {vk : Value} (h : Elm w b nm vk) : w.cell? ⟨b + 1, 4, none⟩ = some vk := by rw [Lib.cell_of_heap h.nod]; rfl
theorem Elm.free {w : World} {b : Nat} {nm : Bytes} {vk : Value} (h : Elm w b nm vk) : w.frozen? ⟨b + 1, 4, none⟩ = false := Lib.frozen_of_heap h.nod 4
theorem Elm.keep {w w' : World} {b : Nat} {nm : Bytes} {vk v' : Value} (h : Elm w b nm vk) (hg : Grew w vk v' w') (hl : ∀ k, vk.ownBlock = some k → b + 2 ≤ k) : Elm w' b nm vk :=
  ⟨hg.heap h.res (fun e => by have := hl _ e; omega), hg.heap h.nod (fun e => by have := hl _ e; omega)⟩

set_option maxHeartbeats 2000000 in
set_option maxRecDepth 100000 in
theorem elem9P_any (nm : Bytes) (ks : List Node) (v : Value) (w : World) (p : Nat → Prop) (hp : ∀ b, p b → b < w.heap.size) (hl : ks.length ≤ 1000000) (hv : NodesP w p v ks) :
    Calls Tryd.prog 12 #[.string (S nm), v] w fun e w' => ∃ v, e = .returned v ∧ NodePV w' (fun b => p b ∨ (w.heap.size ≤ b ∧ b < w'.heap.size)) (elemNode nm ks) v ∧ Below w.heap.size w w' := by
  obtain ⟨A, cap, rfl, hcap⟩ : ∃ A cap, v = .slice A ks.length cap ∧ ks.length ≤ cap := by obtain ⟨A, cap, h, hc, _⟩ := hv; exact ⟨A, cap, h, hc⟩
  have HV := Lib.hid hv
  have h0 : Elm ((w.alloc (.cells zNode.toArray 25)).alloc (.cells #[.int .i64 0, .string ⟨#[]⟩, .string (S nm), .slice none 0 0, .slice none 0 0, .string ⟨#[]⟩, .int .i64 0] 25)) w.heap.size nm (.slice none 0 0) :=
    ⟨(Below.heap_alloc _ _ _ (by simp)).trans (heap_alloc_new w _), by have := heap_alloc_new (w.alloc (.cells zNode.toArray 25)) (.cells #[.int .i64 0, .string ⟨#[]⟩, .string (S nm), .slice none 0 0, .slice none 0 0, .string ⟨#[]⟩, .int .i64 0] 25); simpa using this⟩
  have H0 := Lib.hid h0
  clear hv h0
  go_enter Tryd.func12, Tryd.ntmps12
  go_wp2_with fail
  go_loopw [12] (fun i12 wr => ∃ (i : Nat) (vk : Value), i ≤ ks.length ∧ i12 = .int .i64 i ∧ NodeRow wr (w.heap.size + 2) p vk ((ks.take i).filter keepKid) ∧ Elm wr w.heap.size nm vk ∧ Below w.heap.size w wr) (fun i12 _ => ks.length - (intOf i12).toNat)
  case atStart => exact ⟨0, _, Nat.zero_le _, rfl, NodeRow.nil _ _ _, H0.out, ((Below.refl _ _).alloc (Nat.le_refl _) _).alloc (by simp) _⟩
  case round =>
    obtain ⟨i, vk, hi, rfl, hrow, helm, hb⟩ := hrel
    clear H0
    have HR := Lib.hid hrow
    have HE := Lib.hid helm
    have HB := Lib.hid hb
    have hsz : w.heap.size + 2 ≤ wr.heap.size := heap_lt helm.nod
    have hpr : ∀ j, p j → j < wr.heap.size := fun j hj => by have := hp j hj; omega
    by_cases hlt : i < ks.length
    · obtain ⟨bb, off, cs, hAA, hbb, hr, hcs⟩ := HV.out.at_ hlt
      subst hAA
      have hr' : wr.rangeAt bb (off + i * 7) cs := rangeAt_keep hr (hb.block bb (hp bb hbb))
      have hcs' : NodeP wr p ks[i] cs := NodeP.keep (fun j hj => hb.block j (hp j hj)) (fun _ h => h) _ _ hcs
      have hyes := filter_take_yes hlt
      have hno := filter_take_no hlt
      have hkd : keepKid ks[i] = !(ks[i].kind == 1 && ks[i].text == []) := rfl
      have hfl : ((ks.take i).filter keepKid).length < 1000000000000 := by
        have h1 := List.length_filter_le keepKid (ks.take i)
        have h2 : (ks.take i).length ≤ i := by simp; omega
        omega
      obtain ⟨A', c', K', d', hcs2, _, _, _, _⟩ := hcs.open_
      subst hcs2
      generalize ks[i] = k at *
      generalize (ks.take i).filter keepKid = acc at *
      have HRR := Lib.hid hr'
      have hlt' : (i : Int) < ks.length := by omega
      have F1 : Hid (∀ o, Below w.heap.size w (wr.alloc o)) := fun o => hb.alloc (by omega) o
      clear hr hr' hcs hb hrow
      have step : keepKid k = true → ∀ (g c : Nat) (w' : World), NodeRow w' (w.heap.size + 2) p (.slice (some ⟨g, 0, none⟩) (acc.length + 1) c) (acc ++ [k]) → Grew (wr.alloc (.cells #[.int .i64 k.kind, .string (S k.space), .string (S k.name), .slice A' k.attrs.length c', .slice K' k.kids.length d', .string (S k.text), .int .i64 k.pos] 25)) vk (.slice (some ⟨g, 0, none⟩) (acc.length + 1) c) w' → Below (w.heap.size + 2) (wr.alloc (.cells #[.int .i64 k.kind, .string (S k.space), .string (S k.name), .slice A' k.attrs.length c', .slice K' k.kids.length d', .string (S k.text), .int .i64 k.pos] 25)) w' →
          w'.cell? ⟨w.heap.size + 1, 4, none⟩ = some vk ∧ w'.frozen? ⟨w.heap.size + 1, 4, none⟩ = false ∧
          Hid (NodeRow (w'.setCell ⟨w.heap.size + 1, 4, none⟩ (.slice (some ⟨g, 0, none⟩) (acc.length + 1) c)) (w.heap.size + 2) p (.slice (some ⟨g, 0, none⟩) (acc.length + 1) c) ((ks.take (i + 1)).filter keepKid) ∧ Elm (w'.setCell ⟨w.heap.size + 1, 4, none⟩ (.slice (some ⟨g, 0, none⟩) (acc.length + 1) c)) w.heap.size nm (.slice (some ⟨g, 0, none⟩) (acc.length + 1) c) ∧ Below w.heap.size w (w'.setCell ⟨w.heap.size + 1, 4, none⟩ (.slice (some ⟨g, 0, none⟩) (acc.length + 1) c))) := by
        intro hkk g c w' h1 h2 h3
        have he : Elm w' w.heap.size nm vk := (HE.out.below ((Below.refl _ _).alloc (Nat.le_refl _) _)).keep h2 (fun k hk => (HR.out.lt k hk).1)
        refine ⟨he.cell, he.free, ?_, he.put _, ?_⟩
        · rw [hyes hkk]
          have hg := h1.lt g rfl
          exact h1.heap (fun j hj => Below.heap_setCell _ _ _ _ (by simp [Value.ownBlock] at hj; simp; omega)) (fun j hj => Below.heap_setCell _ _ _ _ (by have := hp j hj; simp; omega))
        · exact ((F1.out _).trans (h3.mono (by omega))).setCell (p := ⟨w.heap.size + 1, 4, none⟩) (by simp) _
      cases t : (k.kind == 1)
      · have hkk : keepKid k = true := by rw [hkd, t]; rfl
        have HS := Lib.hid (step hkk)
        have hc4 : ∀ o, (wr.alloc o).cell? ⟨w.heap.size + 1, 4, none⟩ = some vk := fun o => (helm.below ((Below.refl _ _).alloc (Nat.le_refl _) o)).cell
        clear step hyes hno hkd hkk helm
        go_wp2_with (first
          | (with_reducible refine gate ?_; refine wp_load_node rfl _ rfl bb (off + i * 7) rfl _ rfl HRR.out ?_)
          | (at_builtin; refine nodes_append rfl _ _ rfl (wr.alloc _) (w.heap.size + 2) p vk acc rfl (HR.out.below ((Below.refl _ _).alloc (Nat.le_refl _) _) hpr) k _ (wr.heap.size + 1) (by simp) rfl (NodeP.keep (fun j hj => Below.heap_alloc _ _ _ (hpr j hj)) (fun _ h => h) _ _ hcs') (fun j hj => Nat.lt_of_lt_of_le (hp j hj) (by omega)) (by simp; omega) hfl ?_; intro g c w1 r1 r2 r3; obtain ⟨f1, f2, f3⟩ := HS.out g c w1 r1 r2 r3))
        go_roundw
        case rel => exact ⟨i + 1, _, by omega, by go_num, f3.out.1, f3.out.2.1, f3.out.2.2⟩
        case measure => simp [intOf]; omega
      · by_cases hx : k.text = []
        · have hkk : keepKid k = false := by rw [hkd, t, hx]; rfl
          have HNO := Lib.hid (hno hkk)
          have HAL := Lib.hid (show NodeRow (wr.alloc (.cells #[.int .i64 k.kind, .string (S k.space), .string (S k.name), .slice A' k.attrs.length c', .slice K' k.kids.length d', .string (S k.text), .int .i64 k.pos] 25)) (w.heap.size + 2) p vk acc ∧ Elm (wr.alloc (.cells #[.int .i64 k.kind, .string (S k.space), .string (S k.name), .slice A' k.attrs.length c', .slice K' k.kids.length d', .string (S k.text), .int .i64 k.pos] 25)) w.heap.size nm vk from ⟨HR.out.below ((Below.refl _ _).alloc (Nat.le_refl _) _) hpr, helm.below ((Below.refl _ _).alloc (Nat.le_refl _) _)⟩)
          rw [hx] at HAL HRR
          clear step hyes hno hkd hkk helm hcs' HE HR
          go_wp2_with (with_reducible refine gate ?_; refine wp_load_node rfl _ rfl bb (off + i * 7) rfl _ rfl HRR.out ?_)
          go_roundw
          case rel => exact ⟨i + 1, vk, by omega, by go_num, by rw [HNO.out]; exact HAL.out.1, HAL.out.2, F1.out _⟩
          case measure => simp [intOf]; omega
        · have hkk : keepKid k = true := by rw [hkd, t]; simp [hx]
          have e1 : List.isEmpty k.text = false := by cases hsp : k.text with
            | nil => exact (hx hsp).elim
            | cons x l => rfl
          have HS := Lib.hid (step hkk)
          have hc4 : ∀ o, (wr.alloc o).cell? ⟨w.heap.size + 1, 4, none⟩ = some vk := fun o => (helm.below ((Below.refl _ _).alloc (Nat.le_refl _) o)).cell
          clear step hyes hno hkd hkk helm hx
          go_wp2_with (first
            | (with_reducible refine gate ?_; refine wp_load_node rfl _ rfl bb (off + i * 7) rfl _ rfl HRR.out ?_)
            | (at_builtin; refine nodes_append rfl _ _ rfl (wr.alloc _) (w.heap.size + 2) p vk acc rfl (HR.out.below ((Below.refl _ _).alloc (Nat.le_refl _) _) hpr) k _ (wr.heap.size + 1) (by simp) rfl (NodeP.keep (fun j hj => Below.heap_alloc _ _ _ (hpr j hj)) (fun _ h => h) _ _ hcs') (fun j hj => Nat.lt_of_lt_of_le (hp j hj) (by omega)) (by simp; omega) hfl ?_; intro g c w1 r1 r2 r3; obtain ⟨f1, f2, f3⟩ := HS.out g c w1 r1 r2 r3))
          go_roundw
          case rel => exact ⟨i + 1, _, by omega, by go_num, f3.out.1, f3.out.2.1, f3.out.2.2⟩
          case measure => simp [intOf]; omega
    · obtain rfl : i = ks.length := by omega
      rw [List.take_length] at hrow
      obtain ⟨KA, kc, rfl, hkc⟩ := hrow.slice
      have hnod := helm.nod
      have hres := helm.res
      have hra := range_of_heap hnod
      have HN := Lib.hid hrow
      clear hb hrow helm HR HE
      go_wp2_with (first
        | (with_reducible refine gate ?_; refine wp_load_node rfl _ rfl (w.heap.size + 1) 0 rfl _ rfl hra ?_)
        | (with_reducible refine gate ?_; refine wp_store_node rfl _ _ rfl w.heap.size _ _ _ _ _ _ _ _ _ _ _ _ rfl rfl hres rfl ?_; intro w2 hw2 hu2))
      refine bodyPost_ret (v := .agg _) (res_whole Tryd.results12 _ _ w.heap.size rfl _ _ hw2 Tryd.underlying25 rfl nodeSize) rfl ⟨_, rfl, ?_, ?_⟩
      · have hw : w.heap.size < w2.heap.size := heap_lt hw2
        have hsz2 := hu2.size
        exact NodePV.of_form (n := elemNode nm ks) ⟨none, 0, rfl, Nat.le_refl _, .inl rfl⟩ ((HN.out.heap (fun j hj => by have := HN.out.lt j hj; exact hu2.block j (by omega) (by omega)) (fun j hj => hu2.block j (hpr j hj) (by have := hp j hj; omega))).nodesP (fun j hj => .inl hj) (fun j hj => .inr (by have := HN.out.lt j hj; omega)))
      · exact HB.out.trans (hu2.below (Nat.le_refl _) (by omega))
theorem elem9_any (nm : Bytes) (ks : List Node) (v : Value) (w : World) (hl : ks.length ≤ 1000000) (hv : NodesIn w w.heap.size v ks) :
    Calls Tryd.prog 12 #[.string (S nm), v] w fun e w' => ∃ v, e = .returned v ∧ NodeV w' w'.heap.size (elemNode nm ks) v ∧ Below w.heap.size w w' := by
  refine (elem9P_any nm ks v w (· < w.heap.size) (fun _ h => h) hl hv.toP).mono ?_
  rintro e w' ⟨v', rfl, h1, h2⟩
  exact ⟨v', rfl, h1.toV (fun k hk => hk.elim (fun h => Nat.lt_of_lt_of_le h h2.size) (fun h => h.2)), h2⟩
end Go.Proofs.YthilaolkkamedaaDoor
set_option linter.unusedVariables false
namespace Go.Proofs.YthilaolkkamedaaDoor
open Go.RowKit

theorem run_make_atts (n c : Nat) (h : n ≤ c) (hc : c ≤ 1000000000000) : ∃ cur : Array Value, cur.size = c * 4 ∧ ∀ W : World, (Instr.makeSlice 22 (.int .i64 (n : Int)) (.int .i64 (c : Int))).run Tryd.prog W = .ok (.slice (some ⟨W.heap.size, 0, none⟩) n c) (W.alloc (.cells cur 37)) := by
  obtain ⟨i0, hi0, hz0, hz1, hz2⟩ := info_parts infoAtt
  have hrun := fun W : World => run_make (P := Tryd.prog) W 22 37 i0 _ Tryd.underlying22 hi0 hz0 .i64 .i64 (n : Int) (c : Int) (by omega) (by omega) (by rw [hz2]; omega) (by omega)
  simp only [hz1, Int.toNat_natCast] at hrun
  exact ⟨_, size_madeCells _ _, hrun⟩
/-- The parameter's box and the result's cell. -/
structure Wth (w : World) (b : Nat) (n : Node) (va : Value) (K : Option Addr) (d : Nat) : Prop where
  box : w.heap[b]? = some (.cells #[.int .i64 n.kind, .string (S n.space), .string (S n.name), va, .slice K n.kids.length d, .string (S n.text), .int .i64 n.pos] 25)
  res : w.heap[b + 1]? = some (.cells zNode.toArray 25)
theorem Wth.below {w w' : World} {b : Nat} {n : Node} {va : Value} {K : Option Addr} {d : Nat} (h : Wth w b n va K d) (hb : Below (b + 2) w w') : Wth w' b n va K d :=
  ⟨(hb.block _ (by omega)).trans h.box, (hb.block _ (by omega)).trans h.res⟩
theorem Wth.drew {w : World} {b : Nat} {n : Node} {va : Value} {K : Option Addr} {d : Nat} (h : Wth w b n va K d) : Wth w.drew b n va K d := ⟨h.box, h.res⟩
theorem Wth.put {w : World} {b : Nat} {n : Node} {va : Value} {K : Option Addr} {d : Nat} (h : Wth w b n va K d) (v : Value) : Wth (w.setCell ⟨b, 3, none⟩ v) b n v K d := by
  refine ⟨?_, (Below.heap_setCell _ _ _ _ (by simp)).trans h.res⟩
  have := h.box
  simp [World.setCell, Array.getElem?_modify, this]
theorem Wth.cell {w : World} {b : Nat} {n : Node} {va : Value} {K : Option Addr} {d : Nat} (h : Wth w b n va K d) : w.cell? ⟨b, 3, none⟩ = some va := by rw [Lib.cell_of_heap h.box]; rfl
theorem Wth.free {w : World} {b : Nat} {n : Node} {va : Value} {K : Option Addr} {d : Nat} (h : Wth w b n va K d) : w.frozen? ⟨b, 3, none⟩ = false := Lib.frozen_of_heap h.box 3

/-- What With returns: the attributes in a row of its own. -/
def WithV (B0 : Nat) (n : Node) (l : List Bytes) (w' : World) (v : Value) : Prop :=
  ∃ va K d, v = .agg #[.int .i64 n.kind, .string (S n.space), .string (S n.name), va, .slice K n.kids.length d, .string (S n.text), .int .i64 n.pos] ∧ AttRow w' B0 va (n.attrs ++ pairsOf l) ∧ NodesIn w' B0 (.slice K n.kids.length d) n.kids
def withNode (n : Node) (l : List Bytes) : Node := .mk n.kind n.space n.name (n.attrs ++ pairsOf l) n.kids n.text n.pos
theorem WithV.nodeV {B0 : Nat} {n : Node} {l : List Bytes} {w' : World} {v : Value} (h : WithV B0 n l w' v) (hB : B0 ≤ w'.heap.size) : NodeV w' w'.heap.size (withNode n l) v := by
  obtain ⟨va, K, d, rfl, ha, hk⟩ := h
  exact NodeV.of_form (n := withNode n l) ha.attsIn (hk.keep (fun _ _ => rfl) hB)

set_option maxHeartbeats 2000000 in
set_option maxRecDepth 100000 in
theorem with9_any (n : Node) (vn : Value) (l : List Bytes) (vl : Value) (w : World) (hal : n.attrs.length ≤ 100000000000) (hll : l.length ≤ 100000000000) (hn : NodeV w w.heap.size n vn) (hv : StrsIn w w.heap.size vl l) :
    Calls Tryd.prog 13 #[vn, vl] w fun e w' => ∃ v, e = .returned v ∧ WithV w.heap.size n l w' v ∧ Below w.heap.size w w' := by
  obtain ⟨A, cap, K, kcap, rfl, ha, hk, hcap, hkcap⟩ := hn.open_
  obtain ⟨LA, lcap, rfl, hlc⟩ := hv.form
  obtain ⟨cur, hcur, hmk⟩ := run_make_atts n.attrs.length (n.attrs.length + l.length / 2) (by omega) (by omega)
  have e1 : ((n.attrs.length + l.length / 2 : Nat) : Int) = (n.attrs.length : Int) + (l.length : Int) / 2 := by omega
  rw [e1] at hmk
  have HCUR := Lib.hid hcur
  have HA := Lib.hid ha
  have HK := Lib.hid hk
  have HV := Lib.hid hv
  obtain ⟨w0, hw0⟩ : ∃ w0, w0 = ((w.alloc (nodeBox n A cap K kcap)).alloc (.cells zNode.toArray 25)).alloc (.cells cur 37) := ⟨_, rfl⟩
  have hbox : Wth w0 w.heap.size n (.slice A n.attrs.length cap) K kcap := by
    rw [hw0]
    refine ⟨(Below.heap_alloc _ _ _ (by simp; omega)).trans ((Below.heap_alloc _ _ _ (by simp)).trans (heap_alloc_new w _)), (Below.heap_alloc _ _ _ (by simp)).trans ?_⟩
    have := heap_alloc_new (w.alloc (nodeBox n A cap K kcap)) (.cells zNode.toArray 25)
    simpa using this
  have hgc : w0.heap[w.heap.size + 2]? = some (.cells cur 37) := by
    rw [hw0]
    have := heap_alloc_new ((w.alloc (nodeBox n A cap K kcap)).alloc (.cells zNode.toArray 25)) (.cells cur 37)
    simpa using this
  have hb0 : Below w.heap.size w w0 := by rw [hw0]; exact (((Below.refl _ _).alloc (Nat.le_refl _) _).alloc (by simp) _).alloc (by simp; omega) _
  have HBX := Lib.hid hbox
  have HGC := Lib.hid hgc
  have HB0 := Lib.hid hb0
  have HW0 := Lib.hid hw0
  clear ha hk hn hv e1 hcur hbox hgc hb0 hw0
  go_enter Tryd.func13, Tryd.ntmps13
  go_wp2_with (with_reducible refine gate ?_; refine atts_copy rfl _ _ rfl _ (w.heap.size + 2) (n.attrs.length + l.length / 2) A cap n.attrs w.heap.size (w.heap.size + 2) rfl rfl (HW0.out ▸ HA.out.below HB0.out) cur (HW0.out ▸ HGC.out) HCUR.out (by omega) (by unfold maxLen; omega) (Nat.le_refl _) ?_; intro w1 hr1 hu1)
  have hb1 : Below w.heap.size w w1 := HB0.out.trans ((HW0.out ▸ hu1 : Upd (w.heap.size + 2) w0 w1).below (by omega) HB0.out.size)
  have hx1 : Wth w1 w.heap.size n (.slice A n.attrs.length cap) K kcap := by
    have hu : Upd (w.heap.size + 2) w0 w1 := HW0.out ▸ hu1
    have h := HBX.out
    exact ⟨(hu.block _ (heap_lt h.box) (by omega)).trans h.box, (hu.block _ (heap_lt h.res) (by omega)).trans h.res⟩
  have HR1 := Lib.hid hr1
  have HB1 := Lib.hid hb1
  have HX1 := Lib.hid hx1
  clear hr1 hu1 hb1 hx1 hmk HCUR HA HBX HGC HB0 HW0
  go_frame
  go_loopg [1, 5] (l.length) (fun k s1 s5 wr => ∃ (r : List Bytes) (done : List Att), r.length ≤ l.length ∧ k = r.length ∧ StrsIn wr w.heap.size s1 r ∧ AttRow wr (w.heap.size + 2) s5 done ∧ done ++ pairsOf r = n.attrs ++ pairsOf l ∧ Below w.heap.size w wr ∧ Wth wr w.heap.size n (.slice A n.attrs.length cap) K kcap)
  case atStart => exact ⟨l, n.attrs, Nat.le_refl _, rfl, HV.out.below HB1.out, HR1.out, rfl, HB1.out, HX1.out⟩
  case round =>
    obtain ⟨r, done, hrl, hk, hstr, hrow, hdone, hb, hwth⟩ := hrel
    have hdl : done.length ≤ 200000000000 := by
      have := congrArg List.length hdone
      rw [List.length_append, List.length_append, pairsOf_len, pairsOf_len] at this
      omega
    have HB := Lib.hid hb
    have HR := Lib.hid hrow
    have HX := Lib.hid hwth
    have HKK := Lib.hid hk
    have hsz : w.heap.size + 2 ≤ wr.heap.size := heap_lt hwth.res
    by_cases hr2 : 2 ≤ r.length
    · obtain ⟨x, y, r, rfl⟩ : ∃ x y r', r = x :: y :: r' := by
        match r, hr2 with
        | x :: y :: r, _ => exact ⟨x, y, r, rfl⟩
      obtain ⟨xb, off, xc, hv1, hxB, hxc, hx0, hx1, v', hsl, hrest⟩ := hstr.two
      have hnx : (done ++ [⟨[], x, y, 0⟩]) ++ pairsOf r = n.attrs ++ pairsOf l := by rw [← hdone, pairsOf]; simp
      have HN := Lib.hid hnx
      have HS := Lib.hid hrest
      have hxB2 : xb < w.heap.size + 2 := by omega
      have h2l : (1 : Int) < (r.length : Int) + 2 := by omega
      have h0l : (0 : Int) < (r.length : Int) + 2 := by omega
      subst hv1
      obtain ⟨vA, vc, hv5, hvc⟩ := hrow.slice
      subst hv5
      clear hrow hstr hdone hwth hb hnx hrest hk
      go_wp2_with fail
      go_region_held3 (fun W => W.cell? ⟨xb, off, none⟩ = some (.string (S x)) ∧ W.cell? ⟨xb, off + 1, none⟩ = some (.string (S y)))
        (first | exact ⟨hx0, hx1⟩ | exact ⟨(q3.cell (p := ⟨xb, off, none⟩) hxB2).trans hx0, (q3.cell (p := ⟨xb, off + 1, none⟩) hxB2).trans hx1⟩ | go_keep)
        (first
          | ((refine atts_append_step (by rfl) _ _ (by rfl) wr.drew (w.heap.size + 2) (.slice vA done.length vc) done (by rfl) (HR.out.below (Below.refl _ _).drew) ⟨[], x, y, 0⟩ wr.heap.size (by rfl) (by rfl) hsz (by omega) ?_; intro g c w2 q1 q2 q3)))
      have Q1 := Lib.hid q1
      have Q3 := Lib.hid (HB.out.drew.trans (q3.mono (by omega)))
      have QX := Lib.hid (HX.out.drew.below q3)
      clear q1 q2 q3 hx0 hx1
      go_wp2_with fail
      go_roundg (r.length)
      case measure => have := HKK.out; simp only [List.length_cons] at this; omega
      case rel => exact ⟨r, _, by simp only [List.length_cons] at hrl; omega, rfl, HS.out.keep (fun j hj => by have := Q3.out.block j hj; have := HB.out.block j hj; simp_all) (Nat.le_refl _), Q1.out, HN.out, Q3.out, QX.out⟩
    · have hp : pairsOf r = [] := pairsOf_short (by omega)
      have hfin : AttRow wr (w.heap.size + 2) u5 (n.attrs ++ pairsOf l) := by rw [← hdone, hp, List.append_nil]; exact hrow
      have hr3 : (r.length : Int) ≤ 1 := by omega
      obtain ⟨rA, rc, hv1, _⟩ := hstr.form
      obtain ⟨vA, vc, hv5, hvc⟩ := hrow.slice
      subst hv1 hv5
      have hput := hwth.put (.slice vA done.length vc)
      have c3 := hwth.cell
      have f3 := hwth.free
      have hra := range_of_heap (cs := [.int .i64 n.kind, .string (S n.space), .string (S n.name), .slice vA done.length vc, .slice K n.kids.length kcap, .string (S n.text), .int .i64 n.pos]) hput.box
      have hres := hput.res
      have HF := Lib.hid hfin
      clear hstr hrow hdone hwth hb hk hp hfin hput hr2
      go_wp2_with (first
        | (with_reducible refine gate ?_; refine wp_load_node rfl _ rfl w.heap.size 0 rfl _ rfl hra ?_)
        | (with_reducible refine gate ?_; refine wp_store_node rfl _ _ rfl (w.heap.size + 1) _ _ _ _ _ _ _ _ _ _ _ _ rfl rfl hres rfl ?_; intro w3 hw3 hu3))
      refine bodyPost_ret (v := .agg _) (res_whole Tryd.results13 _ _ (w.heap.size + 1) rfl _ _ hw3 Tryd.underlying25 rfl nodeSize) rfl ⟨_, rfl, ⟨_, _, _, rfl, ?_, ?_⟩, ?_⟩
      · have hlt := HF.out.lt
        refine ownsRow_base (ownsRow_heap HF.out fun k hk => ?_) (by omega)
        have := hlt k hk
        rw [hu3.block k (by simp [World.setCell]; omega) (by omega)]
        exact Below.heap_setCell _ _ _ _ (by simp; omega)
      · exact HK.out.below ((HB.out.setCell (p := ⟨w.heap.size, 3, none⟩) (Nat.le_refl _) _).trans (hu3.below (by omega) (by simp [World.setCell]; omega)))
      · exact (HB.out.setCell (p := ⟨w.heap.size, 3, none⟩) (Nat.le_refl _) _).trans (hu3.below (by omega) (by simp [World.setCell]; omega))
end Go.Proofs.YthilaolkkamedaaDoor
set_option linter.unusedVariables false
namespace Go.Proofs.YthilaolkkamedaaDoor

/-- What replaces a byte; empty: nothing does. -/
def rep (attr : Bool) (c : UInt8) : Bytes :=
  if c.toNat = 38 then [38, 97, 109, 112, 59]
  else if c.toNat = 60 then [38, 108, 116, 59]
  else if c.toNat = 62 then [38, 103, 116, 59]
  else if c.toNat = 13 then [38, 35, 49, 51, 59]
  else if attr = true ∧ c.toNat = 34 then [38, 113, 117, 111, 116, 59]
  else if attr = true ∧ c.toNat = 9 then [38, 35, 57, 59]
  else if attr = true ∧ c.toNat = 10 then [38, 35, 49, 48, 59]
  else []
def escOne (attr : Bool) (c : UInt8) : Bytes := if rep attr c = [] then [c] else rep attr c
def esc (attr : Bool) (l : Bytes) : Bytes := l.flatMap (escOne attr)

theorem rep_38 {a : Bool} {c : UInt8} (h : c.toNat = 38) : rep a c = [38, 97, 109, 112, 59] := by simp [rep, h]
theorem rep_60 {a : Bool} {c : UInt8} (h : c.toNat = 60) : rep a c = [38, 108, 116, 59] := by simp [rep, h]
theorem rep_62 {a : Bool} {c : UInt8} (h : c.toNat = 62) : rep a c = [38, 103, 116, 59] := by simp [rep, h]
theorem rep_13 {a : Bool} {c : UInt8} (h : c.toNat = 13) : rep a c = [38, 35, 49, 51, 59] := by simp [rep, h]
theorem rep_34 {a : Bool} {c : UInt8} (ha : a = true) (h : c.toNat = 34) : rep a c = [38, 113, 117, 111, 116, 59] := by simp [rep, h, ha]
theorem rep_9 {a : Bool} {c : UInt8} (ha : a = true) (h : c.toNat = 9) : rep a c = [38, 35, 57, 59] := by simp [rep, h, ha]
theorem rep_10 {a : Bool} {c : UInt8} (ha : a = true) (h : c.toNat = 10) : rep a c = [38, 35, 49, 48, 59] := by simp [rep, h, ha]
theorem rep_no {a : Bool} {c : UInt8} (h1 : c.toNat ≠ 38) (h2 : c.toNat ≠ 60) (h3 : c.toNat ≠ 62) (h4 : c.toNat ≠ 13)
    (h5 : a = true → c.toNat ≠ 34 ∧ c.toNat ≠ 9 ∧ c.toNat ≠ 10) : rep a c = [] := by
  unfold rep
  rw [if_neg h1, if_neg h2, if_neg h3, if_neg h4, if_neg (fun h => (h5 h.1).1 h.2), if_neg (fun h => (h5 h.1).2.1 h.2), if_neg (fun h => (h5 h.1).2.2 h.2)]
theorem escOne_of {a : Bool} {c : UInt8} {x : Bytes} (h : rep a c = x) (hx : x ≠ []) : escOne a c = x := by
  unfold escOne; rw [h, if_neg hx]
theorem escOne_no {a : Bool} {c : UInt8} (h : rep a c = []) : escOne a c = [c] := by
  unfold escOne; rw [if_pos h]
theorem esc_append (a : Bool) (x y : Bytes) : esc a (x ++ y) = esc a x ++ esc a y := by simp [esc]
theorem esc_take {a : Bool} {l : Bytes} {i : Nat} (h : i < l.length) : esc a (l.take (i + 1)) = esc a (l.take i) ++ escOne a l[i] := by
  rw [List.take_succ_eq_append_getElem h, esc_append]
  simp [esc]
theorem rep_len (a : Bool) (c : UInt8) : (rep a c).length ≤ 6 := by
  unfold rep; repeat' split
  all_goals simp
theorem escOne_len (a : Bool) (c : UInt8) : (escOne a c).length ≤ 6 := by
  unfold escOne; split
  · simp
  · exact rep_len a c
theorem esc_len (a : Bool) (l : Bytes) : (esc a l).length ≤ 6 * l.length := by
  induction l with
  | nil => simp [esc]
  | cons c l ih =>
    have := escOne_len a c
    simp only [esc, List.flatMap_cons, List.length_append, List.length_cons] at ih ⊢
    omega
theorem esc_take_len (a : Bool) (l : Bytes) (i : Nat) : (esc a (l.take i)).length ≤ 6 * l.length := by
  have := esc_len a (l.take i)
  have : (l.take i).length ≤ l.length := by simp; omega
  omega
end Go.Proofs.YthilaolkkamedaaDoor
set_option linter.unusedVariables false
namespace Go.Proofs.YthilaolkkamedaaDoor
open Go.RowKit

theorem ret_S {a b : Bytes} (h : a = b) : Ending.returned (.string (S a)) = .returned (.string (S b)) := by rw [h]

theorem nat_of {n m : Nat} (h : ((n : Int) == (m : Int)) = true) : n = m := by have := eq_of_beq h; omega
theorem nat_ne {n m : Nat} (h : ((n : Int) == (m : Int)) = false) : n ≠ m := by rw [beq_eq_false_iff_ne] at h; omega

set_option maxHeartbeats 1000000 in
theorem replacement_any (a : Bool) (c : UInt8) (w : World) :
    Calls Tryd.prog 32 #[.int .i64 (if a then 1 else 0), .int .u8 c.toNat] w fun e w' => e = .returned (.string (S (rep a c))) ∧ w = w' := by
  cases a
  all_goals
    go_enter Tryd.func32, Tryd.ntmps32
    go_wp2
    all_goals go_ret
    all_goals refine ⟨?_, rfl⟩
    all_goals first
      | exact ret_S (rep_38 (nat_of (m := 38) (by assumption))).symm
      | exact ret_S (rep_60 (nat_of (m := 60) (by assumption))).symm
      | exact ret_S (rep_62 (nat_of (m := 62) (by assumption))).symm
      | exact ret_S (rep_13 (nat_of (m := 13) (by assumption))).symm
      | exact ret_S (rep_34 rfl (nat_of (m := 34) (by assumption))).symm
      | exact ret_S (rep_9 rfl (nat_of (m := 9) (by assumption))).symm
      | exact ret_S (rep_10 rfl (nat_of (m := 10) (by assumption))).symm
      | exact ret_S (rep_no (nat_ne (m := 38) (by assumption)) (nat_ne (m := 60) (by assumption)) (nat_ne (m := 62) (by assumption)) (nat_ne (m := 13) (by assumption)) (fun h => absurd h (by decide))).symm
      | exact ret_S (rep_no (nat_ne (m := 38) (by assumption)) (nat_ne (m := 60) (by assumption)) (nat_ne (m := 62) (by assumption)) (nat_ne (m := 13) (by assumption)) (fun _ => ⟨nat_ne (m := 34) (by assumption), nat_ne (m := 9) (by assumption), nat_ne (m := 10) (by assumption)⟩)).symm

set_option maxHeartbeats 2000000 in
theorem escape_any (a : Bool) (l : Bytes) (w : World) (hl : l.length ≤ 1099511627776) :
    Calls Tryd.prog 31 #[.int .i64 (if a then 1 else 0), .func (.func 32) #[] #[], .string (S l)] w fun e w' => e = .returned (.string (S (esc a l))) ∧ Below w.heap.size w w' := by
  have hbn := Bld.new w
  generalize hk : (if a then (1 : Int) else 0) = k at *
  have HK := Lib.hid hk
  have HB0 := Lib.hid hbn
  clear hk hbn
  go_enter Tryd.func31, Tryd.ntmps31
  go_wp2_with fail
  go_loopw [8, 13] (fun f8 i13 wr => ∃ f i : Nat, f ≤ i ∧ i ≤ l.length ∧ f8 = .int .i64 f ∧ i13 = .int .i64 i ∧ Bld w.heap.size w.heap.size (esc a (l.take f)) wr ∧ esc a (l.take i) = esc a (l.take f) ++ (l.drop f).take (i - f) ∧ Below w.heap.size w wr) (fun _ i13 _ => l.length - (intOf i13).toNat)
  case atStart => exact ⟨0, 0, Nat.le_refl _, Nat.zero_le _, rfl, rfl, by simpa [esc] using HB0.out, by simp, (Below.refl _ _).alloc (Nat.le_refl _) _⟩
  case round =>
    obtain ⟨f, i, hfi, hil, rfl, rfl, hbl, hes, hb⟩ := hrel
    have HBL := Lib.hid hbl
    have HES := Lib.hid hes
    have HB := Lib.hid hb
    have hsz := hb.size
    clear hbl hes hb
    by_cases hlt : i < l.length
    · have hc := fun w => replacement_any a l[i] w
      rw [HK.out] at hc
      have HC := Lib.hid hc
      clear hc
      have hil' : (i : Int) ≤ l.length := by omega
      have hfi' : (f : Int) ≤ i := by omega
      cases hr : rep a l[i] with
      | nil =>
        go_wp2_with (go_at_call 32; refine (HC.out _).mono ?_; rintro e w' ⟨rfl, rfl⟩; rw [hr])
        go_roundw
        case rel =>
          refine ⟨f, i + 1, by omega, by omega, rfl, by go_num, HBL.out, ?_, HB.out⟩
          rw [esc_take hlt, HES.out, escOne_no hr, List.append_assoc]
          congr 1
          rw [show i + 1 - f = (i - f) + 1 by omega, List.take_succ_eq_append_getElem (by simp; omega), List.getElem_drop]
          congr 2
          simp only [show f + (i - f) = i by omega]
        case measure => simp [intOf]; omega
      | cons x xs =>
        have hx : (x :: xs).length ≤ 6 := by rw [← hr]; exact rep_len _ _
        have hl1 : (esc a (l.take f)).length + ((l.drop f).take (i - f)).length ≤ 140737488355328 := by
          have := esc_take_len a l f
          simp only [List.length_take, List.length_drop]; omega
        have hl2 : (esc a (l.take f) ++ (l.drop f).take (i - f)).length + (x :: xs).length ≤ 140737488355328 := by
          have := esc_take_len a l f
          simp only [List.length_append, List.length_take, List.length_drop]; omega
        have hfin : esc a (l.take (i + 1)) = (esc a (l.take f) ++ (l.drop f).take (i - f)) ++ (x :: xs) := by
          rw [esc_take hlt, HES.out, escOne_of hr (by simp)]
        have HF := Lib.hid hfin
        clear hfin
        generalize esc a (l.take f) = A at *
        go_wp2_with (go_at_call 32; refine (HC.out _).mono ?_; rintro e w' ⟨rfl, rfl⟩; rw [hr])
        refine (writeString_any w.heap.size w.heap.size A _ _ HBL.out hl1 hsz).mono ?_
        rintro e w1 ⟨rfl, hb1, hbel1, _⟩
        have HB1 := Lib.hid hb1
        have HE1 := Lib.hid hbel1
        have hs1 := hbel1.size
        clear hb1 hbel1
        go_wp2_with fail
        refine (writeString_any w.heap.size w.heap.size _ (x :: xs) _ HB1.out hl2 (by omega)).mono ?_
        rintro e w2 ⟨rfl, hb2, hbel2, _⟩
        have HB2 := Lib.hid hb2
        have HE2 := Lib.hid hbel2
        clear hb2 hbel2
        go_wp2_with fail
        go_roundw
        case rel =>
          exact ⟨i + 1, i + 1, by omega, by omega, by go_num, by go_num, by rw [HF.out]; exact HB2.out, by simp, HB.out.trans (HE1.out.trans HE2.out)⟩
        case measure => simp [intOf]; omega
    · obtain rfl : i = l.length := by omega
      have hfl : (f : Int) ≤ l.length := by omega
      have hl1 : (esc a (l.take f)).length + (l.drop f).length ≤ 140737488355328 := by
        have := esc_take_len a l f
        simp only [List.length_drop]; omega
      have hfin : esc a l = esc a (l.take f) ++ l.drop f := by
        have := HES.out
        rw [List.take_length] at this
        rw [List.take_of_length_le (l := l.drop f) (by rw [List.length_drop]; omega)] at this
        exact this
      have HF := Lib.hid hfin
      clear hfin
      generalize esc a (l.take f) = A at *
      go_wp2_with fail
      refine (writeString_any w.heap.size w.heap.size A _ _ HBL.out hl1 hsz).mono ?_
      rintro e w1 ⟨rfl, hb1, hbel1, _⟩
      have HB1 := Lib.hid hb1
      have HE1 := Lib.hid hbel1
      have hs1 := hbel1.size
      clear hb1 hbel1
      go_wp2_with fail
      refine (builderString_any w.heap.size w.heap.size _ _ HB1.out (by omega)).mono ?_
      rintro e w2 ⟨rfl, hb2, hbel2, _⟩
      have HE2 := Lib.hid hbel2
      clear hb2 hbel2
      go_wp2_with fail
      go_ret
      exact ⟨ret_S HF.out.symm, HB.out.trans (HE1.out.trans HE2.out)⟩

set_option maxHeartbeats 1000000 in
theorem escText_any (l : Bytes) (w : World) (hl : l.length ≤ 1099511627776) :
    Calls Tryd.prog 22 #[.string (S l)] w fun e w' => e = .returned (.string (S (esc false l))) ∧ Below w.heap.size w w' := by
  go_enter Tryd.func22, Tryd.ntmps22
  go_wp2_with (go_at_call 31; refine (escape_any false l _ hl).mono ?_; rintro e w' ⟨rfl, hb⟩)
  go_ret
  exact ⟨rfl, hb⟩
set_option maxHeartbeats 1000000 in
theorem escAttr_any (l : Bytes) (w : World) (hl : l.length ≤ 1099511627776) :
    Calls Tryd.prog 23 #[.string (S l)] w fun e w' => e = .returned (.string (S (esc true l))) ∧ Below w.heap.size w w' := by
  go_enter Tryd.func23, Tryd.ntmps23
  go_wp2_with (go_at_call 31; refine (escape_any true l _ hl).mono ?_; rintro e w' ⟨rfl, hb⟩)
  go_ret
  exact ⟨rfl, hb⟩

set_option maxHeartbeats 4000000 in
set_option maxRecDepth 100000 in
theorem refEscape_true (l : Bytes) (w : World) (hl : l.length ≤ 1099511627776) :
    Calls Tryd.prog 33 #[.string (S l), .bool true] w fun e w' => e = .returned (.string (S (esc true l))) ∧ Below w.heap.size w w' := by
  go_enter Tryd.func33, Tryd.ntmps33
  go_wp2_with fail
  go_loopw [5, 6] (fun v5 i6 wr => ∃ i : Nat, i ≤ l.length ∧ i6 = .int .i64 i ∧ Own w.heap.size v5 (esc true (l.take i)) wr ∧ Below w.heap.size w wr) (fun _ i6 _ => l.length - (intOf i6).toNat)
  case atStart => exact ⟨0, Nat.zero_le _, rfl, Own.nil _ _, Below.refl _ _⟩
  case round =>
    obtain ⟨i, hil, rfl, hown, hb⟩ := hrel
    have HO := Lib.hid hown
    have HB := Lib.hid hb
    have hsz := hb.size
    clear hown hb
    by_cases hlt : i < l.length
    · have hil' : (i : Int) < l.length := by omega
      have hlen := esc_take_len true l i
      have hst := esc_take (a := true) hlt
      have HST := Lib.hid hst
      clear hst
      generalize esc true (l.take i) = A at *
      go_wp2_with (first
        | (at_builtin; refine own_append_str rfl _ _ rfl w.heap.size _ A _ rfl HO.out rfl (by simp only [List.length_cons, List.length_nil]; omega) hsz ?_; intro v' w' hown' hb')
        | (at_builtin; refine own_append_byte rfl _ _ rfl w.heap.size _ A rfl HO.out rfl (by omega) hsz ?_; intro v' w' hown' hb'))
      all_goals
        go_roundw
        case rel =>
          refine ⟨i + 1, by omega, by go_num, ?_, HB.out.trans (Below.mono (by assumption) (Nat.le_refl _))⟩
          rw [HST.out]
          first
            | (rw [escOne_of (rep_38 (nat_of (m := 38) (by assumption))) (by simp)]; assumption)
            | (rw [escOne_of (rep_60 (nat_of (m := 60) (by assumption))) (by simp)]; assumption)
            | (rw [escOne_of (rep_62 (nat_of (m := 62) (by assumption))) (by simp)]; assumption)
            | (rw [escOne_of (rep_13 (nat_of (m := 13) (by assumption))) (by simp)]; assumption)
            | (rw [escOne_of (rep_34 rfl (nat_of (m := 34) (by assumption))) (by simp)]; assumption)
            | (rw [escOne_of (rep_9 rfl (nat_of (m := 9) (by assumption))) (by simp)]; assumption)
            | (rw [escOne_of (rep_10 rfl (nat_of (m := 10) (by assumption))) (by simp)]; assumption)
            | (rw [escOne_no (rep_no (nat_ne (m := 38) (by assumption)) (nat_ne (m := 60) (by assumption)) (nat_ne (m := 62) (by assumption)) (nat_ne (m := 13) (by assumption)) (fun _ => ⟨nat_ne (m := 34) (by assumption), nat_ne (m := 9) (by assumption), nat_ne (m := 10) (by assumption)⟩))]; assumption)
        case measure => simp [intOf]; omega
    · obtain rfl : i = l.length := by omega
      rw [List.take_length] at HO
      have hcv := own_string HO.out
      go_wp2
      go_ret
      exact ⟨rfl, HB.out⟩

set_option maxHeartbeats 4000000 in
set_option maxRecDepth 100000 in
theorem refEscape_false (l : Bytes) (w : World) (hl : l.length ≤ 1099511627776) :
    Calls Tryd.prog 33 #[.string (S l), .bool false] w fun e w' => e = .returned (.string (S (esc false l))) ∧ Below w.heap.size w w' := by
  go_enter Tryd.func33, Tryd.ntmps33
  go_wp2_with fail
  go_loopw [5, 6] (fun v5 i6 wr => ∃ i : Nat, i ≤ l.length ∧ i6 = .int .i64 i ∧ Own w.heap.size v5 (esc false (l.take i)) wr ∧ Below w.heap.size w wr) (fun _ i6 _ => l.length - (intOf i6).toNat)
  case atStart => exact ⟨0, Nat.zero_le _, rfl, Own.nil _ _, Below.refl _ _⟩
  case round =>
    obtain ⟨i, hil, rfl, hown, hb⟩ := hrel
    have HO := Lib.hid hown
    have HB := Lib.hid hb
    have hsz := hb.size
    clear hown hb
    by_cases hlt : i < l.length
    · have hil' : (i : Int) < l.length := by omega
      have hlen := esc_take_len false l i
      have hst := esc_take (a := false) hlt
      have HST := Lib.hid hst
      clear hst
      generalize esc false (l.take i) = A at *
      go_wp2_with (first
        | (at_builtin; refine own_append_str rfl _ _ rfl w.heap.size _ A _ rfl HO.out rfl (by simp only [List.length_cons, List.length_nil]; omega) hsz ?_; intro v' w' hown' hb')
        | (at_builtin; refine own_append_byte rfl _ _ rfl w.heap.size _ A rfl HO.out rfl (by omega) hsz ?_; intro v' w' hown' hb'))
      all_goals
        go_roundw
        case rel =>
          refine ⟨i + 1, by omega, by go_num, ?_, HB.out.trans (Below.mono (by assumption) (Nat.le_refl _))⟩
          rw [HST.out]
          first
            | (rw [escOne_of (rep_38 (nat_of (m := 38) (by assumption))) (by simp)]; assumption)
            | (rw [escOne_of (rep_60 (nat_of (m := 60) (by assumption))) (by simp)]; assumption)
            | (rw [escOne_of (rep_62 (nat_of (m := 62) (by assumption))) (by simp)]; assumption)
            | (rw [escOne_of (rep_13 (nat_of (m := 13) (by assumption))) (by simp)]; assumption)
            | (rw [escOne_no (rep_no (nat_ne (m := 38) (by assumption)) (nat_ne (m := 60) (by assumption)) (nat_ne (m := 62) (by assumption)) (nat_ne (m := 13) (by assumption)) (fun h => absurd h (by decide)))]; assumption)
        case measure => simp [intOf]; omega
    · obtain rfl : i = l.length := by omega
      rw [List.take_length] at HO
      have hcv := own_string HO.out
      go_wp2
      go_ret
      exact ⟨rfl, HB.out⟩

theorem refEscape_any (a : Bool) (l : Bytes) (w : World) (hl : l.length ≤ 1099511627776) :
    Calls Tryd.prog 33 #[.string (S l), .bool a] w fun e w' => e = .returned (.string (S (esc a l))) ∧ Below w.heap.size w w' := by
  cases a
  · exact refEscape_false l w hl
  · exact refEscape_true l w hl
end Go.Proofs.YthilaolkkamedaaDoor
set_option linter.unusedVariables false
namespace Go.Proofs.YthilaolkkamedaaDoor

def isChar (r : Int) : Bool := decide (r = 9 ∨ r = 10 ∨ r = 13 ∨ (32 ≤ r ∧ r ≤ 55295) ∨ (57344 ≤ r ∧ r ≤ 65533) ∨ (65536 ≤ r ∧ r ≤ 1114111))
theorem isChar_yes {r : Int} (h : r = 9 ∨ r = 10 ∨ r = 13 ∨ (32 ≤ r ∧ r ≤ 55295) ∨ (57344 ≤ r ∧ r ≤ 65533) ∨ (65536 ≤ r ∧ r ≤ 1114111)) : isChar r = true := decide_eq_true h
theorem isChar_no {r : Int} (h : ¬ (r = 9 ∨ r = 10 ∨ r = 13 ∨ (32 ≤ r ∧ r ≤ 55295) ∨ (57344 ≤ r ∧ r ≤ 65533) ∨ (65536 ≤ r ∧ r ≤ 1114111))) : isChar r = false := decide_eq_false h
theorem isChar_iff {r : Int} : isChar r = true ↔ (r = 9 ∨ r = 10 ∨ r = 13 ∨ (32 ≤ r ∧ r ≤ 55295) ∨ (57344 ≤ r ∧ r ≤ 65533) ∨ (65536 ≤ r ∧ r ≤ 1114111)) := by unfold isChar; simp

def startRanges : List (Int × Int) := [(65, 90), (95, 95), (97, 122), (192, 214), (216, 246), (248, 767), (880, 893), (895, 8191), (8204, 8205), (8304, 8591), (11264, 12271), (12289, 55295), (63744, 64975), (65008, 65533), (65536, 983039)]
def moreRanges : List (Int × Int) := [(45, 46), (48, 57), (183, 183), (768, 879), (8255, 8256)]
def inRanges (l : List (Int × Int)) (r : Int) : Bool := l.any fun p => decide (p.1 ≤ r ∧ r ≤ p.2)
def nameStart (r : Int) : Bool := inRanges startRanges r
def nameChar (r : Int) : Bool := inRanges moreRanges r || nameStart r

def nsLetter (r : Int) : Bool := decide ((65 ≤ r ∧ r ≤ 90) ∨ (97 ≤ r ∧ r ≤ 122) ∨ r = 95)
def nsLow (r : Int) : Bool := decide ((192 ≤ r ∧ r ≤ 767 ∧ r ≠ 215 ∧ r ≠ 247) ∨ (880 ≤ r ∧ r ≤ 8191 ∧ r ≠ 894))
def nsMiddle (r : Int) : Bool := decide (r = 8204 ∨ r = 8205 ∨ (8304 ≤ r ∧ r ≤ 8591) ∨ (11264 ≤ r ∧ r ≤ 12271) ∨ (12289 ≤ r ∧ r ≤ 55295))
def nsHigh (r : Int) : Bool := decide ((63744 ≤ r ∧ r ≤ 64975) ∨ (65008 ≤ r ∧ r ≤ 65533) ∨ (65536 ≤ r ∧ r ≤ 983039))
theorem nameStart_eq (r : Int) : nameStart r = (nsLetter r || nsLow r || nsMiddle r || nsHigh r) := by
  rw [Bool.eq_iff_iff]
  simp only [nameStart, inRanges, startRanges, nsLetter, nsLow, nsMiddle, nsHigh, List.any_cons, List.any_nil, Bool.or_eq_true, decide_eq_true_eq, Bool.or_false]
  omega
theorem more_iff (r : Int) : inRanges moreRanges r = true ↔ ((48 ≤ r ∧ r ≤ 57) ∨ r = 45 ∨ r = 46 ∨ r = 183 ∨ (768 ≤ r ∧ r ≤ 879) ∨ r = 8255 ∨ r = 8256) := by
  simp only [inRanges, moreRanges, List.any_cons, List.any_nil, Bool.or_eq_true, decide_eq_true_eq, Bool.or_false]
  omega
theorem nameChar_of_start {r : Int} (h : nameStart r = true) : nameChar r = true := by simp [nameChar, h]
theorem nameStart_pos {r : Int} (h : nameStart r = true) : 65 ≤ r ∧ r ≤ 983039 ∧ isChar r = true := by
  simp only [nameStart, inRanges, startRanges, List.any_cons, List.any_nil, Bool.or_eq_true, decide_eq_true_eq, Bool.or_false] at h
  rw [isChar_iff]
  omega

/-- Offset and error of the first byte that is no part of an XML character. -/
def chkS : Nat → Bytes → Nat → Nat × Nat
  | _, [], at_ => (at_, 0)
  | k + 1, _ :: t, at_ => chkS k t (at_ + 1)
  | 0, a :: t, at_ =>
    if (dec (a :: t)).2 = 0 then (at_, 5)
    else if isChar (dec (a :: t)).1 then chkS ((dec (a :: t)).2 - 1) t (at_ + 1)
    else (at_, 6)
def check (l : Bytes) : Nat × Nat := chkS 0 l 0

theorem chkS_skip : ∀ (k : Nat) (l : Bytes) (at_ : Nat), k ≤ l.length → chkS k l at_ = chkS 0 (l.drop k) (at_ + k)
  | 0, l, at_, _ => by simp
  | k + 1, [], _, h => by simp at h
  | k + 1, a :: t, at_, h => by
    rw [chkS, chkS_skip k t (at_ + 1) (by simpa using h)]
    simp only [List.drop_succ_cons]
    rw [show at_ + 1 + k = at_ + (k + 1) by omega]
theorem chk_bad {l : Bytes} {at_ : Nat} (h0 : l ≠ []) (h : (dec l).2 = 0) : chkS 0 l at_ = (at_, 5) := by
  cases l with
  | nil => exact absurd rfl h0
  | cons a t => simp [chkS, h]
theorem chk_char {l : Bytes} {at_ : Nat} (h0 : l ≠ []) (h : (dec l).2 ≠ 0) (hc : isChar (dec l).1 = false) : chkS 0 l at_ = (at_, 6) := by
  cases l with
  | nil => exact absurd rfl h0
  | cons a t => simp [chkS, h, hc]
theorem chk_next {l : Bytes} {at_ : Nat} (h0 : l ≠ []) (h : (dec l).2 ≠ 0) (hc : isChar (dec l).1 = true) : chkS 0 l at_ = chkS 0 (l.drop (dec l).2) (at_ + (dec l).2) := by
  cases l with
  | nil => exact absurd rfl h0
  | cons a t =>
    have hl := (dec_le (a :: t)).1
    rw [chkS, if_neg h, if_pos hc, chkS_skip _ _ _ (by simp at hl; omega)]
    obtain ⟨k, hk⟩ : ∃ k, (dec (a :: t)).2 = k + 1 := ⟨(dec (a :: t)).2 - 1, by omega⟩
    rw [hk]
    simp only [Nat.add_sub_cancel, List.drop_succ_cons]
    rw [show at_ + 1 + k = at_ + (k + 1) by omega]

/-! The reference's way to decode: encode what each length would yield. -/
def rp0 (l : Bytes) (n : Nat) : Nat :=
  if n = 2 then (l.getD 0 0).toNat % 32 else if n = 3 then (l.getD 0 0).toNat % 16 else if n = 4 then (l.getD 0 0).toNat % 8 else (l.getD 0 0).toNat
def rp (l : Bytes) (n : Nat) : Nat → Nat
  | 0 => rp0 l n
  | i + 1 => rp l n i * 64 + (l.getD (i + 1) 0).toNat % 64
def rv (l : Bytes) (n : Nat) : Nat := rp l n (n - 1)
theorem rp_le (l : Bytes) (n i : Nat) (h : i ≤ 3) : rp l n i < 67108864 := by
  have h0 : rp0 l n < 256 := by have := u8_lt (l.getD 0 0); unfold rp0; repeat' split
                                all_goals omega
  match i, h with
  | 0, _ => simp only [rp]; omega
  | 1, _ => simp only [rp]; omega
  | 2, _ => simp only [rp]; omega
  | 3, _ => simp only [rp]; omega
def encI (r : Int) : Bytes := if r < 0 then [] else enc r.toNat
theorem encI_nat (n : Nat) : encI (n : Int) = enc n := by simp [encI, Int.not_lt.2 (Int.natCast_nonneg n)]

theorem ref_hit {l : Bytes} {n : Nat} (h1 : 1 ≤ n) (h2 : n ≤ l.length) (h : enc (rv l n) = l.take n) : dec l = (rv l n, n) := by
  have ho : okRune (rv l n) := by
    by_cases ho : okRune (rv l n)
    · exact ho
    · exfalso
      have : enc (rv l n) = [] := by simp [enc, ho]
      rw [this] at h
      have := congrArg List.length h
      simp at this
      omega
  have := enc_dec ho (l.drop n)
  rw [h, List.take_append_drop] at this
  rw [this, List.length_take, Nat.min_eq_left h2]
theorem dec_cases (l : Bytes) : dec l = (0, 0) ∨ ((dec l).2 ≠ 0 ∧ rv l (dec l).2 = (dec l).1) := by
  match l with
  | [] => exact .inl rfl
  | a :: t =>
    by_cases h1 : a.toNat < 128
    · refine .inr ?_
      simp [dec, h1, rv, rp, rp0]
    · match t with
      | [] => refine .inl ?_; simp [dec, h1]
      | b :: t =>
        by_cases h2 : a.toNat / 32 = 6
        · by_cases h3 : b.toNat / 64 = 2 ∧ 128 ≤ a.toNat % 32 * 64 + b.toNat % 64
          · refine .inr ?_
            simp [dec, h1, h2, h3, rv, rp, rp0]
          · refine .inl ?_
            simp [dec, h1, h2, h3]
        · match t with
          | [] => refine .inl ?_; simp [dec, h1, h2]
          | c :: t =>
            by_cases h5 : a.toNat / 16 = 14
            · by_cases h6 : b.toNat / 64 = 2 ∧ c.toNat / 64 = 2 ∧ 2048 ≤ a.toNat % 16 * 4096 + b.toNat % 64 * 64 + c.toNat % 64 ∧
                (a.toNat % 16 * 4096 + b.toNat % 64 * 64 + c.toNat % 64 < 55296 ∨ 57344 ≤ a.toNat % 16 * 4096 + b.toNat % 64 * 64 + c.toNat % 64)
              · refine .inr ?_
                simp only [dec, h1, h2, h5, if_false, if_true]
                rw [if_pos h6]
                simp [rv, rp, rp0]
                omega
              · refine .inl ?_
                simp only [dec, h1, h2, h5, if_false, if_true]
                rw [if_neg h6]
            · match t with
              | [] => refine .inl ?_; simp [dec, h1, h2, h5]
              | d :: t =>
                by_cases h10 : a.toNat / 8 = 30 ∧ b.toNat / 64 = 2 ∧ c.toNat / 64 = 2 ∧ d.toNat / 64 = 2 ∧
                    65536 ≤ a.toNat % 8 * 262144 + b.toNat % 64 * 4096 + c.toNat % 64 * 64 + d.toNat % 64 ∧
                    a.toNat % 8 * 262144 + b.toNat % 64 * 4096 + c.toNat % 64 * 64 + d.toNat % 64 ≤ 1114111
                · refine .inr ?_
                  simp only [dec, h1, h2, h5, if_false]
                  rw [if_pos h10]
                  simp [rv, rp, rp0]
                  omega
                · refine .inl ?_
                  simp only [dec, h1, h2, h5, if_false]
                  rw [if_neg h10]
theorem dec_zero {l : Bytes} (h : (dec l).2 = 0) : dec l = (0, 0) := (dec_cases l).elim id fun h' => absurd h h'.1
theorem dec_rv {l : Bytes} (h : (dec l).2 ≠ 0) : rv l (dec l).2 = (dec l).1 := (dec_cases l).elim (fun e => absurd (by rw [e]) h) fun h' => h'.2
theorem ref_miss {l : Bytes} (h : ∀ n, 1 ≤ n → n ≤ 4 → n ≤ l.length → enc (rv l n) ≠ l.take n) : dec l = (0, 0) := by
  by_cases h0 : (dec l).2 = 0
  · exact dec_zero h0
  · exfalso
    have hl := dec_le l
    exact h _ (by omega) hl.2 hl.1 (by rw [dec_rv h0]; exact (dec_enc l h0).2)
end Go.Proofs.YthilaolkkamedaaDoor
set_option linter.unusedVariables false
namespace Go.Proofs.YthilaolkkamedaaDoor

/-- May this rune stand in a tag's or attribute's name; 'f': at its head. -/
def qch (f : Bool) (r : Int) : Bool := decide (r = 58) || (!f && nameChar r) || nameStart r
/-- The length of the longest name at the head. -/
def nmS : Nat → Bool → Bytes → Nat
  | _, _, [] => 0
  | k + 1, f, _ :: t => 1 + nmS k f t
  | 0, f, a :: t =>
    if (dec (a :: t)).2 = 0 then 0
    else if qch f (dec (a :: t)).1 then 1 + nmS ((dec (a :: t)).2 - 1) false t
    else 0
def nameLen (l : Bytes) : Nat := nmS 0 true l
def isQName (l : Bytes) : Bool := l != [] && nameLen l == l.length

theorem nmS_skip : ∀ (k : Nat) (f : Bool) (l : Bytes), k ≤ l.length → nmS k f l = k + nmS 0 f (l.drop k)
  | 0, f, l, _ => by simp
  | k + 1, f, [], h => by simp at h
  | k + 1, f, a :: t, h => by
    rw [nmS, nmS_skip k f t (by simpa using h)]
    simp only [List.drop_succ_cons]
    omega
theorem nm_nil (f : Bool) : nmS 0 f [] = 0 := rfl
theorem nm_stop {l : Bytes} {f : Bool} (h : (dec l).2 = 0 ∨ qch f (dec l).1 = false) : nmS 0 f l = 0 := by
  cases l with
  | nil => rfl
  | cons a t =>
    rw [nmS]
    rcases h with h | h
    · rw [if_pos h]
    · simp [h]
theorem nm_next {l : Bytes} {f : Bool} (h : (dec l).2 ≠ 0) (hc : qch f (dec l).1 = true) : nmS 0 f l = (dec l).2 + nmS 0 false (l.drop (dec l).2) := by
  cases l with
  | nil => exact absurd rfl h
  | cons a t =>
    have hl := (dec_le (a :: t)).1
    rw [nmS, if_neg h, if_pos hc, nmS_skip _ _ _ (by simp at hl; omega)]
    obtain ⟨k, hk⟩ : ∃ k, (dec (a :: t)).2 = k + 1 := ⟨(dec (a :: t)).2 - 1, by omega⟩
    rw [hk]
    simp only [Nat.add_sub_cancel, List.drop_succ_cons]
    omega
theorem nmS_le : ∀ (l : Bytes) (k : Nat) (f : Bool), nmS k f l ≤ l.length
  | [], k, f => by cases k <;> simp [nmS]
  | a :: t, k + 1, f => by
    have := nmS_le t k f
    rw [nmS]; simp; omega
  | a :: t, 0, f => by
    rw [nmS]
    split
    · simp
    · split
      · have := nmS_le t ((dec (a :: t)).2 - 1) false
        simp; omega
      · simp
theorem nameLen_le (l : Bytes) : nameLen l ≤ l.length := nmS_le l 0 true
theorem isQName_iff (l : Bytes) : isQName l = true ↔ l ≠ [] ∧ nameLen l = l.length := by
  unfold isQName; simp
theorem qch_ref (f : Bool) (r : Int) : qch f r = ((decide (r = 58) || nameChar r) && (!f || decide (r = 58) || nameStart r)) := by
  have := @nameChar_of_start r
  unfold qch
  cases f <;> cases h1 : decide (r = 58) <;> cases h2 : nameChar r <;> cases h3 : nameStart r <;> simp_all
end Go.Proofs.YthilaolkkamedaaDoor
set_option linter.unusedVariables false
namespace Go.Proofs.YthilaolkkamedaaDoor

def charsOk (l : Bytes) : Bool := (check l).2 == 0
def attsOkS : List Bytes → List Att → Bool
  | _, [] => true
  | seen, a :: l => a.space == [] && !seen.contains a.name && isQName a.name && charsOk a.value && attsOkS (a.name :: seen) l
def attsOk (l : List Att) : Bool := attsOkS [] l
/-- Valid character data. -/
def dataOk (n : Node) : Bool := n.text != [] && charsOk n.text && n.space == [] && n.name == [] && n.attrs.length == 0 && n.kids.length == 0
/-- What is asked of an element itself. -/
def headOk (n : Node) : Bool := n.kind == 0 && n.space == [] && n.text == [] && isQName n.name && attsOk n.attrs
mutual
/-- A valid element; 'lim': with the nesting limit. -/
def vld (lim : Bool) : Node → Nat → Bool
  | .mk k s nm ats ks t p, d => !(lim && decide (100 < d)) && headOk (.mk k s nm ats ks t p) && vldL lim ks d false
def vldL (lim : Bool) : List Node → Nat → Bool → Bool
  | [], _, _ => true
  | k :: ks, d, data => (if k.kind == 1 then !data && dataOk k else vld lim k (d + 1)) && vldL lim ks d (k.kind == 1)
end
theorem vld_eq (lim : Bool) (n : Node) (d : Nat) : vld lim n d = (!(lim && decide (100 < d)) && headOk n && vldL lim n.kids d false) := by cases n; rw [vld]; rfl
theorem vldL_step {lim : Bool} {ks : List Node} {d i : Nat} {data : Bool} (hi : i < ks.length) :
    vldL lim (ks.drop i) d data = ((if ks[i].kind == 1 then !data && dataOk ks[i] else vld lim ks[i] (d + 1)) && vldL lim (ks.drop (i + 1)) d (ks[i].kind == 1)) := by
  rw [List.drop_eq_getElem_cons hi, vldL]
theorem attsOkS_step {l : List Att} {i : Nat} {seen : List Bytes} (hi : i < l.length) :
    attsOkS seen (l.drop i) = (l[i].space == [] && !seen.contains l[i].name && isQName l[i].name && charsOk l[i].value && attsOkS (l[i].name :: seen) (l.drop (i + 1))) := by
  rw [List.drop_eq_getElem_cons hi, attsOkS]
/-- What Check asks. -/
def validTree (n : Node) : Bool := vld true n 1
theorem attsOkS_perm : ∀ (l : List Att) (s1 s2 : List Bytes), (∀ x, x ∈ s1 ↔ x ∈ s2) → attsOkS s1 l = attsOkS s2 l
  | [], _, _, _ => by rw [attsOkS, attsOkS]
  | a :: l, s1, s2, h => by
    rw [attsOkS, attsOkS]
    have h1 : s1.contains a.name = s2.contains a.name := by rw [Bool.eq_iff_iff]; simp [h]
    rw [h1, attsOkS_perm l (a.name :: s1) (a.name :: s2) (fun x => by simp [h])]
end Go.Proofs.YthilaolkkamedaaDoor
set_option linter.unusedVariables false
namespace Go.Proofs.YthilaolkkamedaaDoor

/-- An attribute's canonical form. -/
def attC (a : Att) : Bytes := [32] ++ a.name ++ [61, 34] ++ esc true a.value ++ [34]
def attsC : List Att → Bytes
  | [] => []
  | a :: l => attC a ++ attsC l
mutual
/-- A node's canonical form. -/
def canon : Node → Bytes
  | .mk k s nm ats ks t p => if k = 1 then esc false t else [60] ++ nm ++ attsC ats ++ (if ks.length = 0 then [47, 62] else [62] ++ canonL ks ++ [60, 47] ++ nm ++ [62])
def canonL : List Node → Bytes
  | [] => []
  | k :: ks => canon k ++ canonL ks
end
theorem canon_text {n : Node} (h : n.kind = 1) : canon n = esc false n.text := by
  cases n; simp only [Node.kind, Node.text] at *; rw [canon, if_pos h]
theorem canon_elem {n : Node} (h : ¬ n.kind = 1) : canon n = [60] ++ n.name ++ attsC n.attrs ++ (if n.kids.length = 0 then [47, 62] else [62] ++ canonL n.kids ++ [60, 47] ++ n.name ++ [62]) := by
  cases n; simp only [Node.kind, Node.name, Node.attrs, Node.kids] at *; rw [canon, if_neg h]; rfl
theorem attsC_step {l : List Att} {i : Nat} (hi : i < l.length) : attsC (l.drop i) = attC l[i] ++ attsC (l.drop (i + 1)) := by
  rw [List.drop_eq_getElem_cons hi, attsC]
theorem canonL_step {l : List Node} {i : Nat} (hi : i < l.length) : canonL (l.drop i) = canon l[i] ++ canonL (l.drop (i + 1)) := by
  rw [List.drop_eq_getElem_cons hi, canonL]
theorem attsC_take {l : List Att} {i : Nat} (hi : i < l.length) : attsC (l.take (i + 1)) = attsC (l.take i) ++ attC l[i] := by
  induction l generalizing i with
  | nil => simp at hi
  | cons a l ih =>
    cases i with
    | zero => simp [attsC]
    | succ i =>
      simp only [List.length_cons] at hi
      simp only [List.take_succ_cons, attsC, List.getElem_cons_succ, List.append_assoc]
      rw [ih (by omega)]
theorem canonL_take {l : List Node} {i : Nat} (hi : i < l.length) : canonL (l.take (i + 1)) = canonL (l.take i) ++ canon l[i] := by
  induction l generalizing i with
  | nil => simp at hi
  | cons a l ih =>
    cases i with
    | zero => simp [canonL]
    | succ i =>
      simp only [List.length_cons] at hi
      simp only [List.take_succ_cons, canonL, List.getElem_cons_succ, List.append_assoc]
      rw [ih (by omega)]
/-- The line ahead of every document. -/
def header : Bytes := [60, 63, 120, 109, 108, 32, 118, 101, 114, 115, 105, 111, 110, 61, 34, 49, 46, 48, 34, 32, 101, 110, 99, 111, 100, 105, 110, 103, 61, 34, 85, 84, 70, 45, 56, 34, 63, 62, 10]
/-- The whole document. -/
def doc (n : Node) : Bytes := header ++ canon n ++ [10]
end Go.Proofs.YthilaolkkamedaaDoor
set_option linter.unusedVariables false
namespace Go.Proofs.YthilaolkkamedaaDoor
open Go.RowKit

/-- The closure of Write: it holds the builder and the variable that it lies in. -/
abbrev wFn (b cl : Nat) : Value := .func (.func 20) #[] #[.pointer (some ⟨b, 0, none⟩), .pointer (some ⟨cl, 0, none⟩)]
structure Wr (B b cl : Nat) (X : Bytes) (w : World) : Prop where
  bld : Bld B b X w
  box : w.heap[cl]? = some (.cells #[wFn b cl] 52)
  ne : cl ≠ b
  le : B ≤ w.heap.size
structure Fr (B b : Nat) (w w' : World) : Prop where
  below : Below B w w'
  kept : Kept b w w'
theorem Fr.refl (B b : Nat) (w : World) : Fr B b w w := ⟨Below.refl _ _, Lib.OthersKept.refl _ _ _⟩
theorem Fr.trans {B b : Nat} {w w1 w2 : World} (h : Fr B b w w1) (k : Fr B b w1 w2) : Fr B b w w2 := ⟨h.below.trans k.below, h.kept.trans k.kept⟩
theorem Fr.alloc {B b : Nat} {w w1 : World} (h : Fr B b w w1) (hB : B ≤ w1.heap.size) (o : Obj) : Fr B b w (w1.alloc o) := ⟨h.below.alloc hB o, h.kept.alloc o⟩
theorem Fr.drew {B b : Nat} {w w1 : World} (h : Fr B b w w1) : Fr B b w w1.drew := ⟨h.below.drew, h.kept.drew⟩
theorem Fr.next {B b : Nat} {w w1 w2 : World} (h : Fr B b w w1) (hB : B ≤ w1.heap.size) (k : Below w1.heap.size w1 w2) : Fr B b w w2 := ⟨h.below.trans (k.mono hB), h.kept.below k⟩
theorem Fr.node {B b k : Nat} {w w' : World} (h : Fr B b w w') (hk : k ≠ b) {c : Array Value} (hb : w.heap[k]? = some (.cells c 25)) : w'.heap[k]? = some (.cells c 25) :=
  h.kept k _ hb (by simpa using hk) (by intro c fz e; simp at e)
theorem Fr.att {B b k : Nat} {w w' : World} (h : Fr B b w w') (hk : k ≠ b) {c : Array Value} (hb : w.heap[k]? = some (.cells c 37)) : w'.heap[k]? = some (.cells c 37) :=
  h.kept k _ hb (by simpa using hk) (by intro c fz e; simp at e)
theorem Wr.alloc {B b cl : Nat} {X : Bytes} {w : World} (h : Wr B b cl X w) (o : Obj) : Wr B b cl X (w.alloc o) := by
  refine ⟨h.bld.alloc o, ?_, h.ne, by simp; have := h.le; omega⟩
  rw [Lib.alloc_old w _ cl (Array.getElem?_eq_some_iff.1 h.box).1]; exact h.box
theorem Wr.drew {B b cl : Nat} {X : Bytes} {w : World} (h : Wr B b cl X w) : Wr B b cl X w.drew := ⟨h.bld.drew, h.box, h.ne, h.le⟩
theorem Wr.next {B b cl : Nat} {X : Bytes} {w w' : World} (h : Wr B b cl X w) (k : Below w.heap.size w w') : Wr B b cl X w' := by
  refine ⟨h.bld.below k, ?_, h.ne, by have := h.le; have := k.size; omega⟩
  rw [k.block cl (Array.getElem?_eq_some_iff.1 h.box).1]; exact h.box
theorem Wr.cell {B b cl : Nat} {X : Bytes} {w : World} (h : Wr B b cl X w) : w.cell? ⟨cl, 0, none⟩ = some (wFn b cl) := by rw [Lib.cell_of_heap h.box]; rfl
theorem Wr.clt {B b cl : Nat} {X : Bytes} {w : World} (h : Wr B b cl X w) : cl < w.heap.size := (Array.getElem?_eq_some_iff.1 h.box).1
theorem wr_str {B b cl : Nat} {X : Bytes} (m : Bytes) {w : World} (h : Wr B b cl X w) (hl : X.length + m.length ≤ 140737488355328) :
    Calls Tryd.prog 21 #[.pointer (some ⟨b, 0, none⟩), .string (S m)] w fun e w' => e = .returned (.tuple #[.int .i64 m.length, .nilIface]) ∧ Wr B b cl (X ++ m) w' ∧ Fr B b w w' := by
  refine (writeString_any B b X m w h.bld hl h.le).mono ?_
  rintro e w' ⟨rfl, h1, h2, h3⟩
  exact ⟨rfl, ⟨h1, h3 cl _ h.box (by simpa using h.ne) (by intro c fz e; simp at e), h.ne, by have := h.le; have := h2.size; omega⟩, h2, h3⟩
theorem wr_byte {B b cl : Nat} {X : Bytes} (c : Int) {w : World} (h : Wr B b cl X w) (hc : 0 ≤ c ∧ c ≤ 255) (hl : X.length + 1 ≤ 140737488355328) :
    Calls Tryd.prog 24 #[.pointer (some ⟨b, 0, none⟩), .int .u8 c] w fun e w' => e = .returned .nilIface ∧ Wr B b cl (X ++ [UInt8.ofNat c.toNat]) w' ∧ Fr B b w w' := by
  refine (writeByte_any B b X c w h.bld hc hl h.le).mono ?_
  rintro e w' ⟨rfl, h1, h2, h3⟩
  exact ⟨rfl, ⟨h1, h3 cl _ h.box (by simpa using h.ne) (by intro c fz e; simp at e), h.ne, by have := h.le; have := h2.size; omega⟩, h2, h3⟩
theorem run_cat {P : Program} (x y z : Bytes) (hz : z = x ++ y) (h : x.length + y.length ≤ 4611686018427387904) : ∀ W : World, (Op.stringOp .add (S x) (S y)).run P W = .ok (.string (S z)) W := fun W => by
  rw [run_string_add_sum W (S x) (S y) (by simp only [S, ByteArray.size, List.size_toArray]; omega), hz, S_append]
end Go.Proofs.YthilaolkkamedaaDoor
set_option linter.unusedVariables false
namespace Go.Proofs.YthilaolkkamedaaDoor
open Go.RowKit

set_option maxHeartbeats 4000000 in
set_option maxRecDepth 100000 in
theorem write1_text (n : Node) (v : Value) (B b cl : Nat) (X : Bytes) (w : World) (hk : n.kind = 1) (hs : full n ≤ 1000000) (hw : Wr B b cl X w) (hv : NodeV w B n v) (hl : (X ++ canon n).length ≤ 140737488355328) :
    Calls Tryd.prog 20 #[v, .pointer (some ⟨b, 0, none⟩), .pointer (some ⟨cl, 0, none⟩)] w fun e w' => e = .returned (.tuple #[]) ∧ Wr B b cl (X ++ canon n) w' ∧ Fr B b w w' := by
  obtain ⟨A, cap, K, kcap, rfl, ha, hkk, hcap, hkcap⟩ := hv.open_
  have hp := (parts n hs).text
  rw [canon_text hk] at hl ⊢
  have t : (n.kind == 1) = true := by rw [hk]; rfl
  have hle := hw.le
  have hes := fun W => escText_any n.text W (by omega)
  have HW := Lib.hid hw
  have HES := Lib.hid hes
  rw [List.length_append] at hl
  generalize esc false n.text = E at *
  clear hk hs hv ha hkk hw hp hes
  go_enter Tryd.func20, Tryd.ntmps20
  go_wp2_with (first
    | (go_at_call 22; refine (HES.out _).mono ?_; rintro e w1 ⟨rfl, hb1⟩; have h1 := (HW.out.alloc _).next hb1; have f1 := ((Fr.refl B b w).alloc hle _).next (by simp; omega) hb1)
    | (go_at_call 21; refine (wr_str E h1 hl).mono ?_; rintro e w2 ⟨rfl, h2, f2⟩))
  (try simp only [Exit.inBlock, Exit.then]); refine bodyPost_ret (results_none rfl _ _ _) rfl ?_
  exact ⟨rfl, h2, f1.trans f2⟩

set_option maxHeartbeats 4000000 in
set_option maxRecDepth 100000 in
theorem write1_any (m : Nat) : ∀ (n : Node) (v : Value) (B b cl : Nat) (X : Bytes) (w : World), nsz n ≤ m → full n ≤ 1000000 → Wr B b cl X w → NodeV w B n v → (X ++ canon n).length ≤ 140737488355328 →
    Calls Tryd.prog 20 #[v, .pointer (some ⟨b, 0, none⟩), .pointer (some ⟨cl, 0, none⟩)] w fun e w' => e = .returned (.tuple #[]) ∧ Wr B b cl (X ++ canon n) w' ∧ Fr B b w w' := by
  induction m with
  | zero => intro n v B b cl X w h; cases n; rw [nsz] at h; omega
  | succ m ih =>
    intro n v B b cl X w hm hs hw hv hl
    by_cases h1 : n.kind = 1
    · exact write1_text n v B b cl X w h1 hs hw hv hl
    obtain ⟨A, cap, K, kcap, rfl, ha, hk, hcap, hkcap⟩ := hv.open_
    have hp := parts n hs
    have hge := fun (i : Nat) (h : i < n.kids.length) => nsz_get n h
    have hcan := canon_elem h1
    have t : (n.kind == 1) = false := by rw [beq_eq_false_iff_ne]; exact h1
    have hkl : n.kids.length < 1000000 := hp.kids
    have hal : n.attrs.length < 1000000 := hp.attrs
    have hnl : n.name.length < 1000000 := hp.name
    have hle := hw.le
    have hbl := hw.bld.lt
    have hcl := hw.clt
    generalize hT : X ++ canon n = T at *
    rw [hcan] at hT
    have HIH := Lib.hid ih
    have HA := Lib.hid ha
    have HK := Lib.hid hk
    have HM := Lib.hid hm
    have HP := Lib.hid hp
    have HGE := Lib.hid hge
    have HTT := Lib.hid hT
    have HW := Lib.hid hw
    have hbne : w.heap.size ≠ b := by omega
    clear ih ha hk hm hp hge hT hw hv hs h1 hcan
    go_enter Tryd.func20, Tryd.ntmps20
    have hl1 : (X ++ ([60] ++ n.name)).length ≤ 140737488355328 := by rw [← HTT.out] at hl; simp only [List.length_append] at hl ⊢; omega
    rw [List.length_append] at hl1
    go_wp2_with (go_at_call 21; refine (wr_str ([60] ++ n.name) (HW.out.alloc _) hl1).mono ?_; rintro e w1 ⟨rfl, h1, f1⟩; have hb1 := f1.node hbne (heap_alloc_new w (nodeBox n A cap K kcap)); have c2 := (box_cells hb1).2.2.1; have c3 := (box_cells hb1).2.2.2.1; have c4 := (box_cells hb1).2.2.2.2.1)
    clear hl1
    have hst1 : (X ++ ([60] ++ n.name)) ++ (attsC (n.attrs.drop 0) ++ (if n.kids.length = 0 then [47, 62] else [62] ++ canonL n.kids ++ [60, 47] ++ n.name ++ [62])) = T := by rw [← HTT.out, List.drop_zero]; simp only [List.append_assoc]
    have f1' : Fr B b w w1 := ((Fr.refl B b w).alloc hle _).trans f1
    have hsz1 : w.heap.size + 1 ≤ w1.heap.size := by simpa using f1.below.size
    have HB1 := Lib.hid hb1
    have HST1 := Lib.hid hst1
    have HF1 := Lib.hid f1'
    have H1 := Lib.hid h1
    generalize hW1 : (if n.kids.length = 0 then [47, 62] else [62] ++ canonL n.kids ++ [60, 47] ++ n.name ++ [62]) = Z at *
    have HZ := Lib.hid hW1
    clear hW1 c2 c3 c4 hb1 hst1 f1' f1 h1 HTT
    go_loopw [22] (fun i22 wr => ∃ (i : Nat) (Y : Bytes), i ≤ n.attrs.length ∧ i22 = .int .i64 i ∧ Wr B b cl Y wr ∧ Y ++ (attsC (n.attrs.drop i) ++ Z) = T ∧ Fr B b w wr ∧ wr.heap[w.heap.size]? = some (nodeBox n A cap K kcap)) (fun i22 _ => n.attrs.length - (intOf i22).toNat)
    case atStart => exact ⟨0, _, Nat.zero_le _, rfl, H1.out, HST1.out, HF1.out, HB1.out⟩
    case round =>
      obtain ⟨i, Y, hi, rfl, hwr, hY, hfr, hbox⟩ := hrel
      have hszr := hfr.below.size
      have hlr := hwr.le
      have HR := Lib.hid hwr
      have HY := Lib.hid hY
      have HFR := Lib.hid hfr
      have HBX := Lib.hid hbox
      have hszx : w.heap.size < wr.heap.size := (Array.getElem?_eq_some_iff.1 hbox).1
      by_cases hlt : i < n.attrs.length
      · obtain ⟨bb, off, hAA, hbb, hr⟩ := HA.out.at_ hlt
        subst hAA
        have hr' : wr.rangeAt bb (off + i * 4) (attCells n.attrs[i]) := rangeAt_keep hr (HFR.out.below.block bb hbb)
        have hav : n.attrs[i].value.length < 1000000 ∧ n.attrs[i].name.length < 1000000 := by have := HP.out.att n.attrs[i] (List.getElem_mem hlt); omega
        have hstep := attsC_step hlt
        rw [hstep] at hY
        generalize n.attrs[i] = a at *
        have hes := fun W => escAttr_any a.value W (by omega)
        have hY2 : (Y ++ attC a) ++ (attsC (n.attrs.drop (i + 1)) ++ Z) = T := by rw [← hY]; simp only [List.append_assoc]
        have hl2 : Y.length + (attC a).length ≤ 140737488355328 := by rw [← hY2] at hl; simp only [List.length_append] at hl ⊢; omega
        have hes6 := esc_len true a.value
        obtain ⟨hav1, hav2⟩ := hav
        unfold attC at hl2
        have HY2 := Lib.hid hY2
        have HRR := Lib.hid hr'
        have HES := Lib.hid hes
        clear hr hr' hY hY2 hes hstep hwr hfr hbox HST1 HB1 H1 HF1
        generalize hE : esc true a.value = E at *
        have HE := Lib.hid hE
        clear hE
        have HL2 := Lib.hid hl2
        clear hl2
        go_wp2_with (with_reducible refine gate ?_; refine wp_load_att rfl _ rfl bb (off + i * 4) rfl a HRR.out ?_)
        have hba := heap_alloc_new wr (.cells #[.string (S a.space), .string (S a.name), .string (S a.value), .int .i64 a.pos] 37)
        have d1 : (wr.alloc (.cells #[.string (S a.space), .string (S a.name), .string (S a.value), .int .i64 a.pos] 37)).drew.cell? ⟨wr.heap.size, 1, none⟩ = some (.string (S a.name)) := by
          rw [World.cell?_drew, Lib.cell_of_heap hba]; rfl
        have d2 : (wr.alloc (.cells #[.string (S a.space), .string (S a.name), .string (S a.value), .int .i64 a.pos] 37)).drew.cell? ⟨wr.heap.size, 2, none⟩ = some (.string (S a.value)) := by
          rw [World.cell?_drew, Lib.cell_of_heap hba]; rfl
        have hbba : wr.heap.size ≠ b := by have := HR.out.bld.lt; omega
        have hL2 := HL2.out
        simp only [List.length_append] at hL2
        obtain ⟨L1, e1⟩ : ∃ L1 : Bytes, L1 = [32] ++ a.name := ⟨_, rfl⟩
        obtain ⟨L2, e2⟩ : ∃ L2 : Bytes, L2 = L1 ++ [61, 34] := ⟨_, rfl⟩
        obtain ⟨L3, e3⟩ : ∃ L3 : Bytes, L3 = L2 ++ E := ⟨_, rfl⟩
        obtain ⟨L4, e4⟩ : ∃ L4 : Bytes, L4 = L3 ++ [34] := ⟨_, rfl⟩
        have g1 : ∀ W : World, (Op.stringOp .add ⟨#[32]⟩ (S a.name)).run Tryd.prog W = .ok (.string (S L1)) W := run_cat [32] a.name L1 e1 (by simp only [List.length_cons, List.length_nil]; omega)
        have g2 : ∀ W : World, (Op.stringOp .add (S L1) ⟨#[61, 34]⟩).run Tryd.prog W = .ok (.string (S L2)) W := run_cat L1 [61, 34] L2 e2 (by rw [e1]; simp only [List.length_append, List.length_cons, List.length_nil]; omega)
        have g3 : ∀ W : World, (Op.stringOp .add (S L2) (S E)).run Tryd.prog W = .ok (.string (S L3)) W := run_cat L2 E L3 e3 (by rw [e2, e1]; simp only [List.length_append, List.length_cons, List.length_nil]; omega)
        have g4 : ∀ W : World, (Op.stringOp .add (S L3) ⟨#[34]⟩).run Tryd.prog W = .ok (.string (S L4)) W := run_cat L3 [34] L4 e4 (by rw [e3, e2, e1]; simp only [List.length_append, List.length_cons, List.length_nil]; omega)
        have hL4 : [32] ++ a.name ++ [61, 34] ++ E ++ [34] = L4 := by rw [e4, e3, e2, e1]
        rw [hL4] at HL2
        have HL4 := Lib.hid hL4
        clear hL4 e1 e2 e3 e4 hL2
        go_region_held3 (fun x => x.cell? ⟨wr.heap.size, 1, none⟩ = some (.string (S a.name)) ∧ x.cell? ⟨wr.heap.size, 2, none⟩ = some (.string (S a.value)))
          (first | exact ⟨d1, d2⟩ | exact ⟨k1, k2⟩ | exact ⟨l1, l2⟩)
          (first
            | ((go_at_call 23; refine (HES.out _).mono ?_; rintro e w2 ⟨rfl, hb2⟩; have h2 := (HR.out.alloc _).drew.next hb2; have f2 := ((Fr.refl B b wr).alloc hlr _).drew.next (by simp; omega) hb2; have hba2 := (hb2.block wr.heap.size (by simp)).trans hba; have k1 := (Lib.cell_of_heap hba2 1).trans rfl; have k2 := (Lib.cell_of_heap hba2 2).trans rfl))
            | ((go_at_call 21; refine (wr_str L4 h2 HL2.out).mono ?_; rintro e w3 ⟨rfl, h3, f3⟩; have hba3 := f3.att hbba hba2; have l1 := (Lib.cell_of_heap hba3 1).trans rfl; have l2 := (Lib.cell_of_heap hba3 2).trans rfl)))
        have hf23 := f2.trans f3
        have HF23 := Lib.hid hf23
        have H3 := Lib.hid h3
        clear hf23 h3 f3 h2 f2 k1 k2 l1 l2 d1 d2 hba hba2 hba3 hb2 g1 g2 g3 g4
        go_wp2_with fail
        go_roundw
        case rel =>
          refine ⟨i + 1, Y ++ L4, by omega, by go_num, H3.out, ?_, HFR.out.trans HF23.out, HF23.out.node hbne HBX.out⟩
          rw [← HL4.out, ← HE.out]
          exact HY2.out
        case measure => simp [intOf]; omega
      · obtain rfl : i = n.attrs.length := by omega
        rw [List.drop_length] at hY
        have hY2 : Y ++ Z = T := by rw [← hY]; rfl
        have HY2 := Lib.hid hY2
        have c4 := (box_cells hbox).2.2.2.2.1
        have c2 := (box_cells hbox).2.2.1
        clear hY HY hY2 hwr hfr hbox HST1 HB1 H1 HF1
        by_cases hk0 : n.kids.length = 0
        · have hZ := HZ.out
          rw [if_pos hk0] at hZ
          have hk1 : (((n.kids.length : Nat) : Int) == 0) = true := by rw [hk0]; rfl
          have hl2 : Y.length + ([47, 62] : Bytes).length ≤ 140737488355328 := by rw [← HY2.out, ← hZ] at hl; rw [← List.length_append]; exact hl
          have HZZ := Lib.hid hZ
          clear hZ hk0
          go_wp2_with (go_at_call 21; refine (wr_str [47, 62] HR.out hl2).mono ?_; rintro e w2 ⟨rfl, h2, f2⟩)
          (try simp only [Exit.inBlock, Exit.then]); refine bodyPost_ret (results_none rfl _ _ _) rfl ?_
          refine ⟨rfl, ?_, HFR.out.trans f2⟩
          rw [← HY2.out, ← HZZ.out]; exact h2
        · have hZ := HZ.out
          rw [if_neg hk0] at hZ
          have hk1 : (((n.kids.length : Nat) : Int) == 0) = false := by rw [beq_eq_false_iff_ne]; omega
          have hl2 : Y.length + 1 ≤ 140737488355328 := by rw [← HY2.out, ← hZ] at hl; simp only [List.length_append, List.length_cons, List.length_nil] at hl; omega
          have HZZ := Lib.hid hZ
          clear hZ hk0 HZ
          go_wp2_with (go_at_call 24; refine (wr_byte 62 HR.out (by omega) hl2).mono ?_; rintro e w2 ⟨rfl, h2, f2⟩; have hb2 := f2.node hbne HBX.out; have c4' := (box_cells hb2).2.2.2.2.1; have c2' := (box_cells hb2).2.2.1)
          have h2' : Wr B b cl (Y ++ [62]) w2 := h2
          have hst2 : (Y ++ [62]) ++ (canonL (n.kids.drop 0) ++ ([60, 47] ++ n.name ++ [62])) = T := by rw [← HY2.out, ← HZZ.out, List.drop_zero]; simp only [List.append_assoc]
          have HST2 := Lib.hid hst2
          have H2 := Lib.hid h2'
          have HF2 := Lib.hid (HFR.out.trans f2)
          have HB2 := Lib.hid hb2
          have hw2 := h2.le
          clear hst2 h2 h2' f2 hb2 c4' c2' c4 c2 hl2 HZZ HY2 HR HFR HBX
          go_loopw [46] (fun i46 wr => ∃ (i : Nat) (Y : Bytes), i ≤ n.kids.length ∧ i46 = .int .i64 i ∧ Wr B b cl Y wr ∧ Y ++ (canonL (n.kids.drop i) ++ ([60, 47] ++ n.name ++ [62])) = T ∧ Fr B b w wr ∧ wr.heap[w.heap.size]? = some (nodeBox n A cap K kcap)) (fun i46 _ => n.kids.length - (intOf i46).toNat)
          case atStart => exact ⟨0, _, Nat.zero_le _, rfl, H2.out, HST2.out, HF2.out, HB2.out⟩
          case round =>
            obtain ⟨i, Y, hi, rfl, hwr, hY, hfr, hbox⟩ := hrel
            clear HST2 H2 HF2 HB2 hlt
            have hszr2 := hfr.below.size
            have hlr2 := hwr.le
            have HR := Lib.hid hwr
            have HY := Lib.hid hY
            have HFR := Lib.hid hfr
            have HBX := Lib.hid hbox
            have c2 := (box_cells hbox).2.2.1
            have hszx2 : w.heap.size < wr.heap.size := (Array.getElem?_eq_some_iff.1 hbox).1
            have hclr := hwr.clt
            have hcne := hwr.ne
            by_cases hlt : i < n.kids.length
            · obtain ⟨bb, off, cs, hKK, hbb, hr, hcs⟩ := HK.out.at_ hlt
              subst hKK
              have hr' : wr.rangeAt bb (off + i * 7) cs := rangeAt_keep hr (HFR.out.below.block bb hbb)
              have hnv : NodeV w B n.kids[i] (.agg cs.toArray) := ⟨cs, rfl, hcs⟩
              have hfk : full n.kids[i] ≤ 1000000 := by have := HP.out.kid n.kids[i] (List.getElem_mem hlt); omega
              have hsn : nsz n.kids[i] ≤ m := by have := HGE.out i hlt; have := HM.out; omega
              have hstep := canonL_step hlt
              rw [hstep] at hY
              generalize n.kids[i] = kid at *
              have hY2 : (Y ++ canon kid) ++ (canonL (n.kids.drop (i + 1)) ++ ([60, 47] ++ n.name ++ [62])) = T := by rw [← hY]; simp only [List.append_assoc]
              have hl2 : (Y ++ canon kid).length ≤ 140737488355328 := by rw [← hY2] at hl; rw [List.length_append] at hl; omega
              have hcall := fun W => fun (h1 : Wr B b cl Y W) (h2 : Below B w W) => HIH.out kid (.agg cs.toArray) B b cl Y W hsn hfk h1 (hnv.keep h2.block (Nat.le_refl _)) hl2
              obtain ⟨A', c', K', d', rfl, _, _, _, _⟩ := hcs.open_
              have HC := Lib.hid hcall
              have HY2 := Lib.hid hY2
              have HRR := Lib.hid hr'
              have ccA : ∀ o, (wr.alloc o).cell? ⟨cl, 0, none⟩ = some (wFn b cl) := fun o => (HR.out.alloc o).cell
              clear hr hr' hcs hnv hfk hsn hstep hY hY2 hl2 hcall hwr hfr hbox HY c2
              go_wp2_with (first
                | (with_reducible refine gate ?_; refine wp_load_node rfl _ rfl bb (off + i * 7) rfl _ rfl HRR.out ?_)
                | (go_at_call 20; refine (HC.out _ (HR.out.alloc _) (HFR.out.below.alloc (by omega) _)).mono ?_; rintro e w3 ⟨rfl, h3, f3⟩))
              have hf23 : Fr B b wr w3 := ((Fr.refl B b wr).alloc hlr2 _).trans f3
              have HF23 := Lib.hid hf23
              have H3 := Lib.hid h3
              clear hf23 h3 f3
              go_roundw
              case rel => exact ⟨i + 1, _, by omega, by go_num, H3.out, HY2.out, HFR.out.trans HF23.out, HF23.out.node hbne HBX.out⟩
              case measure => simp [intOf]; omega
            · obtain rfl : i = n.kids.length := by omega
              rw [List.drop_length] at hY
              have hY2 : Y ++ ([60, 47] ++ n.name ++ [62]) = T := by rw [← hY]; rfl
              obtain ⟨L1, e1⟩ : ∃ L1 : Bytes, L1 = [60, 47] ++ n.name := ⟨_, rfl⟩
              obtain ⟨L2, e2⟩ : ∃ L2 : Bytes, L2 = L1 ++ [62] := ⟨_, rfl⟩
              have g1 : ∀ W : World, (Op.stringOp .add ⟨#[60, 47]⟩ (S n.name)).run Tryd.prog W = .ok (.string (S L1)) W := run_cat [60, 47] n.name L1 e1 (by simp only [List.length_cons, List.length_nil]; omega)
              have g2 : ∀ W : World, (Op.stringOp .add (S L1) ⟨#[62]⟩).run Tryd.prog W = .ok (.string (S L2)) W := run_cat L1 [62] L2 e2 (by rw [e1]; simp only [List.length_append, List.length_cons, List.length_nil]; omega)
              rw [← e1, ← e2] at hY2
              have hl2 : Y.length + L2.length ≤ 140737488355328 := by rw [← List.length_append, hY2]; exact hl
              have HY2 := Lib.hid hY2
              clear e1 e2 hY hY2 HY
              go_wp2_with (go_at_call 21; refine (wr_str L2 HR.out hl2).mono ?_; rintro e w2 ⟨rfl, h2, f2⟩)
              go_end0
              refine ⟨rfl, ?_, hfr.trans f2⟩
              rw [← HY2.out]; exact h2
end Go.Proofs.YthilaolkkamedaaDoor
set_option linter.unusedVariables false
namespace Go.Proofs.YthilaolkkamedaaDoor
open Go.RowKit

/-- Block b is a map that holds these entries, one behind the other. -/
def MapOf (w : World) (b : Nat) (l : List (Bytes × Value)) : Prop :=
  ∃ es clock, w.heap[b]? = some (.map es clock) ∧ es.toList.map (fun e => (e.key, e.val)) = l.map (fun p => (Value.string (S p.1), p.2))
/-- What the first entry with this key holds. -/
def look (k : Bytes) : List (Bytes × Value) → Option Value
  | [] => none
  | p :: l => if k == p.1 then some p.2 else look k l
/-- A store. -/
def putM (k : Bytes) (v : Value) : List (Bytes × Value) → List (Bytes × Value)
  | [] => [(k, v)]
  | p :: l => if k == p.1 then (k, v) :: l else p :: putM k v l

theorem MapOf.lt {w : World} {b : Nat} {l : List (Bytes × Value)} (h : MapOf w b l) : b < w.heap.size := by
  obtain ⟨es, clock, hb, _⟩ := h
  exact (Array.getElem?_eq_some_iff.1 hb).1
theorem MapOf.keep {w w' : World} {b : Nat} {l : List (Bytes × Value)} (h : MapOf w b l) (hb : w'.heap[b]? = w.heap[b]?) : MapOf w' b l := by
  obtain ⟨es, clock, h1, h2⟩ := h
  exact ⟨es, clock, hb.trans h1, h2⟩
theorem MapOf.below {w w' : World} {b : Nat} {l : List (Bytes × Value)} (h : MapOf w b l) (hb : Below w.heap.size w w') : MapOf w' b l := h.keep (hb.block b h.lt)
theorem MapOf.new (w : World) : MapOf (w.alloc (.map #[] 0)) w.heap.size [] := ⟨#[], 0, heap_alloc_new w _, rfl⟩

theorem S_beq (a b : Bytes) : (S a == S b) = (a == b) := by
  have h : (S a == S b) = (a.toArray == b.toArray) := rfl
  rw [h, List.beq_toArray]
theorem findNow_S (k : Bytes) : ∀ (es : List MapEntry) (l : List (Bytes × Value)) (i : Nat), es.map (fun e => (e.key, e.val)) = l.map (fun p => (Value.string (S p.1), p.2)) →
    ∃ r, Instr.findNow .string (.string (S k)) es i = some r ∧ r.map (·.2) = look k l ∧ (∀ j v, r = some (j, v) → i ≤ j ∧ ∃ e, es[j - i]? = some e ∧ e.key = .string (S k))
  | [], l, i, h => by
    have : l = [] := by cases l with | nil => rfl | cons => simp at h
    subst this
    exact ⟨none, rfl, rfl, fun j v hj => by cases hj⟩
  | e :: es, l, i, h => by
    cases l with
    | nil => simp at h
    | cons p l =>
      simp only [List.map_cons, List.cons.injEq, Prod.mk.injEq] at h
      obtain ⟨⟨hk, hv⟩, h⟩ := h
      simp only [Instr.findNow, hk, Instr.sameNow, S_beq, look]
      cases hb : (k == p.1) with
      | true =>
        refine ⟨some (i, e.val), rfl, by simp [hv], fun j v hj => ?_⟩
        cases hj
        exact ⟨Nat.le_refl _, e, by simp, by rw [hk, eq_of_beq hb]⟩
      | false =>
        obtain ⟨r, h1, h2, h3⟩ := findNow_S k es l (i + 1) h
        refine ⟨r, h1, by simpa using h2, fun j v hj => ?_⟩
        obtain ⟨h4, e', h5, h6⟩ := h3 j v hj
        refine ⟨by omega, e', ?_, h6⟩
        rw [show j - i = (j - (i + 1)) + 1 by omega, List.getElem?_cons_succ]
        exact h5

section
variable {w : World} {b : Nat} {l : List (Bytes × Value)} {t e kt : TypeId} {P : Program} {z : Value}
theorem run_checkKey_string (w : World) (em : Bool) (hk : P.underlying kt = some .string) (v : Value) : (Instr.checkKey em 10000 kt v).run P w = .ok () w := by
  rw [Instr.checkKey]
  simp [run_underlying hk]
theorem run_findKey (w : World) (hk : P.underlying kt = some .string) (k : Bytes) (es : List MapEntry) (r : Option (Nat × Value)) (h : Instr.findNow .string (.string (S k)) es 0 = some r) :
    (Instr.findKey kt (.string (S k)) es).run P w = .ok r w := by
  unfold Instr.findKey
  simp [run_underlying hk, h]
theorem MapOf.run_lookup (h : MapOf w b l) (ht : P.underlying t = some (.map kt e)) (hk : P.underlying kt = some .string) (hz : (zeroValue e).run P w = .ok z w) (k : Bytes) :
    (Instr.lookup t (.map (some b)) (.string (S k)) false).run P w = .ok ((look k l).getD z) w := by
  obtain ⟨es, clock, hb, hes⟩ := h
  obtain ⟨r, h1, h2, _⟩ := findNow_S k es.toList l 0 hes
  unfold Instr.lookup
  simp only [Sem.run_bind, run_underlying ht, Result.andThen_ok, run_getObj_map w b es clock hb, Sem.run_pure]
  rw [run_checkKey_string w es.isEmpty hk]
  simp only [Result.andThen_ok]
  rw [run_findKey w hk k es.toList r h1]
  simp only [Result.andThen_ok]
  cases r with
  | none => simp [← h2, hz]
  | some x => obtain ⟨j, v⟩ := x; simp [← h2]
theorem MapOf.run_lookup_ok (h : MapOf w b l) (ht : P.underlying t = some (.map kt e)) (hk : P.underlying kt = some .string) (hz : (zeroValue e).run P w = .ok z w) (k : Bytes) :
    (Instr.lookup t (.map (some b)) (.string (S k)) true).run P w = .ok (.tuple #[(look k l).getD z, .bool (look k l).isSome]) w := by
  obtain ⟨es, clock, hb, hes⟩ := h
  obtain ⟨r, h1, h2, _⟩ := findNow_S k es.toList l 0 hes
  unfold Instr.lookup
  simp only [Sem.run_bind, run_underlying ht, Result.andThen_ok, run_getObj_map w b es clock hb, Sem.run_pure, run_checkKey_string w es.isEmpty hk, run_findKey w hk k es.toList r h1]
  cases r with
  | none => simp [← h2, hz]
  | some x => obtain ⟨j, v⟩ := x; simp [← h2]
theorem putM_push {k : Bytes} {v : Value} {l : List (Bytes × Value)} (h : look k l = none) : putM k v l = l ++ [(k, v)] := by
  induction l with
  | nil => rfl
  | cons p l ih =>
    rw [look] at h
    rw [putM]
    split at h
    · cases h
    · rename_i hb
      rw [if_neg hb, ih h]; rfl
theorem findNow_at (k : Bytes) : ∀ (es : List MapEntry) (l : List (Bytes × Value)) (i j : Nat) (u : Value), es.map (fun e => (e.key, e.val)) = l.map (fun p => (Value.string (S p.1), p.2)) →
    Instr.findNow .string (.string (S k)) es i = some (some (j, u)) → i ≤ j ∧ ∀ v, (es.modify (j - i) (fun e => { e with key := .string (S k), val := v })).map (fun e => (e.key, e.val)) = (putM k v l).map (fun p => (Value.string (S p.1), p.2))
  | [], l, i, j, u, h, hf => by simp [Instr.findNow] at hf
  | e :: es, l, i, j, u, h, hf => by
    cases l with
    | nil => simp at h
    | cons p l =>
      simp only [List.map_cons, List.cons.injEq, Prod.mk.injEq] at h
      obtain ⟨⟨hk, hv⟩, h⟩ := h
      simp only [Instr.findNow, hk, Instr.sameNow, S_beq] at hf
      cases hb : (k == p.1) with
      | true =>
        rw [hb] at hf
        simp at hf
        obtain ⟨rfl, _⟩ := hf
        refine ⟨Nat.le_refl _, fun v => ?_⟩
        simp [putM, hb, h]
      | false =>
        rw [hb] at hf
        obtain ⟨h4, h5⟩ := findNow_at k es l (i + 1) j u h hf
        refine ⟨by omega, fun v => ?_⟩
        rw [show j - i = (j - (i + 1)) + 1 by omega]
        simp only [List.modify_succ_cons, List.map_cons, hk, hv, putM, hb, Bool.false_eq_true, if_false]
        rw [h5 v]
theorem sameBits_S (n : Nat) (k : Bytes) : Instr.sameBits n (.string (S k)) (.string (S k)) = true := by
  cases n <;> simp [Instr.sameBits, S_beq]
theorem MapOf.run_update (h : MapOf w b l) (ht : P.underlying t = some (.map kt e)) (hk : P.underlying kt = some .string) (k : Bytes) (v : Value) :
    ∃ w', (Instr.mapUpdate t (.map (some b)) (.string (S k)) v).run P w = .ok () w' ∧ MapOf w' b (putM k v l) ∧ Upd b w w' ∧ w'.heap.size = w.heap.size := by
  obtain ⟨es, clock, hb, hes⟩ := h
  have hlt : b < w.heap.size := (Array.getElem?_eq_some_iff.1 hb).1
  obtain ⟨r, h1, h2, h3⟩ := findNow_S k es.toList l 0 hes
  have hset : ∀ o, (setObj b o).run P w = .ok () { w with heap := w.heap.setIfInBounds b o } := fun o => MapKept.run_setObj_map o hb
  have hupd : ∀ o, Upd b w { w with heap := w.heap.setIfInBounds b o } := fun o => ⟨rfl, rfl, rfl, by simp, fun j hj hne => by simp [Ne.symm hne]⟩
  unfold Instr.mapUpdate
  simp only [Sem.run_bind, run_underlying ht, Result.andThen_ok, run_getObj_map w b es clock hb, run_checkKey_string w false hk, run_findKey w hk k es.toList r h1]
  cases r with
  | none =>
    refine ⟨_, hset _, ⟨es.push { key := .string (S k), val := v, born := clock }, clock + 1, by simp [hlt], ?_⟩, hupd _, by simp⟩
    rw [putM_push (by rw [← h2]; rfl)]
    simp [hes]
  | some x =>
    obtain ⟨j, u⟩ := x
    obtain ⟨_, e0, h5, h6⟩ := h3 j u rfl
    simp only [Nat.sub_zero] at h5
    have h5' : es[j]? = some e0 := by simpa using h5
    have hkt : (Instr.keyThatStays (((es[j]?).map (·.key)).getD (.string (S k))) (.string (S k))).run P w = .ok (.string (S k)) w := by
      rw [h5']
      simp only [Option.map_some, Option.getD_some, h6]
      unfold Instr.keyThatStays
      rw [if_pos (sameBits_S _ _)]
      rfl
    simp only [Sem.run_bind, hkt, Result.andThen_ok]
    refine ⟨_, hset _, ⟨es.modify j fun e => { e with key := .string (S k), val := v }, clock, by simp [hlt], ?_⟩, hupd _, by simp⟩
    have := (findNow_at k es.toList l 0 j u hes h1).2 v
    simpa [Array.toList_modify] using this
end
theorem wpList_map_put {P : Program} {w : World} {ops : Array Oper} {rest : List Oper} {o : Oper} {a : Act} {Q : Exit → Act → World → Prop} (hg : o.guard = none) (m x y : Operand) (t : TypeId) (hop : o.op = Op.mapUpdate t m x y)
    {kt e : TypeId} (ht : P.underlying t = some (.map kt e)) (hk : P.underlying kt = some .string) (b : Nat) (l : List (Bytes × Value)) (h : MapOf w b l) (hm : a.eval m = .map (some b)) (k : Bytes) (hx : a.eval x = .string (S k)) (v : Value) (hy : a.eval y = v)
    (hK : ∀ w', MapOf w' b (putM k v l) → Upd b w w' → w'.heap.size = w.heap.size → wpList P ops Q rest (a.put o.dst undef) w') : wpList P ops Q (o :: rest) a w := by
  refine wpList_plain hg fun K' hK' => ?_
  obtain ⟨w', hrun, r1, r2, r3⟩ := h.run_update ht hk k v
  unfold Oper.wp
  simp [execOp, hop, hm, hx, hy, hrun, Result.andThen]
  exact hK' _ _ (hK w' r1 r2 r3)
end Go.Proofs.YthilaolkkamedaaDoor
set_option linter.unusedVariables false
namespace Go.Proofs.YthilaolkkamedaaDoor
open Go.RowKit


set_option maxHeartbeats 400000 in
theorem refIsChar_any (r : Int) (w : World) :
    Calls Tryd.prog 50 #[.int .i64 r] w fun e w' => e = .returned (.bool (isChar r)) ∧ w = w' := by
  go_enter Tryd.func50, Tryd.ntmps50
  go_wp2
  all_goals go_ret
  all_goals exact ⟨ret_bool (by rw [Bool.eq_iff_iff]; simp [isChar] <;> omega), rfl⟩

set_option maxHeartbeats 400000 in
theorem isChar_any (r : Int) (w : World) :
    Calls Tryd.prog 49 #[.int .i32 r] w fun e w' => e = .returned (.bool (isChar r)) ∧ w = w' := by
  go_enter Tryd.func49, Tryd.ntmps49
  go_wp2
  all_goals go_ret
  all_goals exact ⟨ret_bool (by rw [Bool.eq_iff_iff]; simp [isChar] <;> omega), rfl⟩


set_option maxHeartbeats 1000000 in
set_option maxRecDepth 100000 in
theorem refNameStart_any (r : Int) (w : World) :
    Calls Tryd.prog 45 #[.int .i64 r] w fun e w' => e = .returned (.bool (nameStart r)) ∧ w = w' := by
  rw [nameStart_eq]
  generalize h1 : nsLetter r = b1
  generalize h2 : nsLow r = b2
  generalize h3 : nsMiddle r = b3
  generalize h4 : nsHigh r = b4
  have H1 := Lib.hid h1
  have H2 := Lib.hid h2
  have H3 := Lib.hid h3
  have H4 := Lib.hid h4
  clear h1 h2 h3 h4
  go_enter Tryd.func45, Tryd.ntmps45
  go_upto_region 1 with fail
  go_cut [3] from 7 to 25 (fun s wx => s = .bool b1 ∧ w = wx)
  case first =>
    go_wp2
    all_goals first | go_meet | (subst_vars; go_meet)
    all_goals first | exact ⟨val_bool (by rw [← H1.out, Bool.eq_iff_iff]; simp [nsLetter] <;> omega), rfl⟩ | exact ⟨val_bool (by decide), rfl⟩
  case rest =>
    obtain ⟨rfl, rfl⟩ := hcut
    go_upto_region 2 with fail
    go_cut [4] from 25 to 51 (fun s wx => s = .bool b2 ∧ w = wx)
    case first =>
      go_wp2
      all_goals first | go_meet | (subst_vars; go_meet)
      all_goals first | exact ⟨val_bool (by rw [← H2.out, Bool.eq_iff_iff]; simp [nsLow] <;> omega), rfl⟩ | exact ⟨val_bool (by decide), rfl⟩
    case rest =>
      obtain ⟨rfl, rfl⟩ := hcut
      go_upto_region 3 with fail
      go_cut [5] from 51 to 81 (fun s wx => s = .bool b3 ∧ w = wx)
      case first =>
        go_wp2
        all_goals first | go_meet | (subst_vars; go_meet)
        all_goals first | exact ⟨val_bool (by rw [← H3.out, Bool.eq_iff_iff]; simp [nsMiddle] <;> omega), rfl⟩ | exact ⟨val_bool (by decide), rfl⟩
      case rest =>
        obtain ⟨rfl, rfl⟩ := hcut
        go_upto_region 4 with fail
        go_cut [6] from 81 to 103 (fun s wx => s = .bool b4 ∧ w = wx)
        case first =>
          go_wp2
          all_goals first | go_meet | (subst_vars; go_meet)
          all_goals first | exact ⟨val_bool (by rw [← H4.out, Bool.eq_iff_iff]; simp [nsHigh] <;> omega), rfl⟩ | exact ⟨val_bool (by decide), rfl⟩
        case rest =>
          obtain ⟨rfl, rfl⟩ := hcut
          cases b1 <;> cases b2 <;> cases b3
          all_goals go_wp2
          all_goals go_ret
          all_goals exact ⟨ret_bool (by simp), rfl⟩

set_option maxHeartbeats 1000000 in
theorem refNameChar_any (r : Int) (w : World) :
    Calls Tryd.prog 44 #[.int .i64 r] w fun e w' => e = .returned (.bool (nameChar r)) ∧ w = w' := by
  obtain ⟨b, hb⟩ : ∃ b, nameStart r = b := ⟨_, rfl⟩
  have hc : ∀ w, Calls Tryd.prog 45 #[.int .i64 r] w fun e w' => e = .returned (.bool b) ∧ w = w' := fun w => by rw [← hb]; exact refNameStart_any r w
  have hn : nameChar r = (inRanges moreRanges r || b) := by rw [nameChar, hb]
  rw [hn]
  generalize hm : inRanges moreRanges r = m
  have hmi := more_iff r
  rw [hm] at hmi
  have HM := Lib.hid hmi
  have HC := Lib.hid hc
  clear hb hn hm hmi hc
  cases b
  · go_enter Tryd.func44, Tryd.ntmps44
    go_wp2_with (go_at_call 45; refine (HC.out _).mono ?_; rintro e w' ⟨rfl, rfl⟩)
    all_goals go_ret
    all_goals exact ⟨ret_bool (by have hmi := HM.out; clear HM HC; rw [Bool.eq_iff_iff]; simp [hmi] <;> omega), rfl⟩
  · go_enter Tryd.func44, Tryd.ntmps44
    go_wp2_with (go_at_call 45; refine (HC.out _).mono ?_; rintro e w' ⟨rfl, rfl⟩)
    all_goals go_ret
    all_goals exact ⟨ret_bool (by simp), rfl⟩
end Go.Proofs.YthilaolkkamedaaDoor
set_option linter.unusedVariables false
namespace Go.Proofs.YthilaolkkamedaaDoor
open Go.RowKit

def startCells : Array Value := #[.int .i32 65, .int .i32 90, .int .i32 95, .int .i32 95, .int .i32 97, .int .i32 122, .int .i32 192, .int .i32 214, .int .i32 216, .int .i32 246, .int .i32 248, .int .i32 767, .int .i32 880, .int .i32 893, .int .i32 895, .int .i32 8191, .int .i32 8204, .int .i32 8205, .int .i32 8304, .int .i32 8591, .int .i32 11264, .int .i32 12271, .int .i32 12289, .int .i32 55295, .int .i32 63744, .int .i32 64975, .int .i32 65008, .int .i32 65533, .int .i32 65536, .int .i32 983039]
def moreCells : Array Value := #[.int .i32 45, .int .i32 46, .int .i32 48, .int .i32 57, .int .i32 183, .int .i32 183, .int .i32 768, .int .i32 879, .int .i32 8255, .int .i32 8256]

/-- The tables of the library and of the program as the start lays them. -/
structure Tabs (w : World) : Prop where
  utf : Lib.Utf8Tabs 2 3 w
  start : ∃ t fr, w.heap[(1 : Nat)]? = some (.cells startCells t fr)
  more : ∃ t fr, w.heap[(0 : Nat)]? = some (.cells moreCells t fr)
theorem lt_of_heap {w : World} {g : Nat} {o : Obj} (h : w.heap[g]? = some o) : g < w.heap.size := by
  rcases Nat.lt_or_ge g w.heap.size with h' | h'
  · exact h'
  · rw [Array.getElem?_eq_none h'] at h; cases h
theorem lt_of_cell {w : World} {a : Addr} {v : Value} (h : w.cell? a = some v) : a.block < w.heap.size := by
  rcases Nat.lt_or_ge a.block w.heap.size with h' | h'
  · exact h'
  · simp [World.cell?, Array.getElem?_eq_none h'] at h
theorem Tabs.below {w w' : World} {B : Nat} (h : Tabs w) (hb : Below B w w') (hB : w.heap.size ≤ B) : Tabs w' := by
  obtain ⟨⟨h1, h2⟩, ⟨t3, f3, h3⟩, ⟨t4, f4, h4⟩⟩ := h
  refine ⟨⟨fun c hc => ?_, fun i hi => ?_⟩, ⟨t3, f3, ?_⟩, ⟨t4, f4, ?_⟩⟩
  · have := h1 c hc
    rw [hb.cell (p := ⟨_, c, none⟩) (Nat.lt_of_lt_of_le (lt_of_cell this) hB)]; exact this
  · have h := h2 i hi
    rw [hb.cell (p := ⟨_, 2 * i, none⟩) (Nat.lt_of_lt_of_le (lt_of_cell h.1) hB), hb.cell (p := ⟨_, 2 * i + 1, none⟩) (Nat.lt_of_lt_of_le (lt_of_cell h.2) hB)]; exact h
  · rw [hb.block _ (Nat.lt_of_lt_of_le (lt_of_heap h3) hB)]; exact h3
  · rw [hb.block _ (Nat.lt_of_lt_of_le (lt_of_heap h4) hB)]; exact h4
theorem Tabs.next {w w' : World} (h : Tabs w) (hb : Below w.heap.size w w') : Tabs w' := h.below hb (Nat.le_refl _)

theorem start_at (k : Nat) (hk : k < 15) : ∃ lo hi : Int, startRanges[k]? = some (lo, hi) ∧ ∀ w, (Instr.index 89 (.agg startCells) (.int .i64 k)).run Tryd.prog w = .ok (.agg #[.int .i32 lo, .int .i32 hi]) w := by
  match k, hk with
  | 0, _ => exact ⟨_, _, rfl, fun _ => by kernel_rfl⟩
  | 1, _ => exact ⟨_, _, rfl, fun _ => by kernel_rfl⟩
  | 2, _ => exact ⟨_, _, rfl, fun _ => by kernel_rfl⟩
  | 3, _ => exact ⟨_, _, rfl, fun _ => by kernel_rfl⟩
  | 4, _ => exact ⟨_, _, rfl, fun _ => by kernel_rfl⟩
  | 5, _ => exact ⟨_, _, rfl, fun _ => by kernel_rfl⟩
  | 6, _ => exact ⟨_, _, rfl, fun _ => by kernel_rfl⟩
  | 7, _ => exact ⟨_, _, rfl, fun _ => by kernel_rfl⟩
  | 8, _ => exact ⟨_, _, rfl, fun _ => by kernel_rfl⟩
  | 9, _ => exact ⟨_, _, rfl, fun _ => by kernel_rfl⟩
  | 10, _ => exact ⟨_, _, rfl, fun _ => by kernel_rfl⟩
  | 11, _ => exact ⟨_, _, rfl, fun _ => by kernel_rfl⟩
  | 12, _ => exact ⟨_, _, rfl, fun _ => by kernel_rfl⟩
  | 13, _ => exact ⟨_, _, rfl, fun _ => by kernel_rfl⟩
  | 14, _ => exact ⟨_, _, rfl, fun _ => by kernel_rfl⟩
theorem more_at (k : Nat) (hk : k < 5) : ∃ lo hi : Int, moreRanges[k]? = some (lo, hi) ∧ ∀ w, (Instr.index 88 (.agg moreCells) (.int .i64 k)).run Tryd.prog w = .ok (.agg #[.int .i32 lo, .int .i32 hi]) w := by
  match k, hk with
  | 0, _ => exact ⟨_, _, rfl, fun _ => by kernel_rfl⟩
  | 1, _ => exact ⟨_, _, rfl, fun _ => by kernel_rfl⟩
  | 2, _ => exact ⟨_, _, rfl, fun _ => by kernel_rfl⟩
  | 3, _ => exact ⟨_, _, rfl, fun _ => by kernel_rfl⟩
  | 4, _ => exact ⟨_, _, rfl, fun _ => by kernel_rfl⟩

theorem in_take {l : List (Int × Int)} {k : Nat} {lo hi r : Int} (h : l[k]? = some (lo, hi)) : inRanges (l.take (k + 1)) r = (inRanges (l.take k) r || decide (lo ≤ r ∧ r ≤ hi)) := by
  unfold inRanges
  rw [List.take_add_one, h]
  simp
theorem in_some {l : List (Int × Int)} {k : Nat} {lo hi r : Int} (h : l[k]? = some (lo, hi)) (h1 : lo ≤ r) (h2 : r ≤ hi) : inRanges l r = true := by
  unfold inRanges
  rw [List.any_eq_true]
  exact ⟨(lo, hi), List.mem_of_getElem? h, by simp [h1, h2]⟩

set_option maxHeartbeats 1000000 in
theorem nameStart_any (r : Int) (w : World) (hT : Tabs w) :
    Calls Tryd.prog 48 #[.int .i32 r] w fun e w' => e = .returned (.bool (nameStart r)) ∧ Below w.heap.size w w' := by
  obtain ⟨tt, fr, hg⟩ := hT.start
  have HT := Lib.hid hT
  clear hT
  go_enter Tryd.func48, Tryd.ntmps48
  go_wp2_with (refine wpList_load_row rfl 89 _ rfl 1 rfl tt _ fr _ hg Tryd.underlying89 rfl (by kernel_rfl) ?_)
  go_loopw [6] (fun i wr => ∃ k : Nat, k ≤ 15 ∧ i = .int .i64 k ∧ inRanges (startRanges.take k) r = false ∧ Below w.heap.size w wr) (fun i _ => 15 - (intOf i).toNat)
  case atStart => exact ⟨0, by omega, rfl, by simp [inRanges], Below.refl _ _⟩
  case round =>
    obtain ⟨k, hk, rfl, hin, hb⟩ := hrel
    have HI := Lib.hid hin
    clear hin
    by_cases hlt : k < 15
    · obtain ⟨lo, hi, hsome, hidx⟩ := start_at k hlt
      have HS := Lib.hid hsome
      have HB := Lib.hid hb
      have hsz := hb.size
      clear hsome hb
      go_wp2
      · go_ret
        exact ⟨ret_bool (in_some HS.out (by assumption) (by assumption)).symm, (HB.out.alloc hsz _)⟩
      all_goals
        go_roundw
        case rel => exact ⟨k + 1, by omega, by go_num, by rw [in_take HS.out, HI.out]; simp; omega, (HB.out.alloc hsz _)⟩
        case measure => simp [intOf]; omega
    · obtain rfl : k = 15 := by omega
      go_wp2
      go_ret
      exact ⟨ret_bool (by have := HI.out; simpa [nameStart, startRanges] using this.symm), hb⟩

set_option maxHeartbeats 1000000 in
theorem nameChar_any (r : Int) (w : World) (hT : Tabs w) :
    Calls Tryd.prog 47 #[.int .i32 r] w fun e w' => e = .returned (.bool (nameChar r)) ∧ Below w.heap.size w w' := by
  obtain ⟨tt, fr, hg⟩ := hT.more
  have HT := Lib.hid hT
  clear hT
  go_enter Tryd.func47, Tryd.ntmps47
  go_wp2_with (refine wpList_load_row rfl 88 _ rfl 0 rfl tt _ fr _ hg Tryd.underlying88 rfl (by kernel_rfl) ?_)
  go_loopw [6] (fun i wr => ∃ k : Nat, k ≤ 5 ∧ i = .int .i64 k ∧ inRanges (moreRanges.take k) r = false ∧ Below w.heap.size w wr) (fun i _ => 5 - (intOf i).toNat)
  case atStart => exact ⟨0, by omega, rfl, by simp [inRanges], Below.refl _ _⟩
  case round =>
    obtain ⟨k, hk, rfl, hin, hb⟩ := hrel
    have HI := Lib.hid hin
    have HB := Lib.hid hb
    have hsz := hb.size
    clear hin hb
    by_cases hlt : k < 5
    · obtain ⟨lo, hi, hsome, hidx⟩ := more_at k hlt
      have HS := Lib.hid hsome
      clear hsome
      go_wp2
      · go_ret
        exact ⟨ret_bool (by rw [nameChar, in_some HS.out (by assumption) (by assumption), Bool.true_or]), (HB.out.alloc hsz _)⟩
      all_goals
        go_roundw
        case rel => exact ⟨k + 1, by omega, by go_num, by rw [in_take HS.out, HI.out]; simp; omega, (HB.out.alloc hsz _)⟩
        case measure => simp [intOf]; omega
    · obtain rfl : k = 5 := by omega
      go_wp2_with (go_at_call 48; refine (nameStart_any r _ (HT.out.next HB.out)).mono ?_; rintro e w' ⟨rfl, hb2⟩)
      go_ret
      exact ⟨ret_bool (by have := HI.out; rw [nameChar, show inRanges moreRanges r = false from this, Bool.false_or]), HB.out.trans (hb2.mono hsz)⟩
end Go.Proofs.YthilaolkkamedaaDoor
set_option linter.unusedVariables false
namespace Go.Proofs.YthilaolkkamedaaDoor
open Go.RowKit

theorem below_drew {B : Nat} {w w' : World} (h : Below B w.drew w') : Below B w w' := ⟨h.os, h.tape, h.output, h.size, h.block⟩
theorem ret_str {a b : Bytes} (h : a = b) : Ending.returned (.string (S a)) = .returned (.string (S b)) := by rw [h]
theorem encI_no {r : Int} (h : r < 0 ∨ 1114111 < r ∨ (55296 ≤ r ∧ r ≤ 57343)) : encI r = [] := by
  unfold encI
  by_cases h0 : r < 0
  · rw [if_pos h0]
  · rw [if_neg h0]
    unfold enc okRune
    rw [if_pos (by omega)]
theorem encI_1 {r : Int} (h : 0 ≤ r) (h1 : r < 128) : encI r = [UInt8.ofNat r.toNat] := by
  unfold encI enc okRune
  rw [if_neg (by omega), if_neg (by omega), if_pos (by omega)]
theorem encI_2 {r : Int} (h : 128 ≤ r) (h1 : r < 2048) : encI r = [UInt8.ofNat (192 + r / 64).toNat, UInt8.ofNat (128 + r % 64).toNat] := by
  unfold encI enc okRune
  rw [if_neg (by omega), if_neg (by omega), if_neg (by omega), if_pos (by omega), show (192 + r / 64).toNat = 192 + r.toNat / 64 by omega, show (128 + r % 64).toNat = 128 + r.toNat % 64 by omega]
theorem encI_3 {r : Int} (h : 2048 ≤ r) (h1 : r < 65536) (h2 : r < 55296 ∨ 57343 < r) : encI r = [UInt8.ofNat (224 + r / 4096).toNat, UInt8.ofNat (128 + r / 64 % 64).toNat, UInt8.ofNat (128 + r % 64).toNat] := by
  unfold encI enc okRune
  rw [if_neg (by omega), if_neg (by omega), if_neg (by omega), if_neg (by omega), if_pos (by omega), show (224 + r / 4096).toNat = 224 + r.toNat / 4096 by omega, show (128 + r / 64 % 64).toNat = 128 + r.toNat / 64 % 64 by omega, show (128 + r % 64).toNat = 128 + r.toNat % 64 by omega]
theorem encI_4 {r : Int} (h : 65536 ≤ r) (h1 : r ≤ 1114111) : encI r = [UInt8.ofNat (240 + r / 262144).toNat, UInt8.ofNat (128 + r / 4096 % 64).toNat, UInt8.ofNat (128 + r / 64 % 64).toNat, UInt8.ofNat (128 + r % 64).toNat] := by
  unfold encI enc okRune
  rw [if_neg (by omega), if_neg (by omega), if_neg (by omega), if_neg (by omega), if_neg (by omega), show (240 + r / 262144).toNat = 240 + r.toNat / 262144 by omega, show (128 + r / 4096 % 64).toNat = 128 + r.toNat / 4096 % 64 by omega, show (128 + r / 64 % 64).toNat = 128 + r.toNat / 64 % 64 by omega, show (128 + r % 64).toNat = 128 + r.toNat % 64 by omega]

set_option maxHeartbeats 1000000 in
theorem refEncode_any (r : Int) (w : World) :
    Calls Tryd.prog 51 #[.int .i64 r] w fun e w' => e = .returned (.string (S (encI r))) ∧ Below w.heap.size w w' := by
  by_cases h0 : r < 0 ∨ 1114111 < r ∨ (55296 ≤ r ∧ r ≤ 57343)
  · rw [encI_no h0]
    rcases h0 with h0 | h0 | h0
    all_goals
      go_enter Tryd.func51, Tryd.ntmps51
      go_wp2
      go_ret
      exact ⟨rfl, Below.refl _ _⟩
  · have hs : r < 55296 ∨ 57343 < r := by omega
    by_cases h1 : r < 128
    · rw [encI_1 (by omega) h1]
      have hr : 0 ≤ r := by omega
      have e := fun w => run_new1 w r (by omega)
      clear h0 hs
      go_enter Tryd.func51, Tryd.ntmps51
      go_wp2
      go_ret
      exact ⟨rfl, (Below.refl _ _).alloc (Nat.le_refl _) _⟩
    · by_cases h2 : r < 2048
      · rw [encI_2 (by omega) h2]
        have hr : 128 ≤ r := by omega
        have e := fun w => run_new2 w (192 + r / 64) (128 + r % 64) (by omega) (by omega)
        clear h0 hs h1
        go_enter Tryd.func51, Tryd.ntmps51
        go_wp2
        go_ret
        exact ⟨rfl, (Below.refl _ _).alloc (Nat.le_refl _) _⟩
      · by_cases h3 : r < 65536
        · rw [encI_3 (by omega) h3 hs]
          have hr : 2048 ≤ r := by omega
          have e := fun w => run_new3 w (224 + r / 4096) (128 + r / 64 % 64) (128 + r % 64) (by omega) (by omega) (by omega)
          clear h0 h1 h2
          rcases hs with hs | hs
          all_goals
            go_enter Tryd.func51, Tryd.ntmps51
            go_wp2
            go_ret
            exact ⟨rfl, (Below.refl _ _).alloc (Nat.le_refl _) _⟩
        · have hr : 65536 ≤ r := by omega
          have hr2 : r ≤ 1114111 := by omega
          rw [encI_4 hr hr2]
          have e := fun w => run_new4 w (240 + r / 262144) (128 + r / 4096 % 64) (128 + r / 64 % 64) (128 + r % 64) (by omega) (by omega) (by omega) (by omega)
          clear h0 h1 h2 h3 hs
          go_enter Tryd.func51, Tryd.ntmps51
          go_wp2
          go_ret
          exact ⟨rfl, (Below.refl _ _).alloc (Nat.le_refl _) _⟩

/-- What Decode gives at an offset. -/
def decAt (l : Bytes) (n : Int) : Nat × Nat := if 0 ≤ n ∧ n < l.length then dec (l.drop n.toNat) else (0, 0)
theorem decAt_nat {l : Bytes} {n : Nat} (h : n < l.length) : decAt l n = dec (l.drop n) := by
  unfold decAt
  rw [if_pos (by omega), Int.toNat_natCast]

set_option maxHeartbeats 1000000 in
theorem refDecode_out (l : Bytes) (n : Int) (w : World) (hl : l.length ≤ 4611686018427387904) (h : n < 0 ∨ (l.length : Int) ≤ n) :
    Calls Tryd.prog 43 #[.string (S l), .int .i64 n] w fun e w' => e = .returned (.tuple #[.int .i64 0, .int .i64 0]) ∧ w = w' := by
  rcases h with h | h
  · go_enter Tryd.func43, Tryd.ntmps43
    go_wp2
    go_ret2
    exact ⟨rfl, rfl⟩
  · have h0 : 0 ≤ n := by omega
    go_enter Tryd.func43, Tryd.ntmps43
    go_wp2
    go_ret2
    exact ⟨rfl, rfl⟩

theorem drop_getD (l : Bytes) (n i : Nat) (h : n + i < l.length) : (l.drop n).getD i 0 = l[n + i] := by
  rw [List.getD_eq_getElem?_getD, List.getElem?_drop, List.getElem?_eq_getElem h]
  rfl
theorem drop_getD0 (l : Bytes) (n : Nat) (h : n < l.length) : (l.drop n).getD 0 0 = l[n] := by
  have := drop_getD l n 0 (by omega)
  simpa using this

theorem rp0_is (l : Bytes) (n : Nat) (h : n < l.length) (m : Nat) :
    (m = 1 → ((rp0 (l.drop n) m : Nat) : Int) = l[n].toNat) ∧ (m = 2 → ((rp0 (l.drop n) m : Nat) : Int) = (l[n].toNat : Int) % 32) ∧ (m = 3 → ((rp0 (l.drop n) m : Nat) : Int) = (l[n].toNat : Int) % 16) ∧ (m = 4 → ((rp0 (l.drop n) m : Nat) : Int) = (l[n].toNat : Int) % 8) := by
  have h0 := drop_getD0 l n h
  refine ⟨?_, ?_, ?_, ?_⟩ <;> (rintro rfl; unfold rp0; rw [h0]; simp)
theorem rp_next (l : Bytes) (n i m : Nat) (h1 : 1 ≤ i) (h : n + i < l.length) : ((rp (l.drop n) m (i + 1 - 1) : Nat) : Int) = ((rp (l.drop n) m (i - 1) : Nat) : Int) * 64 + (l[n + i].toNat : Int) % 64 := by
  have hx := drop_getD l n i h
  obtain ⟨k, rfl⟩ : ∃ k, i = k + 1 := ⟨i - 1, by omega⟩
  simp only [Nat.add_sub_cancel, rp]
  rw [hx]
  omega
set_option maxHeartbeats 4000000 in
theorem refDecode_in (l : Bytes) (n : Nat) (w : World) (hl : l.length ≤ 4611686018427387904) (h : n < l.length) :
    Calls Tryd.prog 43 #[.string (S l), .int .i64 n] w fun e w' => e = .returned (.tuple #[.int .i64 (dec (l.drop n)).1, .int .i64 (dec (l.drop n)).2]) ∧ Below w.heap.size w w' := by
  have hL : (l.drop n).length = l.length - n := List.length_drop
  have h0 := drop_getD0 l n h
  have HL := Lib.hid hL
  have H0 := Lib.hid h0
  clear hL h0
  have d1 : decide ((n : Int) < 0) = false := by simp
  have d2 : decide (l.length ≤ n) = false := by simp; omega
  have hb0 := u8_lt l[n]
  go_enter Tryd.func43, Tryd.ntmps43
  go_wp2
  go_loopw [6, 7, 8] (fun n6 _ _ wr => ∃ m : Nat, 1 ≤ m ∧ m ≤ 5 ∧ n6 = .int .i64 m ∧ (∀ j, 1 ≤ j → j < m → j ≤ (l.drop n).length → enc (rv (l.drop n) j) ≠ (l.drop n).take j) ∧ Below w.heap.size w wr) (fun n6 _ _ _ => 5 - (intOf n6).toNat)
  case atStart => exact ⟨1, by omega, by omega, rfl, by omega, Below.refl _ _⟩
  case round =>
    obtain ⟨m, hm1, hm5, rfl, hj, hb⟩ := hrel
    have HJ := Lib.hid hj
    have HB := Lib.hid hb
    have hsz := hb.size
    clear hj hb
    by_cases hm : m ≤ 4
    · by_cases hml : m ≤ l.length - n
      · have hm' : m = 1 ∨ m = 2 ∨ m = 3 ∨ m = 4 := by omega
        have hmi : (m : Int) ≤ (l.length : Int) - n := by omega
        have hr : ∀ i, i ≤ 3 → rp (l.drop n) m i < 67108864 := fun i hi => rp_le _ _ _ hi
        have HR := Lib.hid hr
        clear hr
        have hr0 := rp0_is l n h m
        have HR0 := Lib.hid hr0
        clear hr0
        have t2 : ((m : Int) == 2) = decide (m = 2) := by rw [Bool.eq_iff_iff]; simp; omega
        have t3 : ((m : Int) == 3) = decide (m = 3) := by rw [Bool.eq_iff_iff]; simp; omega
        have t4 : ((m : Int) == 4) = decide (m = 4) := by rw [Bool.eq_iff_iff]; simp; omega
        have T : (m = 1 ∧ ((m : Int) == 2) = false ∧ ((m : Int) == 3) = false ∧ ((m : Int) == 4) = false) ∨ (m = 2 ∧ ((m : Int) == 2) = true ∧ ((m : Int) == 3) = false ∧ ((m : Int) == 4) = false) ∨
            (m = 3 ∧ ((m : Int) == 2) = false ∧ ((m : Int) == 3) = true ∧ ((m : Int) == 4) = false) ∨ (m = 4 ∧ ((m : Int) == 2) = false ∧ ((m : Int) == 3) = false ∧ ((m : Int) == 4) = true) := by
          rcases hm' with e | e | e | e <;> (rw [t2, t3, t4, e]; decide)
        clear t2 t3 t4 hm'
        rcases T with ⟨e, t2, t3, t4⟩ | ⟨e, t2, t3, t4⟩ | ⟨e, t2, t3, t4⟩ | ⟨e, t2, t3, t4⟩
        all_goals
          have E := Lib.hid e
          clear e
          go_wp2
          go_loopw [7, 8] (fun r7 i8 wx => ∃ i : Nat, 1 ≤ i ∧ i ≤ m ∧ i8 = .int .i64 i ∧ r7 = .int .i64 (rp (l.drop n) m (i - 1) : Nat) ∧ wr = wx) (fun _ i8 _ => m - (intOf i8).toNat)
          case atStart => exact ⟨1, by omega, by omega, rfl, val_int (by first | exact (HR0.out.1 E.out).symm | exact (HR0.out.2.1 E.out).symm | exact (HR0.out.2.2.1 E.out).symm | exact (HR0.out.2.2.2 E.out).symm), rfl⟩
          case round =>
            obtain ⟨i, hi1, him, rfl, rfl, rfl⟩ := hrel
            have hri := HR.out (i - 1) (by omega)
            by_cases hlt : i < m
            · have hni : (n : Int) + i < l.length := by omega
              have hstep := rp_next l n i m hi1 (by omega)
              have HS := Lib.hid hstep
              clear hstep
              generalize rp (l.drop n) m (i - 1) = q at *
              go_wp2
              go_roundw
              case rel => exact ⟨i + 1, by omega, by omega, by go_num, val_int HS.out.symm, by first | rfl | trivial⟩
              case measure => simp [intOf]; omega
            · obtain rfl : i = m := by omega
              have hq : rp (l.drop n) i (i - 1) = rv (l.drop n) i := rfl
              rw [hq] at *
              generalize hv : rv (l.drop n) i = v at *
              have HV := Lib.hid hv
              clear hq hv
              have hen := encI_nat v
              have s2 : (0 : Int) ≤ (n : Int) + i := by omega
              have s3 : ((n : Int) + i).toNat = n + i := by omega
              have s4 : (n : Int) ≤ (n : Int) + i := by omega
              have s5 : (n : Int) + i ≤ (l.length : Int) := by omega
              have s1 : IntKind.i64.wrap ((n : Int) + i) = (n : Int) + i := IntWalk.i64_in _ (by omega)
              go_wp2
              go_region_with (go_at_call 51; refine (refEncode_any _ _).mono ?_; rintro e w' ⟨rfl, hbe⟩)
              clear s1
              have hlen : i ≤ (l.drop n).length := by rw [HL.out]; exact hml
              have HN := Lib.hid hlen
              clear hlen
              go_wp2
              · rename_i hq
                have hhit := ref_hit hm1 HN.out (by rw [HV.out]; exact eq_of_beq hq)
                rw [HV.out] at hhit
                go_ret2
                exact ⟨by rw [hhit]; rfl, HB.out.trans ((below_drew hbe).mono hsz)⟩
              · rename_i hq
                have hqn : enc v ≠ (l.drop n).take i := fun e => by rw [e, beq_self_eq_true] at hq; exact absurd hq (by decide)
                go_roundw
                case rel =>
                  refine ⟨i + 1, by omega, by omega, by go_num, fun j h1 h2 h3 => ?_, HB.out.trans ((below_drew hbe).mono hsz)⟩
                  by_cases hji : j = i
                  · subst hji; rw [HV.out]; exact hqn
                  · exact HJ.out j h1 (by omega) h3
                case measure => simp [intOf]; omega
      · have hmi : (l.length : Int) - n < m := by omega
        have hz : dec (l.drop n) = (0, 0) := ref_miss fun j h1 h2 h3 => HJ.out j h1 (by rw [HL.out] at h3; omega) h3
        have HZ := Lib.hid hz
        clear hz
        go_wp2
        go_ret2
        exact ⟨by rw [HZ.out]; rfl, HB.out⟩
    · have hz : dec (l.drop n) = (0, 0) := ref_miss fun j h1 h2 h3 => HJ.out j h1 (by omega) h3
      have HZ := Lib.hid hz
      clear hz
      go_wp2
      go_ret2
      exact ⟨by rw [HZ.out]; rfl, HB.out⟩
end Go.Proofs.YthilaolkkamedaaDoor
