/-
  Walks of chapter 9: Text and Elem (program and reference).
-/
import Derived.Test.YthilaolkkamedaaDoorRow
import Derived.Test.YthilaolkkamedaaDoorDepth
import Derived.Deep.RegionHeld3
import Derived.Laws.ResultCell
set_option linter.unusedVariables false
namespace Go.Proofs.YthilaolkkamedaaDoor
open Go.RowKit

/-- Character data. -/
def textNode (s : Bytes) : Node := .mk 1 [] [] [] [] s 0
theorem NodeV.bare (w : World) (B : Nat) (k : Int) (nm t : Bytes) (p : Int) : NodeV w B (.mk k [] nm [] [] t p) (.agg #[.int .i64 k, .string (S []), .string (S nm), .slice none 0 0, .slice none 0 0, .string (S t), .int .i64 p]) :=
  NodeV.of_form (n := .mk k [] nm [] [] t p) ⟨none, 0, rfl, Nat.le_refl _, .inl rfl⟩ ⟨none, 0, rfl, Nat.le_refl _, .inl rfl⟩

set_option maxHeartbeats 400000 in
theorem text9_any (s : Bytes) (w : World) :
    Calls Tryd.prog 17 #[.string (S s)] w fun e w' => ∃ v, e = .returned v ∧ NodeV w' w'.heap.size (textNode s) v ∧ Below w.heap.size w w' := by
  go_enter Tryd.func17, Tryd.ntmps17
  go_wp2
  exact bodyPost_ret (v := .agg #[.int .i64 1, .string ⟨#[]⟩, .string ⟨#[]⟩, .slice none 0 0, .slice none 0 0, .string (S s), .int .i64 0]) (by simp [results, Tryd.results17, go_sem]) rfl ⟨_, rfl, NodeV.bare _ _ _ _ _ _, (Below.refl _ _).alloc (Nat.le_refl _) _⟩

/-- Elem leaves out empty character data. -/
def keepKid (k : Node) : Bool := !(k.kind == 1 && k.text == [])
def elemNode (nm : Bytes) (ks : List Node) : Node := .mk 0 [] nm [] (ks.filter keepKid) [] 0
abbrev zNode : List Value := [.int .i64 0, .string ⟨#[]⟩, .string ⟨#[]⟩, .slice none 0 0, .slice none 0 0, .string ⟨#[]⟩, .int .i64 0]
theorem filter_take_yes {ks : List Node} {i : Nat} (h : i < ks.length) (hk : keepKid ks[i] = true) : (ks.take (i + 1)).filter keepKid = (ks.take i).filter keepKid ++ [ks[i]] := by
  rw [← List.take_append_getElem h, List.filter_append]; simp [hk]
theorem filter_take_no {ks : List Node} {i : Nat} (h : i < ks.length) (hk : keepKid ks[i] = false) : (ks.take (i + 1)).filter keepKid = (ks.take i).filter keepKid := by
  rw [← List.take_append_getElem h, List.filter_append]; simp [hk]
/-- The result's cell and the node that is being built. -/
structure Elm (w : World) (b : Nat) (nm : Bytes) (vk : Value) : Prop where
  res : w.heap[b]? = some (.cells zNode.toArray 25)
  nod : w.heap[b + 1]? = some (.cells #[.int .i64 0, .string ⟨#[]⟩, .string (S nm), .slice none 0 0, vk, .string ⟨#[]⟩, .int .i64 0] 25)
theorem Elm.below {w w' : World} {b : Nat} {nm : Bytes} {vk : Value} (h : Elm w b nm vk) (hb : Below w.heap.size w w') : Elm w' b nm vk :=
  ⟨(hb.block _ (heap_lt h.res)).trans h.res, (hb.block _ (heap_lt h.nod)).trans h.nod⟩

theorem Elm.put {w : World} {b : Nat} {nm : Bytes} {vk : Value} (h : Elm w b nm vk) (v : Value) : Elm (w.setCell ⟨b + 1, 4, none⟩ v) b nm v := by
  refine ⟨(Below.heap_setCell _ _ _ _ (by simp)).trans h.res, ?_⟩
  have := h.nod
  simp [World.setCell, Array.getElem?_modify, this]
theorem Elm.cell {w : World} {b : Nat} {nm : Bytes} {vk : Value} (h : Elm w b nm vk) : w.cell? ⟨b + 1, 4, none⟩ = some vk := by rw [Lib.cell_of_heap h.nod]; rfl
theorem Elm.free {w : World} {b : Nat} {nm : Bytes} {vk : Value} (h : Elm w b nm vk) : w.frozen? ⟨b + 1, 4, none⟩ = false := Lib.frozen_of_heap h.nod 4
theorem Elm.keep {w w' : World} {b : Nat} {nm : Bytes} {vk v' : Value} (h : Elm w b nm vk) (hg : Grew w vk v' w') (hl : ∀ k, vk.ownBlock = some k → b + 2 ≤ k) : Elm w' b nm vk :=
  ⟨hg.heap h.res (fun e => by have := hl _ e; omega), hg.heap h.nod (fun e => by have := hl _ e; omega)⟩

set_option maxHeartbeats 2000000 in
set_option maxRecDepth 100000 in
theorem elem9P_any (nm : Bytes) (ks : List Node) (v : Value) (w : World) (p : Nat → Prop) (hp : ∀ b, p b → b < w.heap.size) (hl : ks.length ≤ 1000000) (hv : NodesP w p v ks) :
    Calls Tryd.prog 12 #[.string (S nm), v] w fun e w' => ∃ v, e = .returned v ∧ NodePV w' (fun b => p b ∨ (w.heap.size ≤ b ∧ b < w'.heap.size)) (elemNode nm ks) v ∧ Below w.heap.size w w' := by
  obtain ⟨A, cap, rfl, hcap⟩ : ∃ A cap, v = .slice A ks.length cap ∧ ks.length ≤ cap := by obtain ⟨A, cap, h, hc, _⟩ := hv; exact ⟨A, cap, h, hc⟩
  have HV := Lib.hid hv
  have h0 : Elm ((w.alloc (.cells zNode.toArray 25)).alloc (.cells #[.int .i64 0, .string ⟨#[]⟩, .string (S nm), .slice none 0 0, .slice none 0 0, .string ⟨#[]⟩, .int .i64 0] 25)) w.heap.size nm (.slice none 0 0) :=
    ⟨(Below.heap_alloc _ _ _ (by simp)).trans (heap_alloc_new w _), by have := heap_alloc_new (w.alloc (.cells zNode.toArray 25)) (.cells #[.int .i64 0, .string ⟨#[]⟩, .string (S nm), .slice none 0 0, .slice none 0 0, .string ⟨#[]⟩, .int .i64 0] 25); simpa using this⟩
  have H0 := Lib.hid h0
  clear hv h0
  go_enter Tryd.func12, Tryd.ntmps12
  go_wp2_with fail
  go_loopw [12] (fun i12 wr => ∃ (i : Nat) (vk : Value), i ≤ ks.length ∧ i12 = .int .i64 i ∧ NodeRow wr (w.heap.size + 2) p vk ((ks.take i).filter keepKid) ∧ Elm wr w.heap.size nm vk ∧ Below w.heap.size w wr) (fun i12 _ => ks.length - (intOf i12).toNat)
  case atStart => exact ⟨0, _, Nat.zero_le _, rfl, NodeRow.nil _ _ _, H0.out, ((Below.refl _ _).alloc (Nat.le_refl _) _).alloc (by simp) _⟩
  case round =>
    obtain ⟨i, vk, hi, rfl, hrow, helm, hb⟩ := hrel
    clear H0
    have HR := Lib.hid hrow
    have HE := Lib.hid helm
    have HB := Lib.hid hb
    have hsz : w.heap.size + 2 ≤ wr.heap.size := heap_lt helm.nod
    have hpr : ∀ j, p j → j < wr.heap.size := fun j hj => by have := hp j hj; omega
    by_cases hlt : i < ks.length
    · obtain ⟨bb, off, cs, hAA, hbb, hr, hcs⟩ := HV.out.at_ hlt
      subst hAA
      have hr' : wr.rangeAt bb (off + i * 7) cs := rangeAt_keep hr (hb.block bb (hp bb hbb))
      have hcs' : NodeP wr p ks[i] cs := NodeP.keep (fun j hj => hb.block j (hp j hj)) (fun _ h => h) _ _ hcs
      have hyes := filter_take_yes hlt
      have hno := filter_take_no hlt
      have hkd : keepKid ks[i] = !(ks[i].kind == 1 && ks[i].text == []) := rfl
      have hfl : ((ks.take i).filter keepKid).length < 1000000000000 := by
        have h1 := List.length_filter_le keepKid (ks.take i)
        have h2 : (ks.take i).length ≤ i := by simp; omega
        omega
      obtain ⟨A', c', K', d', hcs2, _, _, _, _⟩ := hcs.open_
      subst hcs2
      generalize ks[i] = k at *
      generalize (ks.take i).filter keepKid = acc at *
      have HRR := Lib.hid hr'
      have hlt' : (i : Int) < ks.length := by omega
      have F1 : Hid (∀ o, Below w.heap.size w (wr.alloc o)) := fun o => hb.alloc (by omega) o
      clear hr hr' hcs hb hrow
      have step : keepKid k = true → ∀ (g c : Nat) (w' : World), NodeRow w' (w.heap.size + 2) p (.slice (some ⟨g, 0, none⟩) (acc.length + 1) c) (acc ++ [k]) → Grew (wr.alloc (.cells #[.int .i64 k.kind, .string (S k.space), .string (S k.name), .slice A' k.attrs.length c', .slice K' k.kids.length d', .string (S k.text), .int .i64 k.pos] 25)) vk (.slice (some ⟨g, 0, none⟩) (acc.length + 1) c) w' → Below (w.heap.size + 2) (wr.alloc (.cells #[.int .i64 k.kind, .string (S k.space), .string (S k.name), .slice A' k.attrs.length c', .slice K' k.kids.length d', .string (S k.text), .int .i64 k.pos] 25)) w' →
          w'.cell? ⟨w.heap.size + 1, 4, none⟩ = some vk ∧ w'.frozen? ⟨w.heap.size + 1, 4, none⟩ = false ∧
          Hid (NodeRow (w'.setCell ⟨w.heap.size + 1, 4, none⟩ (.slice (some ⟨g, 0, none⟩) (acc.length + 1) c)) (w.heap.size + 2) p (.slice (some ⟨g, 0, none⟩) (acc.length + 1) c) ((ks.take (i + 1)).filter keepKid) ∧ Elm (w'.setCell ⟨w.heap.size + 1, 4, none⟩ (.slice (some ⟨g, 0, none⟩) (acc.length + 1) c)) w.heap.size nm (.slice (some ⟨g, 0, none⟩) (acc.length + 1) c) ∧ Below w.heap.size w (w'.setCell ⟨w.heap.size + 1, 4, none⟩ (.slice (some ⟨g, 0, none⟩) (acc.length + 1) c))) := by
        intro hkk g c w' h1 h2 h3
        have he : Elm w' w.heap.size nm vk := (HE.out.below ((Below.refl _ _).alloc (Nat.le_refl _) _)).keep h2 (fun k hk => (HR.out.lt k hk).1)
        refine ⟨he.cell, he.free, ?_, he.put _, ?_⟩
        · rw [hyes hkk]
          have hg := h1.lt g rfl
          exact h1.heap (fun j hj => Below.heap_setCell _ _ _ _ (by simp [Value.ownBlock] at hj; simp; omega)) (fun j hj => Below.heap_setCell _ _ _ _ (by have := hp j hj; simp; omega))
        · exact ((F1.out _).trans (h3.mono (by omega))).setCell (p := ⟨w.heap.size + 1, 4, none⟩) (by simp) _
      cases t : (k.kind == 1)
      · have hkk : keepKid k = true := by rw [hkd, t]; rfl
        have HS := Lib.hid (step hkk)
        have hc4 : ∀ o, (wr.alloc o).cell? ⟨w.heap.size + 1, 4, none⟩ = some vk := fun o => (helm.below ((Below.refl _ _).alloc (Nat.le_refl _) o)).cell
        clear step hyes hno hkd hkk helm
        go_wp2_with (first
          | (with_reducible refine gate ?_; refine wp_load_node rfl _ rfl bb (off + i * 7) rfl _ rfl HRR.out ?_)
          | (at_builtin; refine nodes_append rfl _ _ rfl (wr.alloc _) (w.heap.size + 2) p vk acc rfl (HR.out.below ((Below.refl _ _).alloc (Nat.le_refl _) _) hpr) k _ (wr.heap.size + 1) (by simp) rfl (NodeP.keep (fun j hj => Below.heap_alloc _ _ _ (hpr j hj)) (fun _ h => h) _ _ hcs') (fun j hj => Nat.lt_of_lt_of_le (hp j hj) (by omega)) (by simp; omega) hfl ?_; intro g c w1 r1 r2 r3; obtain ⟨f1, f2, f3⟩ := HS.out g c w1 r1 r2 r3))
        go_roundw
        case rel => exact ⟨i + 1, _, by omega, by go_num, f3.out.1, f3.out.2.1, f3.out.2.2⟩
        case measure => simp [intOf]; omega
      · by_cases hx : k.text = []
        · have hkk : keepKid k = false := by rw [hkd, t, hx]; rfl
          have HNO := Lib.hid (hno hkk)
          have HAL := Lib.hid (show NodeRow (wr.alloc (.cells #[.int .i64 k.kind, .string (S k.space), .string (S k.name), .slice A' k.attrs.length c', .slice K' k.kids.length d', .string (S k.text), .int .i64 k.pos] 25)) (w.heap.size + 2) p vk acc ∧ Elm (wr.alloc (.cells #[.int .i64 k.kind, .string (S k.space), .string (S k.name), .slice A' k.attrs.length c', .slice K' k.kids.length d', .string (S k.text), .int .i64 k.pos] 25)) w.heap.size nm vk from ⟨HR.out.below ((Below.refl _ _).alloc (Nat.le_refl _) _) hpr, helm.below ((Below.refl _ _).alloc (Nat.le_refl _) _)⟩)
          rw [hx] at HAL HRR
          clear step hyes hno hkd hkk helm hcs' HE HR
          go_wp2_with (with_reducible refine gate ?_; refine wp_load_node rfl _ rfl bb (off + i * 7) rfl _ rfl HRR.out ?_)
          go_roundw
          case rel => exact ⟨i + 1, vk, by omega, by go_num, by rw [HNO.out]; exact HAL.out.1, HAL.out.2, F1.out _⟩
          case measure => simp [intOf]; omega
        · have hkk : keepKid k = true := by rw [hkd, t]; simp [hx]
          have e1 : List.isEmpty k.text = false := by cases hsp : k.text with
            | nil => exact (hx hsp).elim
            | cons x l => rfl
          have HS := Lib.hid (step hkk)
          have hc4 : ∀ o, (wr.alloc o).cell? ⟨w.heap.size + 1, 4, none⟩ = some vk := fun o => (helm.below ((Below.refl _ _).alloc (Nat.le_refl _) o)).cell
          clear step hyes hno hkd hkk helm hx
          go_wp2_with (first
            | (with_reducible refine gate ?_; refine wp_load_node rfl _ rfl bb (off + i * 7) rfl _ rfl HRR.out ?_)
            | (at_builtin; refine nodes_append rfl _ _ rfl (wr.alloc _) (w.heap.size + 2) p vk acc rfl (HR.out.below ((Below.refl _ _).alloc (Nat.le_refl _) _) hpr) k _ (wr.heap.size + 1) (by simp) rfl (NodeP.keep (fun j hj => Below.heap_alloc _ _ _ (hpr j hj)) (fun _ h => h) _ _ hcs') (fun j hj => Nat.lt_of_lt_of_le (hp j hj) (by omega)) (by simp; omega) hfl ?_; intro g c w1 r1 r2 r3; obtain ⟨f1, f2, f3⟩ := HS.out g c w1 r1 r2 r3))
          go_roundw
          case rel => exact ⟨i + 1, _, by omega, by go_num, f3.out.1, f3.out.2.1, f3.out.2.2⟩
          case measure => simp [intOf]; omega
    · obtain rfl : i = ks.length := by omega
      rw [List.take_length] at hrow
      obtain ⟨KA, kc, rfl, hkc⟩ := hrow.slice
      have hnod := helm.nod
      have hres := helm.res
      have hra := range_of_heap hnod
      have HN := Lib.hid hrow
      clear hb hrow helm HR HE
      go_wp2_with (first
        | (with_reducible refine gate ?_; refine wp_load_node rfl _ rfl (w.heap.size + 1) 0 rfl _ rfl hra ?_)
        | (with_reducible refine gate ?_; refine wp_store_node rfl _ _ rfl w.heap.size _ _ _ _ _ _ _ _ _ _ _ _ rfl rfl hres rfl ?_; intro w2 hw2 hu2))
      refine bodyPost_ret (v := .agg _) (res_whole Tryd.results12 _ _ w.heap.size rfl _ _ hw2 Tryd.underlying25 rfl nodeSize) rfl ⟨_, rfl, ?_, ?_⟩
      · have hw : w.heap.size < w2.heap.size := heap_lt hw2
        have hsz2 := hu2.size
        exact NodePV.of_form (n := elemNode nm ks) ⟨none, 0, rfl, Nat.le_refl _, .inl rfl⟩ ((HN.out.heap (fun j hj => by have := HN.out.lt j hj; exact hu2.block j (by omega) (by omega)) (fun j hj => hu2.block j (hpr j hj) (by have := hp j hj; omega))).nodesP (fun j hj => .inl hj) (fun j hj => .inr (by have := HN.out.lt j hj; omega)))
      · exact HB.out.trans (hu2.below (Nat.le_refl _) (by omega))
theorem elem9_any (nm : Bytes) (ks : List Node) (v : Value) (w : World) (hl : ks.length ≤ 1000000) (hv : NodesIn w w.heap.size v ks) :
    Calls Tryd.prog 12 #[.string (S nm), v] w fun e w' => ∃ v, e = .returned v ∧ NodeV w' w'.heap.size (elemNode nm ks) v ∧ Below w.heap.size w w' := by
  refine (elem9P_any nm ks v w (· < w.heap.size) (fun _ h => h) hl hv.toP).mono ?_
  rintro e w' ⟨v', rfl, h1, h2⟩
  exact ⟨v', rfl, h1.toV (fun k hk => hk.elim (fun h => Nat.lt_of_lt_of_le h h2.size) (fun h => h.2)), h2⟩
end Go.Proofs.YthilaolkkamedaaDoor
