/-
  Several texts in one file, in build order:
  - Walk of chapter 7's program: Strip.
-/
import Derived.Test.YtclhdppppgjgfaaGreatDoorH19
import Derived.Test.YtclhdppppgjgfaaGreatDoorH12
import Derived.Test.YtclhdppppgjgfaaGreatDoorH13
set_option linter.unusedVariables false
namespace Go.Proofs.YtclhdppppgjgfaaGreatDoor
open Go.RowKit

/-! Plain: a tree without offsets. -/
def stripA (a : Att) : Att := ⟨a.space, a.name, a.value, 0⟩
mutual
def stripN : Node → Node
  | .mk k s nm ats ks t _ => .mk k s nm (ats.map stripA) (stripL ks) t 0
def stripL : List Node → List Node
  | [] => []
  | k :: ks => stripN k :: stripL ks
end
theorem stripL_map : ∀ ks : List Node, stripL ks = ks.map stripN
  | [] => by rw [stripL]; rfl
  | k :: ks => by rw [stripL, stripL_map ks]; rfl
theorem stripN_eq (n : Node) : stripN n = .mk n.kind n.space n.name (n.attrs.map stripA) (n.kids.map stripN) n.text 0 := by
  cases n; rw [stripN, stripL_map]; rfl
def zN : Array Value := #[.int .i64 0, .string ⟨#[]⟩, .string ⟨#[]⟩, .slice none 0 0, .slice none 0 0, .string ⟨#[]⟩, .int .i64 0]
/-- Strip's node under way. -/
structure StA (w : World) (n : Node) (H : Nat) (va vk : Value) (wr : World) : Prop where
  res : wr.heap[H + 1]? = some (.cells #[.int .i64 0, .string ⟨#[]⟩, .string ⟨#[]⟩, .slice none 0 0, .slice none 0 0, .string ⟨#[]⟩, .int .i64 0] 26 (0, 0))
  nd : wr.heap[H + 1 + 1]? = some (.cells #[.int .i64 n.kind, .string (S n.space), .string (S n.name), va, vk, .string (S n.text), .int .i64 0] 26 (0, 0))
  below : Below w.heap.size w wr
  size : H + 3 ≤ wr.heap.size

theorem StA.grow {w wr w8 : World} {n : Node} {H : Nat} {va vk : Value} (h : StA w n H va vk wr) (hH : w.heap.size ≤ H) (hb : Below (H + 3) wr w8) : StA w n H va vk w8 :=
  ⟨(hb.block _ (by omega)).trans h.res, (hb.block _ (by omega)).trans h.nd, h.below.trans (hb.mono (by omega)), Nat.le_trans h.size hb.size⟩
theorem StA.setA {w wr : World} {n : Node} {H : Nat} {va vk : Value} (h : StA w n H va vk wr) (hH : w.heap.size ≤ H) (u : Value) : StA w n H u vk (wr.setCell ⟨H + 1 + 1, 3, none⟩ u) :=
  ⟨(Below.heap_setCell _ _ _ _ (show H + 1 ≠ (⟨H + 1 + 1, 3, none⟩ : Addr).block by simp)).trans h.res, heap_set (i := 3) h.nd u, h.below.trans ((Below.refl _ _).setCell (p := ⟨H + 1 + 1, 3, none⟩) (by show w.heap.size ≤ H + 1 + 1; omega) _), by have := h.size; simpa using this⟩
theorem StA.setK {w wr : World} {n : Node} {H : Nat} {va vk : Value} (h : StA w n H va vk wr) (hH : w.heap.size ≤ H) (u : Value) : StA w n H va u (wr.setCell ⟨H + 1 + 1, 4, none⟩ u) :=
  ⟨(Below.heap_setCell _ _ _ _ (show H + 1 ≠ (⟨H + 1 + 1, 4, none⟩ : Addr).block by simp)).trans h.res, heap_set (i := 4) h.nd u, h.below.trans ((Below.refl _ _).setCell (p := ⟨H + 1 + 1, 4, none⟩) (by show w.heap.size ≤ H + 1 + 1; omega) _), by have := h.size; simpa using this⟩

/-- Strip's second loop: w1 is where it began. -/
structure KSt (w w1 : World) (n : Node) (H : Nat) (va : Value) (KA : Option Addr) (kc : Nat) (ks : List Node) (wr : World) : Prop where
  st : StA w n H va (.slice KA ks.length kc) wr
  keep : ∀ b, b < w1.heap.size → b ≠ H + 1 + 1 → wr.heap[b]? = w1.heap[b]?
  row : ElRow nodeE wr w1.heap.size (fun b => (w1.heap.size ≤ b ∧ b < wr.heap.size ∧ Loose wr b) ∧ (Value.slice KA ks.length kc).ownBlock ≠ some b) (.slice KA ks.length kc) ks
  size : w1.heap.size ≤ wr.heap.size
section
variable {w w1 : World} {n : Node} {H : Nat} {va : Value} {KA : Option Addr} {kc : Nat} {ks : List Node} {wr w' : World}
theorem KSt.next (h : KSt w w1 n H va KA kc ks wr) (hH : w.heap.size ≤ H) (hb : Below wr.heap.size wr w') : KSt w w1 n H va KA kc ks w' :=
  ⟨h.st.grow hH (hb.mono h.st.size), fun b h1 h2 => (hb.block b (Nat.lt_of_lt_of_le h1 h.size)).trans (h.keep b h1 h2), (h.row.below nodeE_ok hb (fun k hk => hk.1.2.1)).more nodeE_ok (fun k hk => ⟨⟨hk.1.1, Nat.lt_of_lt_of_le hk.1.2.1 hb.size, hk.1.2.2.keep (hb.block k hk.1.2.1)⟩, hk.2⟩), Nat.le_trans h.size hb.size⟩
theorem KSt.put {w6 w8 : World} {g8 c8 : Nat} {k' : Node} (h : KSt w w1 n H va KA kc ks w6) (hH : w.heap.size ≤ H) (hH3 : H + 3 ≤ w1.heap.size) (hat : (Value.slice KA ks.length kc).ownBlock = some g8 ∨ w6.heap.size ≤ g8)
    (hgr : ∀ b, b < w6.heap.size → (Value.slice KA ks.length kc).ownBlock ≠ some b → w8.heap[b]? = w6.heap[b]?)
    (hr : ElRow nodeE w8 w1.heap.size (fun b => (w1.heap.size ≤ b ∧ b < w6.heap.size ∧ Loose w6 b) ∧ (Value.slice KA ks.length kc).ownBlock ≠ some b) (.slice (some ⟨g8, 0, none⟩) (ks.length + 1) c8) (ks ++ [k'])) (hb : Below w1.heap.size w6 w8) :
    KSt w w1 n H va (some ⟨g8, 0, none⟩) c8 (ks ++ [k']) (w8.setCell ⟨H + 1 + 1, 4, none⟩ (.slice (some ⟨g8, 0, none⟩) (ks.length + 1) c8)) := by
  have hlen : (ks ++ [k']).length = ks.length + 1 := by simp
  have hsz : (w8.setCell ⟨H + 1 + 1, 4, none⟩ (.slice (some ⟨g8, 0, none⟩) (ks.length + 1) c8)).heap.size = w8.heap.size := by simp [World.setCell]
  have hset : ∀ b, b ≠ H + 1 + 1 → (w8.setCell ⟨H + 1 + 1, 4, none⟩ (.slice (some ⟨g8, 0, none⟩) (ks.length + 1) c8)).heap[b]? = w8.heap[b]? := fun b hb => Below.heap_setCell _ _ _ _ hb
  have hbs := hb.size
  have hs := h.size
  refine ⟨?_, fun b h1 h2 => (hset b h2).trans ((hb.block b h1).trans (h.keep b h1 h2)), ?_, by rw [hsz]; omega⟩
  · rw [hlen]
    exact (h.st.grow hH (hb.mono hH3)).setK hH _
  · rw [hlen, hsz]
    have h8 := hr.lt g8 rfl
    have hne : ∀ b, (Value.slice (some ⟨g8, 0, none⟩) (ks.length + 1) c8).ownBlock = some b → b ≠ H + 1 + 1 := fun b hb' => by
      have e2 : g8 = b := by simpa [Value.ownBlock] using hb'
      omega
    refine (hr.heap nodeE_ok (fun b hb' => hset b (hne b hb')) (fun b hb' => hset b (by omega))).more nodeE_ok (fun b hb' => ?_)
    refine ⟨⟨hb'.1.1, by have := hb'.1.2.1; omega, hb'.1.2.2.keep ((hset b (by have := hb'.1.1; omega)).trans (hgr b hb'.1.2.1 hb'.2))⟩, fun e => ?_⟩
    have e2 : g8 = b := by simpa [Value.ownBlock] using e
    rcases hat with h9 | h9
    · exact hb'.2 (by rw [h9, e2])
    · have := hb'.1.2.1; omega
end

set_option maxHeartbeats 8000000 in
set_option maxRecDepth 100000 in
theorem strip7_any (g : Nat) : ∀ (n : Node) (v : Value) (w : World), nsz n ≤ g → Slim n → NodeV w w.heap.size n v →
    Calls Tryz.prog 16 #[v] w fun e w' => ∃ u, e = .returned u ∧ NodePV w' (fun j => w.heap.size ≤ j ∧ j < w'.heap.size ∧ Loose w' j) (stripN n) u ∧ Below w.heap.size w w' := by
  induction g with
  | zero => intro n v w h; cases n; rw [nsz] at h; omega
  | succ g ih =>
    intro n v w hg hfn hv
    obtain ⟨A, c, K, d, rfl, hA, hK, _, _⟩ := hv.open_
    obtain ⟨hf1, hf2, hf3⟩ := hfn.form
    obtain ⟨W0, hW0⟩ : ∃ W0, ((w.alloc (.cells #[.int .i64 n.kind, .string (S n.space), .string (S n.name), .slice A n.attrs.length c, .slice K n.kids.length d, .string (S n.text), .int .i64 n.pos] 26)).alloc (.cells #[.int .i64 0, .string ⟨#[]⟩, .string ⟨#[]⟩, .slice none 0 0, .slice none 0 0, .string ⟨#[]⟩, .int .i64 0] 26)).alloc (.cells #[.int .i64 n.kind, .string (S n.space), .string (S n.name), .slice none 0 0, .slice none 0 0, .string (S n.text), .int .i64 0] 26) = W0 := ⟨_, rfl⟩
    have hb0 : Below w.heap.size w W0 := by rw [← hW0]; exact (((Below.refl _ _).alloc (Nat.le_refl _) _).alloc (by simp) _).alloc (by simp; omega) _
    have hz0 : W0.heap.size = w.heap.size + 3 := by rw [← hW0]; simp
    have hg0 : W0.heap[w.heap.size]? = some (.cells #[.int .i64 n.kind, .string (S n.space), .string (S n.name), .slice A n.attrs.length c, .slice K n.kids.length d, .string (S n.text), .int .i64 n.pos] 26 (0, 0)) := by rw [← hW0]; exact alloc_old (alloc_old (heap_alloc_new _ _))
    have hg1 : W0.heap[w.heap.size + 1]? = some (.cells #[.int .i64 0, .string ⟨#[]⟩, .string ⟨#[]⟩, .slice none 0 0, .slice none 0 0, .string ⟨#[]⟩, .int .i64 0] 26 (0, 0)) := by rw [← hW0]; exact alloc_old (alloc_at (by simp))
    have hg2 : W0.heap[w.heap.size + 1 + 1]? = some (.cells #[.int .i64 n.kind, .string (S n.space), .string (S n.name), .slice none 0 0, .slice none 0 0, .string (S n.text), .int .i64 0] 26 (0, 0)) := by rw [← hW0]; exact alloc_at (by simp)
    obtain ⟨x0, x1, x2, x3, x4, x5, x6⟩ := cells7 hg0
    have h0 : StA w n w.heap.size (.slice none 0 0) (.slice none 0 0) W0 := ⟨hg1, hg2, hb0, by omega⟩
    have hbox : ∀ W, Below (w.heap.size + 3) W0 W → W.heap[w.heap.size]? = some (.cells #[.int .i64 n.kind, .string (S n.space), .string (S n.name), .slice A n.attrs.length c, .slice K n.kids.length d, .string (S n.text), .int .i64 n.pos] 26 (0, 0)) := fun W hW => (hW.block _ (by omega)).trans hg0
    have H0 := Lib.hid h0
    have HA := Lib.hid hA
    have HK := Lib.hid hK
    have HIH := Lib.hid ih
    have HG := Lib.hid hg
    have HF3 := Lib.hid hf3
    have HG0 := Lib.hid hg0
    have HW0 := Lib.hid hW0
    clear h0 hA hK ih hg hf3 hg0 hg1 hg2 hv hfn hb0 hbox hW0 x0 x1 x2 x3 x4 x5 x6
    go_enter Tryz.func16, Tryz.ntmps16
    go_wp2_with fail
    go_loopw [20] (fun i20 wr => ∃ (i : Nat) (va : Value), i ≤ n.attrs.length ∧ i20 = .int .i64 i ∧ StA w n w.heap.size va (.slice none 0 0) wr ∧ wr.heap[w.heap.size]? = W0.heap[w.heap.size]? ∧ ElRow attE wr (w.heap.size + 3) (fun _ => False) va ((n.attrs.take i).map stripA)) (fun i20 _ => n.attrs.length - (intOf i20).toNat)
    case atStart => rw [HW0.out]; exact ⟨0, .slice none 0 0, Nat.zero_le _, rfl, H0.out, rfl, ElRow.nil _ _ _ _⟩
    case round =>
      clear H0 HW0
      obtain ⟨i, va, hi, rfl, hst, hbx, hrow⟩ := hrel
      have hsz := hst.size
      have hszw := hst.below.size
      by_cases hlt : i < n.attrs.length
      · have hlt' : (i : Int) < n.attrs.length := by omega
        obtain ⟨b, off, rfl, hpb, hra⟩ := (HA.out.keep hst.below.block (Nat.le_refl _)).at_ hlt
        have hmap : (n.attrs.take (i + 1)).map stripA = (n.attrs.take i).map stripA ++ [stripA n.attrs[i]] := by
          rw [List.take_succ_eq_append_getElem hlt, List.map_append]; rfl
        have hml : ((n.attrs.take i).map stripA).length = i := by simp; omega
        obtain ⟨VA, vc, rfl, hvc⟩ := hrow.slice
        generalize n.attrs[i] = x at *
        generalize (n.attrs.take i).map stripA = acc at *
        subst hml
        obtain ⟨W2, hW2⟩ : ∃ W2, wr.alloc (.cells #[.string (S x.space), .string (S x.name), .string (S x.value), .int .i64 0] 39) = W2 := ⟨_, rfl⟩
        have hb2 : Below (w.heap.size + 3) wr W2 := by rw [← hW2]; exact (Below.refl _ _).alloc hsz _
        have hz2 : W2.heap.size = wr.heap.size + 1 := by rw [← hW2]; simp
        have hnd2 : W2.heap[w.heap.size + 1 + 1]? = some (.cells #[.int .i64 n.kind, .string (S n.space), .string (S n.name), .slice VA acc.length vc, .slice none 0 0, .string (S n.text), .int .i64 0] 26 (0, 0)) := (hb2.block _ (by omega)).trans hst.nd
        have y3 : (wr.alloc (.cells #[.string (S x.space), .string (S x.name), .string (S x.value), .int .i64 0] 39)).cell? ⟨w.heap.size + 1 + 1, 3, none⟩ = some (.slice VA acc.length vc) := by rw [hW2]; exact (cells7 hnd2).2.2.2.1
        have hxa := range_of_heap (cs := attCells (stripA x)) (w := (wr.alloc (.cells #[.string (S x.space), .string (S x.name), .string (S x.value), .int .i64 0] 39))) (b := wr.heap.size) (t := 39) (fr := (0, 0)) (heap_alloc_new _ _)
        have HW2 := Lib.hid hW2
        have hrow2 : ElRow attE W2 (w.heap.size + 3) (fun _ => False) (.slice VA acc.length vc) acc := by rw [← hW2]; exact hrow.below attE_ok ((Below.refl _ _).alloc (Nat.le_refl _) _) (fun _ h => h.elim)
        have HROW := Lib.hid hrow2
        have HRA := Lib.hid hra
        have HXA := Lib.hid hxa
        have HST := Lib.hid hst
        have HBX := Lib.hid hbx
        have HB2 := Lib.hid hb2
        have HND2 := Lib.hid hnd2
        have HMAP := Lib.hid hmap
        have hll : acc.length < 10000000000 := by omega
        clear hra hxa hst hbx hb2 hnd2 hrow hrow2 hmap hW2
        have HLL := Lib.hid hll
        clear hll
        go_wp2_with (first
          | (with_reducible refine gate ?_; refine wp_load_att rfl _ rfl b (off + acc.length * 4) rfl x HRA.out ?_)
          | (with_reducible refine gate ?_; refine wp_load_att rfl _ rfl wr.heap.size 0 rfl (stripA x) HXA.out ?_)
          | (at_builtin; rw [HW2.out]; refine els_append attE_ok rfl _ _ rfl W2 (w.heap.size + 3) (fun _ => False) (.slice VA acc.length vc) acc rfl HROW.out (stripA x) [.string (S x.space), .string (S x.name), .string (S x.value), .int .i64 0] (wr.heap.size + 1) hz2 rfl rfl (fun _ h => h.elim) (fun _ h => h.elim) (by omega) HLL.out ?_; intro g8 c8 w8 hat8 hlt8 hrow8 hgr8 hb8; have hnd8 := (hb8.block (w.heap.size + 1 + 1) (by omega)).trans HND2.out; have f8 := Lib.frozen_of_heap hnd8 3; have z3 := (cells7 hnd8).2.2.2.1; have HROW8 := Lib.hid hrow8; have HB8 := Lib.hid hb8; have HND8 := Lib.hid hnd8; clear hat8 hrow8 hgr8 hb8 hnd8))
        go_roundw
        case rel =>
          refine ⟨acc.length + 1, .slice (some ⟨g8, 0, none⟩) (acc.length + 1) c8, by omega, by go_num, ((HST.out.grow (Nat.le_refl _) (HB2.out.trans HB8.out)).setA (Nat.le_refl _) _), ?_, ?_⟩
          · exact (Below.heap_setCell _ _ _ _ (show w.heap.size ≠ (⟨w.heap.size + 1 + 1, 3, none⟩ : Addr).block by simp; omega)).trans (((HB2.out.trans HB8.out).block _ (by omega)).trans HBX.out)
          · rw [HMAP.out]
            exact HROW8.out.heap attE_ok (fun j hj => Below.heap_setCell _ _ _ _ (by have := (HROW8.out.lt j hj).1; show j ≠ w.heap.size + 1 + 1; omega)) (fun _ h => h.elim)
        case measure => simp [intOf]; omega
      · obtain rfl : i = n.attrs.length := by omega
        rw [List.take_length] at hrow
        obtain ⟨VA, vc, rfl, hvc⟩ := hrow.slice
        have hb0 := hbx.trans HG0.out
        have x4 := (cells7 hb0).2.2.2.2.1
        have HBX := Lib.hid hb0
        have HROW := Lib.hid hrow
        have HST := Lib.hid hst
        clear hb0 hbx hrow hst
        clear HA HG0
        obtain ⟨w1, rfl⟩ : ∃ w1, w1 = wr := ⟨_, rfl⟩
        have K1 := Lib.hid (show KSt w w1 n w.heap.size (.slice VA (n.attrs.map stripA).length vc) none 0 [] w1 from ⟨HST.out, fun _ _ _ => rfl, ElRow.nil _ _ _ _, Nat.le_refl _⟩)
        go_wp2_with fail
        clear x4 hlt hi
        go_loopw [35] (fun i35 wr => ∃ (i : Nat) (KA : Option Addr) (kc : Nat), i ≤ n.kids.length ∧ i35 = .int .i64 i ∧ KSt w w1 n w.heap.size (.slice VA (n.attrs.map stripA).length vc) KA kc ((n.kids.take i).map stripN) wr) (fun i35 _ => n.kids.length - (intOf i35).toNat)
        case atStart => exact ⟨0, none, 0, Nat.zero_le _, rfl, K1.out⟩
        case round =>
          clear K1
          obtain ⟨i, KA, kc, hi, rfl, hst⟩ := hrel
          have hsz1 := hst.size
          by_cases hlt : i < n.kids.length
          · have hlt' : (i : Int) < n.kids.length := by omega
            obtain ⟨b, off, cs, rfl, hbl, hr, hcs⟩ := HK.out.at_ hlt
            have hr1 := rangeAt_keep hr (hst.st.below.block b hbl)
            have hnk := nsz_get n hlt
            have hsl := HF3.out _ (List.getElem_mem hlt)
            have hmap : (n.kids.take (i + 1)).map stripN = (n.kids.take i).map stripN ++ [stripN n.kids[i]] := by
              rw [List.take_succ_eq_append_getElem hlt, List.map_append]; rfl
            have hml : ((n.kids.take i).map stripN).length = i := by simp; omega
            have hcs2 := NodeIn.keep hst.st.below.block (Nat.le_refl _) _ _ hcs
            generalize n.kids[i] = k at *
            generalize (n.kids.take i).map stripN = ks at *
            subst hml
            obtain ⟨NA, nc, NK, nd, rfl, _, _, _, _⟩ := hcs.open_
            have hszw2 := hst.st.below.size
            have hz4 : (wr.alloc (.cells #[.int .i64 k.kind, .string (S k.space), .string (S k.name), .slice NA k.attrs.length nc, .slice NK k.kids.length nd, .string (S k.text), .int .i64 k.pos] 26)).heap.size = wr.heap.size + 1 := by simp
            have X4 := heap_alloc_new wr (.cells #[.int .i64 k.kind, .string (S k.space), .string (S k.name), .slice NA k.attrs.length nc, .slice NK k.kids.length nd, .string (S k.text), .int .i64 k.pos] 26)
            have hL4 := hst.next (Nat.le_refl _) ((Below.refl _ wr).alloc (Nat.le_refl _) (.cells #[.int .i64 k.kind, .string (S k.space), .string (S k.name), .slice NA k.attrs.length nc, .slice NK k.kids.length nd, .string (S k.text), .int .i64 k.pos] 26))
            have y4 : (wr.alloc (.cells #[.int .i64 k.kind, .string (S k.space), .string (S k.name), .slice NA k.attrs.length nc, .slice NK k.kids.length nd, .string (S k.text), .int .i64 k.pos] 26)).drew.cell? ⟨w.heap.size + 1 + 1, 4, none⟩ = some (.slice KA ks.length kc) := (cells7 hL4.st.nd).2.2.2.2.1
            have hnv : NodeV (wr.alloc (.cells #[.int .i64 k.kind, .string (S k.space), .string (S k.name), .slice NA k.attrs.length nc, .slice NK k.kids.length nd, .string (S k.text), .int .i64 k.pos] 26)).drew (wr.alloc (.cells #[.int .i64 k.kind, .string (S k.space), .string (S k.name), .slice NA k.attrs.length nc, .slice NK k.kids.length nd, .string (S k.text), .int .i64 k.pos] 26)).drew.heap.size k (.agg #[.int .i64 k.kind, .string (S k.space), .string (S k.name), .slice NA k.attrs.length nc, .slice NK k.kids.length nd, .string (S k.text), .int .i64 k.pos]) := ⟨_, rfl, NodeIn.keep (w := wr) (w' := (wr.alloc (.cells #[.int .i64 k.kind, .string (S k.space), .string (S k.name), .slice NA k.attrs.length nc, .slice NK k.kids.length nd, .string (S k.text), .int .i64 k.pos] 26)).drew) (fun b hb => by show (wr.alloc (.cells #[.int .i64 k.kind, .string (S k.space), .string (S k.name), .slice NA k.attrs.length nc, .slice NK k.kids.length nd, .string (S k.text), .int .i64 k.pos] 26)).heap[b]? = _; exact Below.heap_alloc _ _ _ (by omega)) (by show _ ≤ (wr.alloc (.cells #[.int .i64 k.kind, .string (S k.space), .string (S k.name), .slice NA k.attrs.length nc, .slice NK k.kids.length nd, .string (S k.text), .int .i64 k.pos] 26)).heap.size; omega) _ _ hcs2⟩
            have hcall := HIH.out k _ _ (by have := HG.out; omega) hsl hnv
            have hb04 := (Below.refl wr.heap.size wr).alloc (Nat.le_refl _) (.cells #[.int .i64 k.kind, .string (S k.space), .string (S k.name), .slice NA k.attrs.length nc, .slice NK k.kids.length nd, .string (S k.text), .int .i64 k.pos] 26)
            generalize stripN k = k2 at *
            have HC := Lib.hid hcall
            have L4 := Lib.hid hL4
            have HX4 := Lib.hid X4
            have HR1 := Lib.hid hr1
            have HMAP := Lib.hid hmap
            have HB04 := Lib.hid hb04
            have hll : ks.length < 10000000000 := by omega
            have HLL := Lib.hid hll
            have hkt : ∀ j, (Value.slice KA ks.length kc).ownBlock = some j → j < wr.heap.size := fun j hj => (hst.row.lt j hj).2
            have HKT := Lib.hid hkt
            have hszs := hst.st.size
            clear hcall hL4 X4 hr1 hmap hb04 hll hnv hcs hcs2 hst hr hsl hnk hkt HIH HG HF3
            go_wp2_with (with_reducible refine gate ?_; refine wp_load_node rfl _ rfl b (off + ks.length * 7) rfl _ rfl HR1.out ?_)
            generalize wr.alloc (.cells #[.int .i64 k.kind, .string (S k.space), .string (S k.name), .slice NA k.attrs.length nc, .slice NK k.kids.length nd, .string (S k.text), .int .i64 k.pos] 26) = W4 at *
            obtain ⟨c0, c1, c2, c3, c4, c5, c6⟩ := cells7 (w := W4.drew) HX4.out
            go_region_law
              (first
                | ((refine els_append_step nodeE_ok rfl _ _ rfl w5 w1.heap.size _ (.slice KA ks.length kc) ks rfl L5.out.row k2 [.int .i64 k2.kind, .string (S k2.space), .string (S k2.name), .slice QA k2.attrs.length qc, .slice QK k2.kids.length qd, .string (S k2.text), .int .i64 k2.pos] w5.heap.size rfl rfl HKN.out (fun _ h => h.2) (fun _ h => h.1.2.1) (by omega) HLL.out ?_; intro g8 c8 w8 hat8 hlt8 hrow8 hgr8 hb8; have HX8 := Lib.hid (hgr8.heap HX5.out (fun e => by have := HKT.out _ e; omega)); have hnd8 := (hb8.block (w.heap.size + 1 + 1) (by omega)).trans L5.out.st.nd; have f8 := Lib.frozen_of_heap hnd8 4; have z4 := (cells7 hnd8).2.2.2.2.1; have HX9 := Lib.hid ((Below.heap_setCell w8 ⟨w.heap.size + 1 + 1, 4, none⟩ (.slice (some ⟨g8, 0, none⟩) (ks.length + 1) c8) wr.heap.size (by show wr.heap.size ≠ w.heap.size + 1 + 1; omega)).trans HX8.out); have HPUT := Lib.hid (L5.out.put (Nat.le_refl _) hsz hat8 (fun j h1 h2 => hgr8.grown.block j h1 (fun e => h2 e.symm)) hrow8 hb8); clear hat8 hlt8 hrow8 hgr8 hb8 hnd8))
                | (go_wp2_with ((go_at_call 16; refine (HC.out).mono ?_; rintro e w5 ⟨u, rfl, ⟨cs5, rfl, hn5⟩, hb5⟩; obtain ⟨QA, qc, QK, qd, rfl, _, _, _, _⟩ := hn5.open_; have hb5' : Below W4.heap.size W4 w5 := below_undrew' hb5; have HX5 := Lib.hid ((hb5'.block _ (by omega)).trans HX4.out); have L5 := Lib.hid (L4.out.next (Nat.le_refl _) hb5'); have y5 := (cells7 L5.out.st.nd).2.2.2.2.1; have y6 := (cells7 (alloc_old (o := .cells #[.int .i64 k2.kind, .string (S k2.space), .string (S k2.name), .slice QA k2.attrs.length qc, .slice QK k2.kids.length qd, .string (S k2.text), .int .i64 k2.pos] 26) L5.out.st.nd)).2.2.2.2.1; have hz5 := hb5'.size; have HKN : Hid (NodeP w5 (fun b => (w1.heap.size ≤ b ∧ b < w5.heap.size ∧ Loose w5 b) ∧ (Value.slice KA ks.length kc).ownBlock ≠ some b) k2 [.int .i64 k2.kind, .string (S k2.space), .string (S k2.name), .slice QA k2.attrs.length qc, .slice QK k2.kids.length qd, .string (S k2.text), .int .i64 k2.pos]) := Lib.hid (NodeP.keep (fun _ _ => rfl) (fun j hj => ⟨⟨by have h1 : W4.heap.size ≤ j := hj.1; omega, hj.2⟩, fun e => by have h1 : W4.heap.size ≤ j := hj.1; have := HKT.out j e; omega⟩) _ _ hn5); clear hn5 hb5 hb5'))))
            all_goals
              clear HX4 L4 HC HKN HR1 HB04 c0 c1 c2 c3 c4 c5 c6
              go_wp2_with fail
              go_roundw
              case rel => exact ⟨ks.length + 1, some ⟨g8, 0, none⟩, c8, by omega, by go_num, by rw [HMAP.out]; exact HPUT.out⟩
              case measure => simp [intOf]; omega
          · obtain rfl : i = n.kids.length := by omega
            rw [List.take_length] at hst
            have hlt' : ¬ ((n.kids.length : Int) < n.kids.length) := by omega
            have hra := range_of_heap (cs := [_, _, _, _, _, _, _]) hst.st.nd
            have hres := hst.st.res
            have HS := Lib.hid hst
            clear hst hlt hi
            go_wp2_with (first
              | (with_reducible refine gate ?_; refine wp_load_node rfl _ rfl (w.heap.size + 1 + 1) 0 rfl _ rfl hra ?_)
              | (with_reducible refine gate ?_; refine wp_store_node rfl _ _ rfl (w.heap.size + 1) _ _ _ _ _ _ _ _ _ _ _ _ rfl rfl hres rfl ?_; intro w9 hw9 hu9))
            refine bodyPost_ret (v := .agg _) (res_whole Tryz.results16 _ _ (w.heap.size + 1) rfl _ _ hw9 Tryz.underlying26 rfl nodeSize) rfl ⟨_, rfl, ?_, ?_⟩
            · rw [stripN_eq]
              have hz9 := hu9.size
              refine NodePV.of_form (n := .mk n.kind n.space n.name (n.attrs.map stripA) (n.kids.map stripN) n.text 0) ?_ ?_
              · have hrw := HROW.out
                refine attE_elsP.1 ((hrw.heap attE_ok (w' := w9) (fun k hk => ?_) (fun _ h => h.elim)).elsP (p' := fun j => w.heap.size ≤ j ∧ j < w9.heap.size ∧ Loose w9 j) attE_ok (fun _ h => h.elim) (fun k hk => ?_))
                · have := hrw.lt k hk
                  exact (hu9.block k (by omega) (by omega)).trans (HS.out.keep k (by omega) (by omega))
                · have := hrw.lt k hk
                  exact ⟨by omega, by omega, (hrw.loose hk).keep ((hu9.block k (by omega) (by omega)).trans (HS.out.keep k (by omega) (by omega)))⟩
              · have hrw := HS.out.row
                refine ((hrw.heap nodeE_ok (w' := w9) (fun k hk => hu9.block k (hrw.lt k hk).2 (by have := hrw.lt k hk; omega)) (fun k hk => by have h1 := hk.1.1; have h2 := hk.1.2.1; exact hu9.block k (by omega) (by omega))).elsP (p' := fun j => w.heap.size ≤ j ∧ j < w9.heap.size ∧ Loose w9 j) nodeE_ok (fun k hk => by have h1 := hk.1.1; have h2 := hk.1.2.1; exact ⟨by omega, by omega, hk.1.2.2.keep (hu9.block k (by omega) (by omega))⟩) (fun k hk => by have := hrw.lt k hk; exact ⟨by omega, by omega, (hrw.loose hk).keep (hu9.block k (by omega) (by omega))⟩)).nodesP
            · exact HS.out.st.below.trans (hu9.below (by omega) HS.out.st.below.size)
end Go.Proofs.YtclhdppppgjgfaaGreatDoor
