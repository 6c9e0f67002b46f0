/-
  Several texts in one file, in build order:
  - Walk of chapter 7's program: (*builder).add.
  - Walk of chapter 7's program: (*builder).start.
  - Walk of chapter 7's program: (*builder).end.
  - Walk of text.Collapse (chapter 1) for chapter 7; when nothing is left of a string. (The walk is XCol13's.)
-/
import Derived.Test.YtclhdppppgjgfaaGreatDoorH13
import Derived.Test.YtclhdppppgjgfaaGreatDoorH4
import Derived.Test.YtclhdppppgjgfaaGreatDoorH12
import Derived.Test.YtclhdppppgjgfaaGreatDoorH2
set_option linter.unusedVariables false
namespace Go.Proofs.YtclhdppppgjgfaaGreatDoor
open Go.RowKit

theorem bd_take {vo : Value} {rc cs : List Value} {r : Option Node} (h1 : rc.length = 7) (h2 : cs.length = 7) : ((bdCells vo rc r).toArray.toList.take 1 ++ cs ++ (bdCells vo rc r).toArray.toList.drop (1 + cs.length)) = bdCells vo cs r := by
  have e : (bdCells vo rc r).drop (1 + cs.length) = [.bool r.isSome] := by
    unfold bdCells
    rw [h2, Nat.add_comm, List.drop_succ_cons, List.drop_append_of_le_length (by omega), List.drop_eq_nil_of_le (by omega)]; rfl
  show (bdCells vo rc r).take 1 ++ cs ++ (bdCells vo rc r).drop (1 + cs.length) = _
  rw [e]
  simp [bdCells]
theorem bd_8 {vo : Value} {cs : List Value} {r : Option Node} (h2 : cs.length = 7) : (bdCells vo cs r)[8]? = some (.bool r.isSome) := by
  unfold bdCells
  rw [List.getElem?_cons_succ, List.getElem?_append_right (by omega), h2]; rfl
theorem bd_set8 {vo : Value} {cs : List Value} {r : Option Node} {n : Node} (h2 : cs.length = 7) : (bdCells vo cs r).toArray.setIfInBounds 8 (.bool true) = (bdCells vo cs (some n)).toArray := by
  apply Array.ext'
  simp only [Array.toList_setIfInBounds]
  show (bdCells vo cs r).set 8 (.bool true) = bdCells vo cs (some n)
  unfold bdCells
  rw [List.set_cons_succ, List.set_append_right _ _ (by omega), h2]; rfl
theorem nodeSize7 {cs : List Value} (h : cs.length = 7) : (Tryz.prog.info? 26).map (·.size) = some cs.length := by rw [h]; exact nodeSize

theorem bd_cell8 {w : World} {b : Nat} {vo : Value} {cs : List Value} {r : Option Node} {T : TypeId} {fr : Nat × Nat} (h2 : cs.length = 7) (h : w.heap[b]? = some (.cells (bdCells vo cs r).toArray T fr)) : w.cell? ⟨b, 8, none⟩ = some (.bool r.isSome) := by
  rw [Lib.cell_of_heap h, List.getElem?_toArray]
  exact bd_8 h2
/-- What add leaves. -/
def AddRes (w' : World) (B b : Nat) (vo : Value) (fs : List LF) (r : Option Node) (n : Node) : Prop :=
  match fs with
  | [] => BdAt w' B b vo [] (some n)
  | x :: fs => ∃ v', BdAt w' B b vo (⟨⟨x.fr.name, x.fr.attrs, x.fr.pos, x.fr.kids ++ [n]⟩, x.h, v'⟩ :: fs) r

set_option maxHeartbeats 2000000 in
set_option maxRecDepth 100000 in
theorem add7_any (B b : Nat) (vo : Value) (fs : List LF) (r : Option Node) (n : Node) (cs : List Value) (w : World) (h : BdAt w B b vo fs r) (hn : NodeP w (DoneP w B b vo fs) n cs) (hk : ∀ x ∈ fs, x.fr.kids.length < 100000000) (hfl : fs.length ≤ 100000) :
    Calls Tryz.prog 61 #[.pointer (some ⟨b, 0, none⟩), .agg cs.toArray] w fun e w' => e = .returned (.tuple #[]) ∧ AddRes w' B b vo fs r n ∧ Below b w w' := by
  obtain ⟨W1, hW1⟩ : ∃ W1, w.alloc (.cells cs.toArray 26) = W1 := ⟨_, rfl⟩
  have hb1 : Below w.heap.size w W1 := by rw [← hW1]; exact (Below.refl _ _).alloc (Nat.le_refl _) _
  have hz1 : W1.heap.size = w.heap.size + 1 := by rw [← hW1]; simp
  have hg1 : W1.heap[w.heap.size]? = some (.cells cs.toArray 26 (0, 0)) := by rw [← hW1]; exact heap_alloc_new _ _
  have h1 := h.grow hb1
  have hmono : ∀ j, DoneP w B b vo fs j → DoneP W1 B b vo fs j := fun j hj => ⟨hj.1, by have := hj.2.1; omega, hj.2.2⟩
  have hn1 : NodeP W1 (DoneP W1 B b vo fs) n cs := NodeP.keep (fun j hj => hb1.block j hj.2.1) hmono _ _ hn
  have hr1 : W1.rangeAt w.heap.size 0 cs := range_of_heap hg1
  have hBw : b ≤ w.heap.size := Nat.le_of_lt (h.lt b (by simp [liveB])).2
  obtain ⟨A0, c0, K0, d0, hcs, _, _, _, _⟩ := hn1.open_
  obtain ⟨rc, hrc, hbk, hrn⟩ := h1.blk
  have hlen : (fs.reverse.map LF.h).length = fs.length := by simp
  obtain ⟨OA, oc, hvo, hoc⟩ := h1.row.slice
  rw [hlen] at hvo hoc
  subst hvo
  have x0 : W1.cell? ⟨b, 0, none⟩ = some (.slice OA fs.length oc) := by
    rw [Lib.cell_of_heap hbk]; rfl
  subst hcs
  have hWe : w.alloc (.cells #[.int .i64 n.kind, .string (S n.space), .string (S n.name), .slice A0 n.attrs.length c0, .slice K0 n.kids.length d0, .string (S n.text), .int .i64 n.pos] 26) = W1 := hW1
  have HB1 := Lib.hid hb1
  cases fs with
  | nil =>
    have HR1 := Lib.hid hr1
    have H1 := Lib.hid h1
    have HN1 := Lib.hid hn1
    have HBK := Lib.hid hbk
    clear hW1
    have hc7 := hn1.len
    have hone := hn1.one
    have HONE := Lib.hid hone
    have hle : 1 + ([.int .i64 n.kind, .string (S n.space), .string (S n.name), .slice A0 n.attrs.length c0, .slice K0 n.kids.length d0, .string (S n.text), .int .i64 n.pos] : List Value).length ≤ (bdCells (.slice OA ([] : List LF).length oc) rc r).toArray.size := by simp [bdCells, hrc]
    clear hr1 h1 hn1 hbk hone hb1 hg1 h hn
    go_enter Tryz.func61, Tryz.ntmps61
    go_wp2_with (first
      | (with_reducible refine gate ?_; refine wp_load_node rfl _ rfl w.heap.size 0 rfl _ rfl HR1.out ?_)
      | (with_reducible refine gate ?_; refine wp_store_mid rfl 26 _ _ rfl b 1 52 _ _ rfl rfl HBK.out (nodeSize7 hc7) hle HONE.out ?_; intro w2 hg2 hu2; rw [bd_take hrc hc7] at hg2; have c8 := bd_cell8 hc7 hg2; have f8 := Lib.frozen_of_heap hg2 8))
    (try simp only [Exit.inBlock, Exit.then])
    refine bodyPost_ret (results_none rfl _ _ _) rfl ?_
    refine ⟨rfl, ?_, ?_⟩
    · have hg3 := heap_set (i := 8) hg2 (.bool true)
      rw [bd_set8 (n := n) hc7] at hg3
      exact H1.out.root (W := w2.setCell ⟨b, 8, none⟩ (.bool true)) (fun j hj hne => (Below.heap_setCell _ _ _ _ (show j ≠ (⟨b, 8, none⟩ : Addr).block from hne)).trans (hu2.block j hj hne)) (by have := hu2.size; simp; omega) hg3 HN1.out
    · have hbb : b ≤ b := Nat.le_refl b
      have e1 : Below b w w2 := (HB1.out.mono hBw).trans (hu2.below hbb (by omega))
      exact e1.setCell hbb _
  | cons x fs =>
    obtain ⟨f, xh, xv⟩ := x
    obtain ⟨OG, rfl, hog1, hog2⟩ := h1.row.ptr (by simp)
    obtain ⟨pc, hpc, hpr⟩ := h1.row.at_ ptrE_ok (i := fs.length) (by simp)
    have hpx : ((⟨f, xh, xv⟩ :: fs : List LF).reverse.map LF.h)[fs.length]'(by simp) = xh := by simp
    rw [hpx] at hpc
    have hpc' : pc = [.pointer (some ⟨xh, 0, none⟩)] := hpc
    subst hpc'
    have x1 : W1.cell? ⟨OG, fs.length, none⟩ = some (.pointer (some ⟨xh, 0, none⟩)) := by
      have := hpr 0 _ rfl
      simpa [ptrE] using this
    have hfx := h1.frs ⟨f, xh, xv⟩ (by simp)
    obtain ⟨⟨FA, fc, hf1, hf2⟩, hf3⟩ := hfx
    obtain ⟨KA, kc, hxv, hkc⟩ := hf3.slice
    simp only at hf1 hf2 hf3 hxv hkc
    subst hxv
    have hkl := hk _ (List.mem_cons_self)
    simp only at hkl
    have HR1 := Lib.hid hr1
    have H1 := Lib.hid h1
    have HN1 := Lib.hid hn1
    have hfl' : fs.length + 1 ≤ 100000 := by simpa using hfl
    clear hr1 h1 hn1 hbk hb1 hg1 h hn hW1 hpr hf1 hf2 hf3 hrn hk hfl hpx hpc
    go_enter Tryz.func61, Tryz.ntmps61
    go_wp2_with fail
    go_quiet (fail)
    go_wp2_with fail
    obtain ⟨W2, hW2⟩ : ∃ W2, W1.drewN nq = W2 := ⟨_, rfl⟩
    have hb2 : Below W1.heap.size W1 W2 := hW2 ▸ below_drewN6 (Below.refl _ _) nq
    have hz2 := hb2.size
    have h2 := H1.out.grow hb2
    have hn2 : NodeP W2 (DoneP W2 B b (.slice (some ⟨OG, 0, none⟩) (fs.length + 1) oc) (⟨f, xh, .slice KA f.kids.length kc⟩ :: fs)) n _ := NodeP.keep (fun j hj => hb2.block j hj.2.1) (fun j hj => ⟨hj.1, by have := hj.2.1; omega, hj.2.2⟩) _ _ HN1.out
    have hr2 := fun j v hj => rangeAt_keep HR1.out (hb2.block w.heap.size (by omega)) j v hj
    obtain ⟨⟨FA, fc, hf1, hf2⟩, hf3⟩ := h2.frs ⟨f, xh, .slice KA f.kids.length kc⟩ (by simp)
    have hxl := h2.lt xh (by simp [liveB, LF.blocks])
    have hbl := h2.lt b (by simp [liveB])
    rw [hW2]
    have hpn : ∀ j, DoneP W2 B b (.slice (some ⟨OG, 0, none⟩) (fs.length + 1) oc) (⟨f, xh, .slice KA f.kids.length kc⟩ :: fs) j → (Value.slice KA f.kids.length kc).ownBlock ≠ some j := fun j hj e => hj.2.2 (by simp [liveB, LF.blocks, e])
    refine region_app7 rfl rfl rfl rfl rfl rfl rfl rfl rfl rfl rfl rfl rfl (by kernel_rfl) (by rfl) (fun _ _ _ _ _ h => h) (xh + 1) (DoneP W2 B b (.slice (some ⟨OG, 0, none⟩) (fs.length + 1) oc) (⟨f, xh, .slice KA f.kids.length kc⟩ :: fs)) xh w.heap.size KA kc f.kids n _ (frCells f FA fc (.slice KA f.kids.length kc)).toArray 26 rfl rfl hf1 rfl hr2 (by omega) hn2 hf3 hpn (fun j hj => hj.2.1) (fun hj => hj.2.2 (by simp [liveB, LF.blocks])) (by omega) (by omega) (by omega) ?_
    intro bb g8 c8 vI W8 hat8 hrow8 hm8 hk8 ho8 ht8 hu8 hz8
    simp only [Act.put, List.setIfInBounds_toArray, List.set_cons_zero, List.set_cons_succ]
    go_end0
    refine ⟨rfl, ⟨.slice (some ⟨g8, 0, none⟩) (f.kids.length + 1) c8, ?_⟩, ?_⟩
    · have hkb : ∀ j, j < W2.heap.size → j ∉ LF.blocks ⟨f, xh, .slice KA f.kids.length kc⟩ → W8.heap[j]? = W2.heap[j]? := fun j hj hnj => hk8 j hj (fun e => hnj (by simp [LF.blocks, e])) (fun e => hnj (by simp [LF.blocks, e]))
      have hg8 := (hrow8.lt g8 rfl).2
      have hown : ∀ g, (Value.slice (some ⟨g8, 0, none⟩) (f.kids.length + 1) c8).ownBlock = some g → (Value.slice KA f.kids.length kc).ownBlock = some g ∨ (W2.heap.size ≤ g ∧ g < W8.heap.size) := fun g hg => by
        simp only [Value.ownBlock, Option.some.injEq] at hg
        subst hg
        exact hat8.imp id (fun h => ⟨h, hg8⟩)
      have hdm := done_retop (x := ⟨f, xh, .slice KA f.kids.length kc⟩) (x' := ⟨⟨f.name, f.attrs, f.pos, f.kids ++ [n]⟩, xh, .slice (some ⟨g8, 0, none⟩) (f.kids.length + 1) c8⟩) (B := B) (b := b) (vo := .slice (some ⟨OG, 0, none⟩) (fs.length + 1) oc) (fs := fs) hz8 rfl hown
      have hdk : ∀ j, DoneP W2 B b (.slice (some ⟨OG, 0, none⟩) (fs.length + 1) oc) (⟨f, xh, .slice KA f.kids.length kc⟩ :: fs) j → W8.heap[j]? = W2.heap[j]? := fun j hj => hk8 j hj.2.1 (fun e => hj.2.2 (by simp [liveB, LF.blocks, e])) (hpn j hj)
      exact h2.retop (x' := ⟨⟨f.name, f.attrs, f.pos, f.kids ++ [n]⟩, xh, .slice (some ⟨g8, 0, none⟩) (f.kids.length + 1) c8⟩) hkb hz8 rfl hown ⟨⟨FA, fc, hm8, hf2.keep hdk hdm⟩, hrow8.more nodeE_ok hdm⟩
    · have e1 := (HB1.out.mono hBw).trans (hb2.mono (by omega : b ≤ W1.heap.size))
      have hbb : b ≤ b := Nat.le_refl b
      exact e1.trans ⟨ho8, ht8, hu8, hz8, fun j hj => hk8 j (by omega) (by omega) (fun e => by have : xh + 1 ≤ j := (hf3.lt j e).1; omega)⟩
end Go.Proofs.YtclhdppppgjgfaaGreatDoor
set_option linter.unusedVariables false
namespace Go.Proofs.YtclhdppppgjgfaaGreatDoor
open Go.RowKit

/-- One token of the builder. -/
def addSt (st : List Fr) (r : Option Node) (n : Node) : List Fr × Option Node :=
  match st with
  | [] => ([], some n)
  | f :: st => (⟨f.name, f.attrs, f.pos, f.kids ++ [n]⟩ :: st, r)
def stepM (u : Tok) (st : List Fr) (r : Option Node) : Except Nat (List Fr × Option Node) :=
  if u.kind = 1 then
    if r.isSome = true then .error 17
    else if st.length = 100 then .error 9
    else if u.empty = true then .ok (addSt st r (.mk 0 [] u.name u.attrs [] [] u.pos))
    else .ok (⟨u.name, u.attrs, u.pos, []⟩ :: st, r)
  else if u.kind = 2 then
    match st with
    | [] => .error 14
    | f :: st => if f.name = u.name then .ok (addSt st r (f.node f.kids)) else .error 14
  else
    match st with
    | [] => if blank u.text = true then .ok ([], r) else .error 7
    | f :: st => .ok (⟨f.name, f.attrs, f.pos, addText f.kids u⟩ :: st, r)
theorem machL_step (en : Nat) (u : Tok) (l : List Tok) (st : List Fr) (r : Option Node) : machL en (u :: l) st r = match stepM u st r with | .error q => .error (u.pos, q) | .ok (st', r') => machL en l st' r' := by
  rw [machL_cons]
  unfold stepM
  by_cases h1 : u.kind = 1
  · rw [if_pos h1, if_pos h1]
    by_cases h2 : r.isSome = true
    · rw [if_pos h2, if_pos h2]
    rw [if_neg h2, if_neg h2]
    by_cases h3 : st.length = 100
    · rw [if_pos h3, if_pos h3]
    rw [if_neg h3, if_neg h3]
    by_cases h4 : u.empty = true
    · rw [if_pos h4, if_pos h4]
      cases st <;> rfl
    · rw [if_neg h4, if_neg h4]
  · rw [if_neg h1, if_neg h1]
    by_cases h2 : u.kind = 2
    · rw [if_pos h2, if_pos h2]
      cases st with
      | nil => rfl
      | cons f st =>
        by_cases h3 : f.name = u.name
        · simp only [if_pos h3]
          cases st <;> rfl
        · simp only [if_neg h3]
    · rw [if_neg h2, if_neg h2]
      cases st with
      | nil =>
        by_cases h3 : blank u.text = true
        · simp only [if_pos h3]
        · simp only [if_neg h3]
      | cons f st => rfl
theorem bd_cell0 {w : World} {b : Nat} {vo : Value} {cs : List Value} {r : Option Node} {T : TypeId} {fr : Nat × Nat} (h : w.heap[b]? = some (.cells (bdCells vo cs r).toArray T fr)) : w.cell? ⟨b, 0, none⟩ = some vo := by
  rw [Lib.cell_of_heap h, List.getElem?_toArray]; rfl
/-- What a step leaves. -/
def StepRes (w w' : World) (B b : Nat) (R : Except Nat (List Fr × Option Node)) (e : Ending) : Prop :=
  match R with
  | .error q => e = .returned (.int .i64 q) ∧ Below w.heap.size w w'
  | .ok (st, r) => e = .returned (.int .i64 0) ∧ ∃ vo fs, BdAt w' B b vo fs r ∧ fs.map LF.fr = st
theorem AddRes.step {w w' : World} {B b : Nat} {vo : Value} {fs : List LF} {r : Option Node} {n : Node} (h : AddRes w' B b vo fs r n) : StepRes w w' B b (.ok (addSt (fs.map LF.fr) r n)) (.returned (.int .i64 0)) := by
  cases fs with
  | nil => exact ⟨rfl, vo, [], h, rfl⟩
  | cons x fs =>
    obtain ⟨v', h⟩ := h
    exact ⟨rfl, vo, _, h, rfl⟩

set_option maxHeartbeats 2000000 in
set_option maxRecDepth 100000 in
theorem start7_any (B b : Nat) (vo : Value) (fs : List LF) (r : Option Node) (t : Tok) (A : Option Addr) (c : Nat) (w : World) (h : BdAt w B b vo fs r) (hat : AttsP w (DoneP w B b vo fs) (.slice A t.attrs.length c) t.attrs) (hk : ∀ x ∈ fs, x.fr.kids.length < 100000000) (hfl : fs.length ≤ 100) (hkd : t.kind = 1) :
    Calls Tryz.prog 31 #[.pointer (some ⟨b, 0, none⟩), .agg #[.int .i64 t.kind, .string (S t.name), .slice A t.attrs.length c, .bool t.empty, .string (S t.text), .int .i64 t.pos]] w fun e w' => StepRes w w' B b (stepM t (fs.map LF.fr) r) e ∧ Below b w w' := by
  obtain ⟨W1, hW1⟩ : ∃ W1, w.alloc (.cells #[.int .i64 t.kind, .string (S t.name), .slice A t.attrs.length c, .bool t.empty, .string (S t.text), .int .i64 t.pos] 54) = W1 := ⟨_, rfl⟩
  have hb1 : Below w.heap.size w W1 := by rw [← hW1]; exact (Below.refl _ _).alloc (Nat.le_refl _) _
  have hz1 : W1.heap.size = w.heap.size + 1 := by rw [← hW1]; simp
  have hg1 : W1.heap[w.heap.size]? = some (.cells #[.int .i64 t.kind, .string (S t.name), .slice A t.attrs.length c, .bool t.empty, .string (S t.text), .int .i64 t.pos] 54 (0, 0)) := by rw [← hW1]; exact heap_alloc_new _ _
  have h1 := h.grow hb1
  have hmono : ∀ j, DoneP w B b vo fs j → DoneP W1 B b vo fs j := fun j hj => ⟨hj.1, by have := hj.2.1; omega, hj.2.2⟩
  have hat1 := hat.keep (w' := W1) (fun j hj => hb1.block j hj.2.1) hmono
  have hBw : b ≤ w.heap.size := Nat.le_of_lt (h.lt b (by simp [liveB])).2
  have hbw : b < w.heap.size := (h.lt b (by simp [liveB])).2
  obtain ⟨rc, hrc, hbk, hrn⟩ := h1.blk
  have hlen : (fs.reverse.map LF.h).length = fs.length := by simp
  obtain ⟨OA, oc, hvo, hoc⟩ := h1.row.slice
  rw [hlen] at hvo hoc
  subst hvo
  have x0 : W1.cell? ⟨b, 0, none⟩ = some (.slice OA fs.length oc) := by
    rw [Lib.cell_of_heap hbk]; rfl
  have x8 := bd_cell8 hrc hbk
  obtain ⟨y0, y1, y2, y3, y4, y5⟩ := cells6 hg1
  have hlm : (fs.map LF.fr).length = fs.length := by simp
  unfold stepM
  rw [if_pos hkd, hlm]
  clear hkd
  have HB1 := Lib.hid hb1
  by_cases hr : r.isSome = true
  · rw [if_pos hr]
    rw [hr] at x8
    clear hg1 h1 hat1 hbk hrn hb1 h hat hk
    go_enter Tryz.func31, Tryz.ntmps31
    go_wp2_with fail
    go_ret
    exact ⟨⟨rfl, HB1.out⟩, HB1.out.mono hBw⟩
  rw [if_neg hr]
  have hr' : r.isSome = false := by simpa using hr
  rw [hr'] at x8
  by_cases hl : fs.length = 100
  · rw [if_pos hl]
    have hl' : ((fs.length : Int) == 100) = true := by rw [hl]; rfl
    clear hg1 h1 hat1 hbk hrn hb1 h hat hk
    go_enter Tryz.func31, Tryz.ntmps31
    go_wp2_with fail
    go_ret
    exact ⟨⟨rfl, HB1.out⟩, HB1.out.mono hBw⟩
  rw [if_neg hl]
  have hl' : ((fs.length : Int) == 100) = false := by rw [beq_eq_false_iff_ne]; omega
  obtain ⟨W2, hW2⟩ : ∃ W2, W1.alloc (.cells #[.int .i64 0, .string ⟨#[]⟩, .string (S t.name), .slice A t.attrs.length c, .slice none 0 0, .string ⟨#[]⟩, .int .i64 t.pos] 26) = W2 := ⟨_, rfl⟩
  have hb2 : Below W1.heap.size W1 W2 := by rw [← hW2]; exact (Below.refl _ _).alloc (Nat.le_refl _) _
  have hz2 : W2.heap.size = w.heap.size + 2 := by rw [← hW2]; simp [hz1]
  have hg2 : W2.heap[w.heap.size + 1]? = some (.cells #[.int .i64 0, .string (S []), .string (S t.name), .slice A t.attrs.length c, .slice none 0 0, .string (S []), .int .i64 t.pos] 26 (0, 0)) := by rw [← hW2]; exact alloc_at hz1
  have y3b := (cells6 ((hb2.block w.heap.size (by omega)).trans hg1)).2.2.2.1
  by_cases hem : t.empty = true
  · rw [if_pos hem]
    rw [hem] at y3 y3b
    have h2 := h1.grow hb2
    have hn2 : NodeP W2 (DoneP W2 B b (.slice OA fs.length oc) fs) (.mk 0 [] t.name t.attrs [] [] t.pos) [.int .i64 0, .string (S []), .string (S t.name), .slice A t.attrs.length c, .slice none 0 0, .string (S []), .int .i64 t.pos] :=
      NodeP.of_form (n := .mk 0 [] t.name t.attrs [] [] t.pos) (va := .slice A t.attrs.length c) (vk := .slice none 0 0) (hat1.keep (fun j hj => hb2.block j hj.2.1) (fun j hj => ⟨hj.1, by have := hj.2.1; omega, hj.2.2⟩)) ⟨none, 0, rfl, Nat.le_refl _, .inl rfl⟩
    have hadd := add7_any B b (.slice OA fs.length oc) fs r (.mk 0 [] t.name t.attrs [] [] t.pos) _ W2 h2 hn2 hk (by omega)
    have hr2 := range_of_heap (cs := [.int .i64 0, .string (S []), .string (S t.name), .slice A t.attrs.length c, .slice none 0 0, .string (S []), .int .i64 t.pos]) hg2
    have HADD := Lib.hid hadd
    have HR2 := Lib.hid hr2
    have e2 := (HB1.out.mono hBw).trans (hb2.mono (by omega : b ≤ W1.heap.size))
    clear hg1 h1 hat1 hbk hrn hb1 h hat hk h2 hn2 hadd hr2 hg2 hem
    go_enter Tryz.func31, Tryz.ntmps31
    go_wp2_with (first
      | (with_reducible refine gate ?_; refine wp_load_node rfl _ rfl (w.heap.size + 1) 0 rfl _ rfl HR2.out ?_)
      | (go_at_call 61; refine HADD.out.mono ?_; rintro e w3 ⟨rfl, hres, hb3⟩))
    go_ret
    exact ⟨hres.step, e2.trans hb3⟩
  · rw [if_neg hem]
    have hem' : t.empty = false := by simpa using hem
    rw [hem'] at y3 y3b
    have hrow2 := h1.row.below ptrE_ok hb2 (fun k hk => hk.elim)
    have hbk2 := (hb2.block b (by omega)).trans hbk
    have z0 : W2.cell? ⟨b, 0, none⟩ = some (.slice OA fs.length oc) := by rw [Lib.cell_of_heap hbk2]; rfl
    have hll : (fs.reverse.map LF.h).length < 10000000000 := by rw [hlen]; omega
    have HROW := Lib.hid hrow2
    have HBK2 := Lib.hid hbk2
    have HG2 := Lib.hid hg2
    have H1 := Lib.hid h1
    have HAT := Lib.hid hat1
    have HB2 := Lib.hid hb2
    clear hg1 h1 hat1 hbk hrn hb1 h hat hk hrow2 hbk2 hg2 hb2 hem hem'
    go_enter Tryz.func31, Tryz.ntmps31
    go_wp2_with (first
      | (at_builtin; refine els_append ptrE_ok rfl _ _ rfl W2 (b + 1) (fun _ => False) (.slice OA fs.length oc) (fs.reverse.map LF.h) rfl HROW.out (w.heap.size + 1) [.pointer (some ⟨w.heap.size + 1, 0, none⟩)] (w.heap.size + 2) hz2 rfl rfl (fun _ h => h.elim) (fun _ h => h.elim) (by omega) hll ?_; intro g8 c8 w8 hat8 hlt8 hrow8 hgr8 hb8; have hbk8 := (hb8.block b (by omega)).trans HBK2.out; have c80 := bd_cell0 hbk8; have f80 := Lib.frozen_of_heap hbk8 0))
    go_ret
    have hg8b : b < g8 := (hrow8.lt g8 rfl).1
    have hz8 := hgr8.lt
    have hgl : (Value.slice OA fs.length oc).ownBlock = some g8 → g8 < W1.heap.size := fun e => (H1.out.lt g8 (by simp [liveB, e])).2
    have hne8 : g8 ≠ w.heap.size + 1 := fun e => by
      rcases hat8 with h | h
      · have := hgl h; omega
      · omega
    have hk8 : ∀ j, j < W2.heap.size → (Value.slice OA fs.length oc).ownBlock ≠ some j → w8.heap[j]? = W2.heap[j]? := fun j hj hn => hgr8.grown.block j hj (fun e => hn e.symm)
    have hs : ∀ j v, j ≠ b → (w8.setCell ⟨b, 0, none⟩ v).heap[j]? = w8.heap[j]? := fun j v hj => Below.heap_setCell _ _ _ _ (show j ≠ (⟨b, 0, none⟩ : Addr).block from hj)
    have hnx : (Value.slice OA fs.length oc).ownBlock ≠ some (w.heap.size + 1) := fun e => by have := (H1.out.lt (w.heap.size + 1) (by simp [liveB, e])).2; omega
    refine ⟨⟨rfl, _, ⟨⟨t.name, t.attrs, t.pos, []⟩, w.heap.size + 1, .slice none 0 0⟩ :: fs, H1.out.push (x := ⟨⟨t.name, t.attrs, t.pos, []⟩, w.heap.size + 1, .slice none 0 0⟩) (W := w8.setCell ⟨b, 0, none⟩ (.slice (some ⟨g8, 0, none⟩) (fs.length + 1) c8)) (vo' := .slice (some ⟨g8, 0, none⟩) (fs.length + 1) c8) ?_ ?_ ?_ ?_ ?_ ?_ rfl ?_ ?_, rfl⟩, ?_⟩
    · intro j hj hjb hjo
      rw [hs j _ hjb, hk8 j (by omega) hjo, HB2.out.block j hj]
    · simp; omega
    · intro cs hcs
      have e1 := (hb8.block b (by omega)).trans ((HB2.out.block b (by omega)).trans hcs)
      exact heap_set (i := 0) e1 _
    · have := hrow8.heap ptrE_ok (w' := w8.setCell ⟨b, 0, none⟩ (.slice (some ⟨g8, 0, none⟩) (fs.length + 1) c8)) (fun j hj => hs j _ (fun e => by have := hrow8.lt j hj; omega)) (fun k hk => hk.elim)
      rw [hlen] at this
      exact this
    · show W1.heap.size ≤ w.heap.size + 1
      omega
    · show w.heap.size + 1 < _
      simp; omega
    · intro g hg
      simp only [Value.ownBlock, Option.some.injEq] at hg
      subst hg
      refine ⟨hat8.imp id (fun h => ⟨by omega, by simpa using hlt8⟩), hne8⟩
    · refine ⟨⟨A, c, ?_, ?_⟩, ElRow.nil _ _ _ _⟩
      · show (w8.setCell ⟨b, 0, none⟩ (.slice (some ⟨g8, 0, none⟩) (fs.length + 1) c8)).heap[w.heap.size + 1]? = _
        rw [hs _ _ (by omega), hk8 _ (by omega) hnx]
        exact HG2.out
      · refine HAT.out.keep (fun j hj => ?_) (fun j hj => ⟨hj.1, by have := hj.2.1; simp; omega, fun h1 => ?_⟩)
        · have hjb : j ≠ b := fun e => hj.2.2 (by simp [liveB, e])
          rw [hs j _ hjb, hk8 j (by have := hj.2.1; omega) (fun e => hj.2.2 (by simp [liveB, e])), HB2.out.block j hj.2.1]
        · have h2 := hj.2.2
          simp only [liveB, List.flatMap_cons, List.mem_cons, List.mem_append, LF.blocks, Value.ownBlock, Option.toList_none, Option.toList_some, List.not_mem_nil, or_false, not_or] at h1 h2
          have h3 := hj.2.1
          rcases h1 with h4 | h4 | h4 | h4
          · exact h2.1 h4
          · subst h4
            rcases hat8 with h5 | h5
            · exact hj.2.2 (by simp [liveB, h5])
            · omega
          · omega
          · exact h2.2.2 h4
    · have e2 := (HB1.out.mono hBw).trans (HB2.out.mono (by omega : b ≤ W1.heap.size))
      exact (e2.trans (hb8.mono (by omega))).setCell (Nat.le_refl b) _
end Go.Proofs.YtclhdppppgjgfaaGreatDoor
set_option linter.unusedVariables false
namespace Go.Proofs.YtclhdppppgjgfaaGreatDoor
open Go.RowKit

set_option maxHeartbeats 4000000 in
set_option maxRecDepth 100000 in
theorem end7_any (B b : Nat) (vo : Value) (fs : List LF) (r : Option Node) (t : Tok) (A : Option Addr) (c : Nat) (w : World) (h : BdAt w B b vo fs r) (hk : ∀ x ∈ fs, x.fr.kids.length < 100000000) (hfl : fs.length ≤ 100) (hkd : t.kind = 2) :
    Calls Tryz.prog 32 #[.pointer (some ⟨b, 0, none⟩), .agg #[.int .i64 t.kind, .string (S t.name), .slice A t.attrs.length c, .bool t.empty, .string (S t.text), .int .i64 t.pos]] w fun e w' => StepRes w w' B b (stepM t (fs.map LF.fr) r) e ∧ Below b w w' := by
  obtain ⟨W1, hW1⟩ : ∃ W1, w.alloc (.cells #[.int .i64 t.kind, .string (S t.name), .slice A t.attrs.length c, .bool t.empty, .string (S t.text), .int .i64 t.pos] 54) = W1 := ⟨_, rfl⟩
  have hb1 : Below w.heap.size w W1 := by rw [← hW1]; exact (Below.refl _ _).alloc (Nat.le_refl _) _
  have hz1 : W1.heap.size = w.heap.size + 1 := by rw [← hW1]; simp
  have hg1 : W1.heap[w.heap.size]? = some (.cells #[.int .i64 t.kind, .string (S t.name), .slice A t.attrs.length c, .bool t.empty, .string (S t.text), .int .i64 t.pos] 54 (0, 0)) := by rw [← hW1]; exact heap_alloc_new _ _
  have h1 := h.grow hb1
  have hBw : b ≤ w.heap.size := Nat.le_of_lt (h.lt b (by simp [liveB])).2
  have hbw : b < w.heap.size := (h.lt b (by simp [liveB])).2
  obtain ⟨rc, hrc, hbk, hrn⟩ := h1.blk
  have hlen : (fs.reverse.map LF.h).length = fs.length := by simp
  obtain ⟨OA, oc, hvo, hoc⟩ := h1.row.slice
  rw [hlen] at hvo hoc
  subst hvo
  have x0 : W1.cell? ⟨b, 0, none⟩ = some (.slice OA fs.length oc) := by
    rw [Lib.cell_of_heap hbk]; rfl
  have f80 := Lib.frozen_of_heap hbk 0
  obtain ⟨y0, y1, y2, y3, y4, y5⟩ := cells6 hg1
  unfold stepM
  rw [if_neg (by omega), if_pos hkd]
  clear hkd
  have HB1 := Lib.hid hb1
  cases fs with
  | nil =>
    clear hg1 h1 hbk hrn hb1 h hk
    go_enter Tryz.func32, Tryz.ntmps32
    go_wp2_with fail
    go_quiet (fail)
    go_wp2_with fail
    go_ret
    exact ⟨⟨rfl, below_drewN6 HB1.out _⟩, below_drewN6 (HB1.out.mono hBw) _⟩
  | cons x fs =>
    obtain ⟨f, xh, xv⟩ := x
    obtain ⟨OG, rfl, hog1, hog2⟩ := h1.row.ptr (by simp)
    obtain ⟨pc, hpc, hpr⟩ := h1.row.at_ ptrE_ok (i := fs.length) (by simp)
    have hpx : ((⟨f, xh, xv⟩ :: fs : List LF).reverse.map LF.h)[fs.length]'(by simp) = xh := by simp
    rw [hpx] at hpc
    have hpc' : pc = [.pointer (some ⟨xh, 0, none⟩)] := hpc
    subst hpc'
    have x1 : W1.cell? ⟨OG, fs.length, none⟩ = some (.pointer (some ⟨xh, 0, none⟩)) := by
      have := hpr 0 _ rfl
      simpa [ptrE] using this
    obtain ⟨⟨FA, fc, hf1, hf2⟩, hf3⟩ := h1.frs ⟨f, xh, xv⟩ (by simp)
    simp only [frCells] at hf1
    obtain ⟨z0, z1, z2, z3, z4, z5, z6⟩ := cells7 hf1
    have hfl' : fs.length + 1 ≤ 100 := by simpa using hfl
    have hxb : xh ≠ b := fun e => by
      have := h1.nd
      simp [liveB, LF.blocks, e] at this
    have hn0 : ¬ (fs.length : Int) < 0 := by omega
    have hoc' : (fs.length : Int) ≤ oc := by simp only [List.length_cons] at hoc; omega
    have hk' : ∀ y ∈ fs, y.fr.kids.length < 100000000 := fun y hy => hk y (List.mem_cons_of_mem _ hy)
    have hn1 : (fs.length : Int) < (fs.length : Int) + 1 := by omega
    simp only [List.map_cons]
    by_cases hnm : f.name = t.name
    · rw [if_pos hnm]
      have en : (f.name == t.name) = true := by simpa using hnm
      have en' : (f.name != t.name) = false := by rw [bne, en]; rfl
      have H1 := Lib.hid h1
      have HF1 := Lib.hid hf1
      clear hg1 h1 hbk hrn hb1 h hk hnm hf2 hf3 hpr hpx hpc
      go_enter Tryz.func32, Tryz.ntmps32
      go_wp2_with fail
      go_quiet (fail)
      go_wp2_with fail
      have hbd := below_drewN6 (Below.refl W1.heap.size W1) nq
      have h2 := H1.out.grow hbd
      have hf2 := (hbd.block xh (H1.out.lt xh (by simp [liveB, LF.blocks])).2).trans HF1.out
      have hog : OG ≠ b := by omega
      generalize W1.drewN nq = W2 at *
      have hs : ∀ j, j ≠ b → (W2.setCell ⟨b, 0, none⟩ (.slice (some ⟨OG, 0, none⟩) fs.length oc)).heap[j]? = W2.heap[j]? := fun j hj => Below.heap_setCell _ _ _ _ (show j ≠ (⟨b, 0, none⟩ : Addr).block from hj)
      have hrow := h2.row
      rw [List.reverse_cons, List.map_append, List.length_cons] at hrow
      have hrow2 := (ElRow.shrink ptrE_ok hrow).heap ptrE_ok (w' := W2.setCell ⟨b, 0, none⟩ (.slice (some ⟨OG, 0, none⟩) fs.length oc)) (fun j hj => hs j (fun e => by
        have : OG = j := by simpa [Value.ownBlock] using hj
        omega)) (fun k hk => hk.elim)
      obtain ⟨hp1, A', c', hp2, hp3⟩ := h2.pop (W := W2.setCell ⟨b, 0, none⟩ (.slice (some ⟨OG, 0, none⟩) fs.length oc)) (vo' := .slice (some ⟨OG, 0, none⟩) fs.length oc) (fun j hj hjb => hs j hjb) (by simp) (fun cs hcs => heap_set (i := 0) hcs _) hrow2 rfl
      have e9 := hp2.symm.trans hf2
      simp [frCells] at e9
      obtain ⟨rfl, rfl⟩ := e9
      have hbb : b ≤ b := Nat.le_refl b
      have e2 : Below b w (W2.setCell ⟨b, 0, none⟩ (.slice (some ⟨OG, 0, none⟩) fs.length oc)) := ((HB1.out.mono hBw).trans (hbd.mono (by omega))).setCell hbb _
      refine (add7_any B b (.slice (some ⟨OG, 0, none⟩) fs.length oc) fs r (f.node f.kids) _ _ hp1 hp3 hk' (by omega)).mono ?_
      rintro e w3 ⟨rfl, hres, hb3⟩
      have hst := hres.step (w := w)
      have e3 := e2.trans hb3
      clear hres hb3 e2 hp1 hp3 hrow2 hrow h2 hbd hf2 hp2
      go_wp2_with fail
      go_ret
      exact ⟨hst, e3⟩
    · rw [if_neg hnm]
      have en : (f.name == t.name) = false := by simpa using hnm
      have en' : (f.name != t.name) = true := by rw [bne, en]; rfl
      clear hg1 h1 hbk hrn hb1 h hk hnm hf1 hf2 hf3 hpr hpx hpc
      go_enter Tryz.func32, Tryz.ntmps32
      go_wp2_with fail
      go_quiet (fail)
      go_wp2_with fail
      go_ret
      exact ⟨⟨rfl, below_drewN6 HB1.out _⟩, below_drewN6 (HB1.out.mono hBw) _⟩
end Go.Proofs.YtclhdppppgjgfaaGreatDoor
set_option linter.unusedVariables false
namespace Go.Proofs.YtclhdppppgjgfaaGreatDoor
open Go.RowKit

open Go.RowKit

/-! Plain. -/
def spc (c : UInt8) : Bool := ((c.toNat : Int) == 32) || ((c.toNat : Int) == 9) || ((c.toNat : Int) == 10) || ((c.toNat : Int) == 13)
/-- What is left of a string when white space is replaced: g: a space is owed; Y: what has been written. -/
def colG : Bool → Bytes → Bytes → Bytes
  | _, Y, [] => Y
  | g, Y, c :: l => if spc c = true then colG (!Y.isEmpty) Y l else colG false ((if g = true then Y ++ [32] else Y) ++ [c]) l
def collapse (l : Bytes) : Bytes := colG false [] l
theorem colG_sp {g : Bool} {Y l : Bytes} {i : Nat} (h : i < l.length) (hs : spc l[i] = true) : colG g Y (l.drop i) = colG (!Y.isEmpty) Y (l.drop (i + 1)) := by
  rw [List.drop_eq_getElem_cons h, colG, if_pos hs]
theorem colG_no {g : Bool} {Y l : Bytes} {i : Nat} (h : i < l.length) (hs : spc l[i] = false) : colG g Y (l.drop i) = colG false ((if g = true then Y ++ [32] else Y) ++ [l[i]]) (l.drop (i + 1)) := by
  rw [List.drop_eq_getElem_cons h, colG, if_neg (by rw [hs]; decide)]
set_option maxHeartbeats 1000000 in
theorem space1_any (c : UInt8) (w : World) :
    Calls Tryz.prog 90 #[.int .u8 c.toNat] w fun e w' => e = .returned (.bool (spc c)) ∧ w' = w := by
  unfold spc
  generalize (c.toNat : Int) = n
  rcases h1 : (n == 32) with _ | _ <;> rcases h2 : (n == 9) with _ | _ <;> rcases h3 : (n == 10) with _ | _ <;> rcases h4 : (n == 13) with _ | _
  all_goals
    go_enter Tryz.func90, Tryz.ntmps90
    go_wp2
    go_ret
    exact ⟨rfl, rfl⟩
theorem builderLen_any {B b : Nat} {l : Bytes} {w : World} (h : Bld B b l w) :
    Calls Tryz.prog 48 #[.pointer (some ⟨b, 0, none⟩)] w fun e w' => e = .returned (.int .i64 l.length) ∧ w' = w := by
  have := Tryz.Builder_Len_f B b _ w h
  rw [Lib.byteCells_length] at this
  exact this

set_option maxHeartbeats 2000000 in
set_option maxRecDepth 100000 in
theorem collapse_any (l : Bytes) (w : World) (hl : l.length ≤ 1000000) :
    Calls Tryz.prog 62 #[.string (S l)] w fun e w' => e = .returned (.string (S (collapse l))) ∧ Below w.heap.size w w' := by
  unfold collapse
  obtain ⟨T, hT⟩ : ∃ T, colG false [] l = T := ⟨_, rfl⟩
  rw [hT]
  have HT := Lib.hid hT
  have HN := Lib.hid (Bld.new w)
  clear hT
  go_enter Tryz.func62, Tryz.ntmps62
  go_wp2_with fail
  go_loopw [4, 8] (fun g4 i8 wr => ∃ (i : Nat) (Y : Bytes) (g : Bool), i ≤ l.length ∧ g4 = .bool g ∧ i8 = .int .i64 i ∧ Bld w.heap.size w.heap.size Y wr ∧ Y.length ≤ 2 * i ∧ colG g Y (l.drop i) = T ∧ Below w.heap.size w wr) (fun _ i8 _ => l.length - (intOf i8).toNat)
  case atStart => exact ⟨0, [], false, Nat.zero_le _, rfl, rfl, HN.out, Nat.le_refl _, HT.out, (Below.refl _ _).alloc (Nat.le_refl _) _⟩
  case round =>
    obtain ⟨i, Y, g, hi, rfl, rfl, hbl, hYl, hres, hb⟩ := hrel
    have HBL := Lib.hid hbl
    have HB := Lib.hid hb
    have hsz := hb.size
    clear hbl hb HT HN
    by_cases hlt : i < l.length
    · have hlt' : (i : Int) < l.length := by omega
      have hc := fun W => space1_any l[i] W
      cases hs : spc l[i] with
      | true =>
        rw [colG_sp hlt hs] at hres
        rw [hs] at hc
        have HC := Lib.hid hc
        have HRES := Lib.hid hres
        clear hc hres hs
        by_cases hY : Y = []
        · have q : ¬ (0 : Int) < Y.length := by rw [hY]; simp
          have hg : (!Y.isEmpty) = false := by rw [hY]; rfl
          have HG := Lib.hid hg
          clear hg hY
          go_wp2_with (first
            | (go_at_call 90; refine (HC.out _).mono ?_; rintro e wq ⟨rfl, rfl⟩)
            | (go_at_call 48; refine (builderLen_any HBL.out).mono ?_; rintro e wq ⟨rfl, rfl⟩))
          go_roundw
          case rel => exact ⟨i + 1, Y, false, by omega, val_bool (decide_eq_false (by omega)), by go_num, HBL.out, by omega, by rw [← HG.out]; exact HRES.out, HB.out⟩
          case measure => simp [intOf]; omega
        · have q : (0 : Int) < Y.length := by have := List.length_pos_iff.2 hY; omega
          have hg : (!Y.isEmpty) = true := by cases Y with | nil => exact absurd rfl hY | cons _ _ => rfl
          have HG := Lib.hid hg
          clear hg hY
          go_wp2_with (first
            | (go_at_call 90; refine (HC.out _).mono ?_; rintro e wq ⟨rfl, rfl⟩)
            | (go_at_call 48; refine (builderLen_any HBL.out).mono ?_; rintro e wq ⟨rfl, rfl⟩))
          go_roundw
          case rel => exact ⟨i + 1, Y, true, by omega, val_bool (decide_eq_true (by omega)), by go_num, HBL.out, by omega, by rw [← HG.out]; exact HRES.out, HB.out⟩
          case measure => simp [intOf]; omega
      | false =>
        rw [colG_no hlt hs] at hres
        rw [hs] at hc
        have HC := Lib.hid hc
        clear hc hs
        have hcb := UInt8.toNat_lt l[i]
        cases g with
        | true =>
          simp only [if_true] at hres
          have HRES := Lib.hid hres
          clear hres
          go_wp2_with (go_at_call 90; refine (HC.out _).mono ?_; rintro e wq ⟨rfl, rfl⟩)
          refine (writeByte_any w.heap.size w.heap.size Y 32 _ HBL.out (by omega) (by omega) (by omega)).mono ?_
          rintro e w1 ⟨rfl, hb1, hbel1, _⟩
          have H1 := Lib.hid (show Bld w.heap.size w.heap.size (Y ++ [32]) w1 from hb1)
          have hz1 := hbel1.size
          have HE1 := Lib.hid hbel1
          clear hb1 hbel1
          go_wp2_with fail
          refine (writeByte_any w.heap.size w.heap.size (Y ++ [32]) _ _ H1.out (by omega) (by simp only [List.length_append, List.length_cons, List.length_nil]; omega) (by omega)).mono ?_
          rintro e w2 ⟨rfl, hb2, hbel2, _⟩
          rw [Int.toNat_natCast, UInt8.ofNat_toNat] at hb2
          have H2 := Lib.hid hb2
          have HE2 := Lib.hid hbel2
          clear hb2 hbel2
          go_wp2_with fail
          go_roundw
          case rel => exact ⟨i + 1, Y ++ [32] ++ [l[i]], false, by omega, rfl, by go_num, H2.out, by simp only [List.length_append, List.length_cons, List.length_nil]; omega, HRES.out, HB.out.trans (HE1.out.trans HE2.out)⟩
          case measure => simp [intOf]; omega
        | false =>
          simp only [Bool.false_eq_true, if_false] at hres
          have HRES := Lib.hid hres
          clear hres
          go_wp2_with (go_at_call 90; refine (HC.out _).mono ?_; rintro e wq ⟨rfl, rfl⟩)
          refine (writeByte_any w.heap.size w.heap.size Y _ _ HBL.out (by omega) (by omega) (by omega)).mono ?_
          rintro e w2 ⟨rfl, hb2, hbel2, _⟩
          rw [Int.toNat_natCast, UInt8.ofNat_toNat] at hb2
          have H2 := Lib.hid hb2
          have HE2 := Lib.hid hbel2
          clear hb2 hbel2
          go_wp2_with fail
          go_roundw
          case rel => exact ⟨i + 1, Y ++ [l[i]], false, by omega, rfl, by go_num, H2.out, by simp only [List.length_append, List.length_cons, List.length_nil]; omega, HRES.out, HB.out.trans HE2.out⟩
          case measure => simp [intOf]; omega
    · obtain rfl : i = l.length := by omega
      rw [List.drop_length, colG] at hres
      subst hres
      go_wp2_with fail
      refine (builderString_any w.heap.size w.heap.size _ _ HBL.out hsz).mono ?_
      rintro e w5 ⟨rfl, hb5, hbel5, _⟩
      go_wp2_with fail
      go_ret
      exact ⟨rfl, HB.out.trans hbel5⟩

theorem colG_ne : ∀ (g : Bool) (Y l : Bytes), Y ≠ [] → colG g Y l ≠ []
  | _, Y, [], h => by rw [colG]; exact h
  | g, Y, c :: l, h => by
    rw [colG]
    split
    · exact colG_ne _ Y l h
    · exact colG_ne _ _ l (by simp)
theorem spc_isSp (c : UInt8) : spc c = isSp c := by
  unfold spc isSp
  rw [Bool.eq_iff_iff]
  simp
  omega
theorem collapse_blank (l : Bytes) : (collapse l == []) = blank l := by
  have key : ∀ l : Bytes, colG false [] l = [] ↔ blank l = true := by
    intro l
    induction l with
    | nil => simp [colG, blank]
    | cons c l ih =>
      rw [colG]
      by_cases h : spc c = true
      · rw [if_pos h]
        have : blank (c :: l) = blank l := by
          unfold blank
          rw [List.all_cons, ← spc_isSp, h, Bool.true_and]
        rw [this]
        exact ih
      · rw [if_neg h]
        have h2 : blank (c :: l) = false := by
          unfold blank
          rw [List.all_cons, ← spc_isSp]
          simp [h]
        rw [h2]
        simp
        exact colG_ne _ _ l (by simp)
  unfold collapse
  rw [Bool.eq_iff_iff, beq_iff_eq]
  exact key l
end Go.Proofs.YtclhdppppgjgfaaGreatDoor
