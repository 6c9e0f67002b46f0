/-
  Several texts in one file, in build order:
  - The writer's builder and the variable that holds the closure.
  - Walk of chapter 9: the reference's chars, node, Write.
  - Walk of chapter 9: the reference's valid, at character data.
  - Walk of chapter 9: the reference's valid, at an element.
  - Walk of chapter 9: the reference's valid, an element with a good head.
  - Walk of chapter 9: the closure that writes a node.
-/
import Derived.Test.YtclhdppppgjgfaaGreatDoorH0
import Derived.Test.YtclhdppppgjgfaaGreatDoorH4
import Derived.Test.YtclhdppppgjgfaaGreatDoorH5
import Derived.Test.YtclhdppppgjgfaaGreatDoorH27
import Derived.Lib.BufferKept
import Derived.Test.YtclhdppppgjgfaaGreatDoorH3
import Derived.Deep.RegionHeld3
set_option linter.unusedVariables false
namespace Go.Proofs.YtclhdppppgjgfaaGreatDoor
open Go.RowKit

/-- The closure of Write: it holds the builder and the variable that it lies in. -/
abbrev wFn (b cl : Nat) : Value := .func (.func 54) #[] #[.pointer (some ⟨b, 0, none⟩), .pointer (some ⟨cl, 0, none⟩)]
structure Wr (B b cl : Nat) (X : Bytes) (w : World) : Prop where
  bld : Bld B b X w
  box : w.heap[cl]? = some (.cells #[wFn b cl] 87)
  ne : cl ≠ b
  le : B ≤ w.heap.size
structure Fr9 (B b : Nat) (w w' : World) : Prop where
  below : Below B w w'
  kept : Kept b w w'
theorem Fr9.refl (B b : Nat) (w : World) : Fr9 B b w w := ⟨Below.refl _ _, Lib.OthersKept.refl _ _ _⟩
theorem Fr9.trans {B b : Nat} {w w1 w2 : World} (h : Fr9 B b w w1) (k : Fr9 B b w1 w2) : Fr9 B b w w2 := ⟨h.below.trans k.below, h.kept.trans k.kept⟩
theorem Fr9.alloc {B b : Nat} {w w1 : World} (h : Fr9 B b w w1) (hB : B ≤ w1.heap.size) (o : Obj) : Fr9 B b w (w1.alloc o) := ⟨h.below.alloc hB o, h.kept.alloc o⟩
theorem Fr9.drew {B b : Nat} {w w1 : World} (h : Fr9 B b w w1) : Fr9 B b w w1.drew := ⟨h.below.drew, h.kept.drew⟩
theorem Fr9.next {B b : Nat} {w w1 w2 : World} (h : Fr9 B b w w1) (hB : B ≤ w1.heap.size) (k : Below w1.heap.size w1 w2) : Fr9 B b w w2 := ⟨h.below.trans (k.mono hB), h.kept.below k⟩
theorem Fr9.node {B b k : Nat} {w w' : World} (h : Fr9 B b w w') (hk : k ≠ b) {c : Array Value} (hb : w.heap[k]? = some (.cells c 26)) : w'.heap[k]? = some (.cells c 26) :=
  h.kept k _ hb (by simpa using hk) (by intro c fz e; simp at e)
theorem Fr9.att {B b k : Nat} {w w' : World} (h : Fr9 B b w w') (hk : k ≠ b) {c : Array Value} (hb : w.heap[k]? = some (.cells c 39)) : w'.heap[k]? = some (.cells c 39) :=
  h.kept k _ hb (by simpa using hk) (by intro c fz e; simp at e)
theorem Wr.alloc {B b cl : Nat} {X : Bytes} {w : World} (h : Wr B b cl X w) (o : Obj) : Wr B b cl X (w.alloc o) := by
  refine ⟨h.bld.alloc o, ?_, h.ne, by simp; have := h.le; omega⟩
  rw [Lib.alloc_old w _ cl (Array.getElem?_eq_some_iff.1 h.box).1]; exact h.box
theorem Wr.drew {B b cl : Nat} {X : Bytes} {w : World} (h : Wr B b cl X w) : Wr B b cl X w.drew := ⟨h.bld.drew, h.box, h.ne, h.le⟩
theorem Wr.next {B b cl : Nat} {X : Bytes} {w w' : World} (h : Wr B b cl X w) (k : Below w.heap.size w w') : Wr B b cl X w' := by
  refine ⟨h.bld.below k, ?_, h.ne, by have := h.le; have := k.size; omega⟩
  rw [k.block cl (Array.getElem?_eq_some_iff.1 h.box).1]; exact h.box
theorem Wr.cell {B b cl : Nat} {X : Bytes} {w : World} (h : Wr B b cl X w) : w.cell? ⟨cl, 0, none⟩ = some (wFn b cl) := by rw [Lib.cell_of_heap h.box]; rfl
theorem Wr.clt {B b cl : Nat} {X : Bytes} {w : World} (h : Wr B b cl X w) : cl < w.heap.size := (Array.getElem?_eq_some_iff.1 h.box).1
theorem wr_str {B b cl : Nat} {X : Bytes} (m : Bytes) {w : World} (h : Wr B b cl X w) (hl : X.length + m.length ≤ 140737488355328) :
    Calls Tryz.prog 47 #[.pointer (some ⟨b, 0, none⟩), .string (S m)] w fun e w' => e = .returned (.tuple #[.int .i64 m.length, .nilIface]) ∧ Wr B b cl (X ++ m) w' ∧ Fr9 B b w w' := by
  refine (writeString_any B b X m w h.bld hl h.le).mono ?_
  rintro e w' ⟨rfl, h1, h2, h3⟩
  exact ⟨rfl, ⟨h1, h3 cl _ h.box (by simpa using h.ne) (by intro c fz e; simp at e), h.ne, by have := h.le; have := h2.size; omega⟩, h2, h3⟩
theorem wr_byte {B b cl : Nat} {X : Bytes} (c : Int) {w : World} (h : Wr B b cl X w) (hc : 0 ≤ c ∧ c ≤ 255) (hl : X.length + 1 ≤ 140737488355328) :
    Calls Tryz.prog 57 #[.pointer (some ⟨b, 0, none⟩), .int .u8 c] w fun e w' => e = .returned .nilIface ∧ Wr B b cl (X ++ [UInt8.ofNat c.toNat]) w' ∧ Fr9 B b w w' := by
  refine (writeByte_any B b X c w h.bld hc hl h.le).mono ?_
  rintro e w' ⟨rfl, h1, h2, h3⟩
  exact ⟨rfl, ⟨h1, h3 cl _ h.box (by simpa using h.ne) (by intro c fz e; simp at e), h.ne, by have := h.le; have := h2.size; omega⟩, h2, h3⟩
theorem run_cat {P : Program} (x y z : Bytes) (hz : z = x ++ y) (h : x.length + y.length ≤ 4611686018427387904) : ∀ W : World, (Op.stringOp .add (S x) (S y)).run P W = .ok (.string (S z)) W := fun W => by
  rw [run_string_add_sum W (S x) (S y) (by simp only [S, ByteArray.size, List.size_toArray]; omega), hz, S_append]
end Go.Proofs.YtclhdppppgjgfaaGreatDoor
set_option linter.unusedVariables false
namespace Go.Proofs.YtclhdppppgjgfaaGreatDoor
open Go.RowKit

set_option maxHeartbeats 1000000 in
set_option maxRecDepth 100000 in
theorem refChars_any (l : Bytes) (w : World) (hl : l.length ≤ 4611686018427387904) :
    Calls Tryz.prog 74 #[.string (S l)] w fun e w' => e = .returned (.bool (charsOk l)) ∧ Below w.heap.size w w' := by
  have hc := refCheck_any l w hl
  have he : charsOk l = ((((check l).2 : Nat) : Int) == 0) := by unfold charsOk; rw [Bool.eq_iff_iff]; simp
  rw [he]
  generalize check l = c at *
  obtain ⟨c1, c2⟩ := c
  have HC := Lib.hid hc
  clear hc he
  go_enter Tryz.func74, Tryz.ntmps74
  go_wp2_with (go_at_call 63; refine HC.out.mono ?_; rintro e w' ⟨rfl, hb⟩)
  go_ret
  exact ⟨rfl, hb⟩

end Go.Proofs.YtclhdppppgjgfaaGreatDoor
set_option linter.unusedVariables false
namespace Go.Proofs.YtclhdppppgjgfaaGreatDoor
open Go.RowKit

/-- What the reference asks of a node within a tree. -/
def rvl (n : Node) : Bool := if n.kind == 1 then dataOk n else vld false n 0

set_option maxHeartbeats 4000000 in
set_option maxRecDepth 200000 in
theorem refValid_text (n : Node) (v : Value) (w : World) (hk1 : n.kind = 1) (hs : full n ≤ 1000000) (hv : NodeV w w.heap.size n v) :
    Calls Tryz.prog 49 #[v] w fun e w' => e = .returned (.bool (dataOk n)) ∧ Below w.heap.size w w' := by
  obtain ⟨A, cap, K, kcap, rfl, ha, hkk, hcap, hkcap⟩ := hv.open_
  have hpt : n.text.length < 1000000 := (parts n hs).text
  have hch := fun W => refChars_any n.text W (by omega)
  obtain ⟨k, s, nm, ats, ks, t, p⟩ := n
  simp only [Node.kind, Node.space, Node.name, Node.attrs, Node.kids, Node.text, Node.pos] at *
  subst hk1
  have hd : dataOk (.mk 1 s nm ats ks t p) = (t != [] && charsOk t && s == [] && nm == [] && ats.length == 0 && ks.length == 0) := rfl
  generalize dataOk (.mk 1 s nm ats ks t p) = E at *
  have F1 : Hid (∀ o, Below w.heap.size w (w.alloc o)) := fun o => (Below.refl _ _).alloc (Nat.le_refl _) o
  clear ha hkk hs hv
  by_cases g1 : t = []
  · subst g1
    have hF : E = false := by rw [hd]; rfl
    have HF := Lib.hid hF
    clear hF hd hch
    go_enter Tryz.func49, Tryz.ntmps49
    go_wp2_with fail
    go_ret
    exact ⟨ret_bool HF.out.symm, F1.out _⟩
  · have e0 : List.isEmpty t = false := by cases t with
      | nil => exact (g1 rfl).elim
      | cons a l => rfl
    cases g2 : charsOk t
    · rw [g2] at hch hd
      have HC := Lib.hid hch
      clear hch g2
      have hF : E = false := by rw [hd]; simp
      have HF := Lib.hid hF
      clear hF hd
      go_enter Tryz.func49, Tryz.ntmps49
      go_wp2_with (go_at_call 74; refine (HC.out _).mono ?_; rintro e w1 ⟨rfl, hb1⟩; have k1 := hb1.cell (p := ⟨w.heap.size, 1, none⟩) (by simp); have k2 := hb1.cell (p := ⟨w.heap.size, 2, none⟩) (by simp); have k3 := hb1.cell (p := ⟨w.heap.size, 3, none⟩) (by simp); have k4 := hb1.cell (p := ⟨w.heap.size, 4, none⟩) (by simp))
      go_ret
      exact ⟨ret_bool HF.out.symm, (F1.out _).trans (hb1.mono (by simp))⟩
    · rw [g2] at hch hd
      have HC := Lib.hid hch
      clear hch g2
      by_cases g3 : s = []
      · subst g3
        by_cases g4 : nm = []
        · subst g4
          by_cases g5 : ats.length = 0
          · have t5 : (((ats.length : Nat) : Int) == 0) = true := by rw [g5]; rfl
            by_cases g6 : ks.length = 0
            · have t6 : (((ks.length : Nat) : Int) == 0) = true := by rw [g6]; rfl
              have hF : E = true := by rw [hd, g5, g6]; simp [g1]
              have HF := Lib.hid hF
              clear hF hd g5 g6 g1
              go_enter Tryz.func49, Tryz.ntmps49
              go_wp2_with (go_at_call 74; refine (HC.out _).mono ?_; rintro e w1 ⟨rfl, hb1⟩; have k1 := hb1.cell (p := ⟨w.heap.size, 1, none⟩) (by simp); have k2 := hb1.cell (p := ⟨w.heap.size, 2, none⟩) (by simp); have k3 := hb1.cell (p := ⟨w.heap.size, 3, none⟩) (by simp); have k4 := hb1.cell (p := ⟨w.heap.size, 4, none⟩) (by simp))
              go_ret
              exact ⟨ret_bool HF.out.symm, (F1.out _).trans (hb1.mono (by simp))⟩
            · have t6 : (((ks.length : Nat) : Int) == 0) = false := by rw [beq_eq_false_iff_ne]; omega
              have hF : E = false := by rw [hd, show (ks.length == 0) = false from by rw [beq_eq_false_iff_ne]; omega]; simp
              have HF := Lib.hid hF
              clear hF hd g5 g6 g1
              go_enter Tryz.func49, Tryz.ntmps49
              go_wp2_with (go_at_call 74; refine (HC.out _).mono ?_; rintro e w1 ⟨rfl, hb1⟩; have k1 := hb1.cell (p := ⟨w.heap.size, 1, none⟩) (by simp); have k2 := hb1.cell (p := ⟨w.heap.size, 2, none⟩) (by simp); have k3 := hb1.cell (p := ⟨w.heap.size, 3, none⟩) (by simp); have k4 := hb1.cell (p := ⟨w.heap.size, 4, none⟩) (by simp))
              go_ret
              exact ⟨ret_bool HF.out.symm, (F1.out _).trans (hb1.mono (by simp))⟩
          · have t5 : (((ats.length : Nat) : Int) == 0) = false := by rw [beq_eq_false_iff_ne]; omega
            have hF : E = false := by rw [hd, show (ats.length == 0) = false from by rw [beq_eq_false_iff_ne]; omega]; simp
            have HF := Lib.hid hF
            clear hF hd g5 g1
            go_enter Tryz.func49, Tryz.ntmps49
            go_wp2_with (go_at_call 74; refine (HC.out _).mono ?_; rintro e w1 ⟨rfl, hb1⟩; have k1 := hb1.cell (p := ⟨w.heap.size, 1, none⟩) (by simp); have k2 := hb1.cell (p := ⟨w.heap.size, 2, none⟩) (by simp); have k3 := hb1.cell (p := ⟨w.heap.size, 3, none⟩) (by simp); have k4 := hb1.cell (p := ⟨w.heap.size, 4, none⟩) (by simp))
            go_ret
            exact ⟨ret_bool HF.out.symm, (F1.out _).trans (hb1.mono (by simp))⟩
        · have e4 : List.isEmpty nm = false := by cases nm with
            | nil => exact (g4 rfl).elim
            | cons a l => rfl
          have hF : E = false := by rw [hd]; simp [g4]
          have HF := Lib.hid hF
          clear hF hd g4 g1
          go_enter Tryz.func49, Tryz.ntmps49
          go_wp2_with (go_at_call 74; refine (HC.out _).mono ?_; rintro e w1 ⟨rfl, hb1⟩; have k1 := hb1.cell (p := ⟨w.heap.size, 1, none⟩) (by simp); have k2 := hb1.cell (p := ⟨w.heap.size, 2, none⟩) (by simp); have k3 := hb1.cell (p := ⟨w.heap.size, 3, none⟩) (by simp); have k4 := hb1.cell (p := ⟨w.heap.size, 4, none⟩) (by simp))
          go_ret
          exact ⟨ret_bool HF.out.symm, (F1.out _).trans (hb1.mono (by simp))⟩
      · have e3 : List.isEmpty s = false := by cases s with
          | nil => exact (g3 rfl).elim
          | cons a l => rfl
        have hF : E = false := by rw [hd]; simp [g3]
        have HF := Lib.hid hF
        clear hF hd g3 g1
        go_enter Tryz.func49, Tryz.ntmps49
        go_wp2_with (go_at_call 74; refine (HC.out _).mono ?_; rintro e w1 ⟨rfl, hb1⟩; have k1 := hb1.cell (p := ⟨w.heap.size, 1, none⟩) (by simp); have k2 := hb1.cell (p := ⟨w.heap.size, 2, none⟩) (by simp); have k3 := hb1.cell (p := ⟨w.heap.size, 3, none⟩) (by simp); have k4 := hb1.cell (p := ⟨w.heap.size, 4, none⟩) (by simp))
        go_ret
        exact ⟨ret_bool HF.out.symm, (F1.out _).trans (hb1.mono (by simp))⟩
end Go.Proofs.YtclhdppppgjgfaaGreatDoor
set_option linter.unusedVariables false
namespace Go.Proofs.YtclhdppppgjgfaaGreatDoor
open Go.RowKit

set_option maxHeartbeats 4000000 in
set_option maxRecDepth 200000 in
/-- An element whose head is amiss. -/
theorem refValid_head (n : Node) (v : Value) (w : World) (hk1 : ¬ n.kind = 1) (hs : full n ≤ 1000000) (hv : NodeV w w.heap.size n v) (hh : (n.kind == 0 && n.space == [] && n.text == [] && isQName n.name) = false) :
    Calls Tryz.prog 49 #[v] w fun e w' => e = .returned (.bool false) ∧ Below w.heap.size w w' := by
  obtain ⟨A, cap, K, kcap, rfl, ha, hkk, hcap, hkcap⟩ := hv.open_
  have hpn : n.name.length < 1000000 := (parts n hs).name
  have hq := fun W => refIsQName_any n.name W (by omega)
  obtain ⟨k, s, nm, ats, ks, t, p⟩ := n
  simp only [Node.kind, Node.space, Node.name, Node.attrs, Node.kids, Node.text, Node.pos] at *
  have t1 : (k == 1) = false := by rw [beq_eq_false_iff_ne]; exact hk1
  have F1 : Hid (∀ o, Below w.heap.size w (w.alloc o)) := fun o => (Below.refl _ _).alloc (Nat.le_refl _) o
  clear ha hkk hs hv hk1
  by_cases h1 : k = 0
  · subst h1
    by_cases h3 : s = []
    · subst h3
      by_cases h4 : t = []
      · subst h4
        have h5 : isQName nm = false := by simpa using hh
        rw [h5] at hq
        have HQ := Lib.hid hq
        clear hq hh h5
        go_enter Tryz.func49, Tryz.ntmps49
        go_wp2_with (go_at_call 75; refine (HQ.out _).mono ?_; rintro e w1 ⟨rfl, hb1⟩)
        go_ret
        exact ⟨rfl, (F1.out _).trans (hb1.mono (by simp))⟩
      · have e4 : List.isEmpty t = false := by cases t with
          | nil => exact (h4 rfl).elim
          | cons a l => rfl
        clear hq hh
        go_enter Tryz.func49, Tryz.ntmps49
        go_wp2_with fail
        go_ret
        exact ⟨rfl, F1.out _⟩
    · have e3 : List.isEmpty s = false := by cases s with
        | nil => exact (h3 rfl).elim
        | cons a l => rfl
      clear hq hh
      go_enter Tryz.func49, Tryz.ntmps49
      go_wp2_with fail
      go_ret
      exact ⟨rfl, F1.out _⟩
  · have t0 : (k == 0) = false := by rw [beq_eq_false_iff_ne]; exact h1
    have t2 : (k != 0) = true := by rw [bne, t0]; rfl
    clear hq hh h1
    go_enter Tryz.func49, Tryz.ntmps49
    go_wp2_with fail
    go_ret
    exact ⟨rfl, F1.out _⟩
end Go.Proofs.YtclhdppppgjgfaaGreatDoor
set_option linter.unusedVariables false
namespace Go.Proofs.YtclhdppppgjgfaaGreatDoor
open Go.RowKit

def names (l : List Att) : List Bytes := l.map Att.name
theorem names_take {l : List Att} {i : Nat} (h : i < l.length) : ∀ x, x ∈ (l[i].name :: names (l.take i)) ↔ x ∈ names (l.take (i + 1)) := by
  intro x
  simp only [names, ← List.take_append_getElem h, List.map_append, List.mem_append, List.map_cons, List.map_nil, List.mem_cons, List.not_mem_nil, or_false]
  exact or_comm
theorem attsOk_at {l : List Att} {i : Nat} (h : i < l.length) : attsOkS (names (l.take i)) (l.drop i) = (l[i].space == [] && !(names (l.take i)).contains l[i].name && isQName l[i].name && charsOk l[i].value && attsOkS (names (l.take (i + 1))) (l.drop (i + 1))) := by
  rw [attsOkS_step h, attsOkS_perm _ _ _ (names_take h)]

theorem below_drewN' {B : Nat} {w w' : World} (h : Below B w w') (n : Nat) : Below B w (w'.drewN n) := ⟨h.os, h.tape, h.output, h.size, h.block⟩
/-- Is the kid ahead of place i character data? -/
def prevText (ks : List Node) (i : Nat) : Bool := match i with
  | 0 => false
  | j + 1 => (ks[j]?.map (fun k => k.kind == 1)).getD false
theorem prevText_succ {ks : List Node} {i : Nat} (h : i < ks.length) : prevText ks (i + 1) = (ks[i].kind == 1) := by simp [prevText, h]
theorem prevText_pos {ks : List Node} {i : Nat} (h : i < ks.length) (h0 : 0 < i) : prevText ks i = (ks[i - 1].kind == 1) := by
  obtain ⟨j, rfl⟩ : ∃ j, i = j + 1 := ⟨i - 1, by omega⟩
  simp [prevText, show j < ks.length by omega]

set_option maxHeartbeats 4000000 in
set_option maxRecDepth 200000 in
theorem refValid_any (m : Nat) : ∀ (n : Node) (v : Value) (w : World), nsz n ≤ m → full n ≤ 1000000 → NodeV w w.heap.size n v →
    Calls Tryz.prog 49 #[v] w fun e w' => e = .returned (.bool (rvl n)) ∧ Below w.heap.size w w' := by
  induction m with
  | zero => intro n v w h; cases n; rw [nsz] at h; omega
  | succ m ih =>
    intro n v w hm hs hv
    by_cases hk1 : n.kind = 1
    · rw [rvl, if_pos (by rw [hk1]; rfl)]; exact refValid_text n v w hk1 hs hv
    have t1 : (n.kind == 1) = false := by rw [beq_eq_false_iff_ne]; exact hk1
    have hE : rvl n = (headOk n && vldL false n.kids 0 false) := by rw [rvl, t1, if_neg (by decide), vld_eq]; simp
    cases hh : (n.kind == 0 && n.space == [] && n.text == [] && isQName n.name)
    · have hF : rvl n = false := by rw [hE, headOk, hh]; simp
      rw [hF]; exact refValid_head n v w hk1 hs hv hh
    rw [hE, headOk, hh, Bool.true_and]
    clear hE
    obtain ⟨A, cap, K, kcap, rfl, ha, hk, hcap, hkcap⟩ := hv.open_
    have hp := parts n hs
    have hq := fun W => refIsQName_any n.name W (by have := hp.name; omega)
    have hge := fun (i : Nat) (h : i < n.kids.length) => nsz_get n h
    simp only [Bool.and_eq_true, beq_iff_eq] at hh
    obtain ⟨⟨⟨h1, h2⟩, h3⟩, h4⟩ := hh
    rw [h4] at hq
    have hkl : n.kids.length < 1000000 := hp.kids
    have hal : n.attrs.length < 1000000 := hp.attrs
    have t0 : (n.kind == 0) = true := by rw [h1]; rfl
    have t2 : (n.kind != 0) = false := by rw [bne, t0]; rfl
    have HIH := Lib.hid ih
    have HQ := Lib.hid hq
    have HA := Lib.hid ha
    have HK := Lib.hid hk
    have HM := Lib.hid hm
    have HP := Lib.hid hp
    have HGE := Lib.hid hge
    have F1 : Hid (∀ o, Below w.heap.size w (w.alloc o)) := fun o => (Below.refl _ _).alloc (Nat.le_refl _) o
    obtain ⟨k, s, nm, ats, ks, t, p⟩ := n
    simp only [Node.kind, Node.space, Node.name, Node.attrs, Node.kids, Node.text, Node.pos] at *
    subst h2 h3
    clear ih hq ha hk hm hp hge hs hv hk1 h1 h4
    generalize hE : (attsOk ats && vldL false ks 0 false) = E at *
    have HE := Lib.hid hE
    clear hE
    go_enter Tryz.func49, Tryz.ntmps49
    go_wp2_with (go_at_call 75; refine (HQ.out _).mono ?_; rintro e w1 ⟨rfl, hb1⟩)
    have hb0 : w1.heap[w.heap.size]? = some (nodeBox (.mk k [] nm ats ks [] p) A cap K kcap) := (hb1.block w.heap.size (by simp)).trans (heap_alloc_new w _)
    have HB0 := Lib.hid hb0
    have HB1 := Lib.hid ((F1.out _).trans (hb1.mono (show w.heap.size ≤ (w.alloc _).heap.size by simp)))
    clear hb0 hb1
    go_loopw [3] (fun i3 wr => ∃ i : Nat, i ≤ ats.length ∧ i3 = .int .i64 i ∧ (attsOkS (names (ats.take i)) (ats.drop i) && vldL false ks 0 false) = E ∧ Below w.heap.size w wr ∧ wr.heap[w.heap.size]? = some (nodeBox (.mk k [] nm ats ks [] p) A cap K kcap)) (fun i3 _ => ats.length - (intOf i3).toNat)
    case atStart => exact ⟨0, Nat.zero_le _, rfl, HE.out, HB1.out, HB0.out⟩
    case round =>
      obtain ⟨i, hi, rfl, hrem, hb, hbox⟩ := hrel
      clear HE HB1 HB0
      have hszx : w.heap.size < wr.heap.size := (Array.getElem?_eq_some_iff.1 hbox).1
      have HB := Lib.hid hb
      have HBX := Lib.hid hbox
      have HR := Lib.hid hrem
      have c3 := (box_cells hbox).2.2.2.1
      dsimp only [Node.attrs] at c3
      by_cases hlt : i < ats.length
      · obtain ⟨bb, off, hAA, hbb, hr⟩ := HA.out.at_ hlt
        subst hAA
        have hr' : wr.rangeAt bb (off + i * 4) (attCells ats[i]) := rangeAt_keep hr (HB.out.block bb hbb)
        have hav : ats[i].value.length < 1000000 ∧ ats[i].name.length < 1000000 := by
          have h := HP.out.att ats[i] (List.getElem_mem hlt)
          omega
        have hstep := attsOk_at hlt
        rw [hstep] at hrem
        have hnn := names_take hlt
        generalize ha : ats[i] = a at *
        obtain ⟨hav1, hav2⟩ := hav
        have hq2 := fun W => refIsQName_any a.name W (by omega)
        have hc2 := fun W => refChars_any a.value W (by omega)
        have F2 : Hid (∀ o, Below w.heap.size w (wr.alloc o)) := fun o => HB.out.alloc (Nat.le_of_lt hszx) _
        have HRR := Lib.hid hr'
        have HAI := Lib.hid ha
        have hlt' : (i : Int) < ats.length := by omega
        clear hr hr' hstep hb hbox HR HQ hnn ha
        by_cases g1 : a.space = []
        · rw [g1] at hrem
          cases g2 : isQName a.name
          · rw [g2] at hq2 hrem
            have hF : E = false := by rw [← hrem]; simp
            have HF := Lib.hid hF
            have HQ := Lib.hid hq2
            clear hF hrem hq2 hc2 g2
            go_wp2_with (first
              | (with_reducible refine gate ?_; refine wp_load_att rfl _ rfl bb (off + i * 4) rfl a HRR.out ?_)
              | (go_at_call 75; refine (HQ.out _).mono ?_; rintro e w2 ⟨rfl, hb2⟩))
            go_ret
            exact ⟨ret_bool HF.out.symm, (F2.out _).trans (hb2.mono (by simp; omega))⟩
          · rw [g2] at hq2 hrem
            have HQ := Lib.hid hq2
            clear hq2 g2
            cases g3 : charsOk a.value
            · rw [g3] at hc2 hrem
              have hF : E = false := by rw [← hrem]; simp
              have HF := Lib.hid hF
              have HC := Lib.hid hc2
              clear hF hrem hc2 g3
              go_wp2_with (first
                | (with_reducible refine gate ?_; refine wp_load_att rfl _ rfl bb (off + i * 4) rfl a HRR.out ?_)
                | (go_at_call 75; refine (HQ.out _).mono ?_; rintro e w2 ⟨rfl, hb2⟩; have k2 := hb2.cell (p := ⟨wr.heap.size, 2, none⟩) (by simp); have hz2 : wr.heap.size + 1 ≤ w2.heap.size := by simpa using hb2.size)
                | (go_at_call 74; refine (HC.out _).mono ?_; rintro e w3 ⟨rfl, hb3⟩))
              go_ret
              exact ⟨ret_bool HF.out.symm, ((F2.out _).trans (hb2.mono (by simp; omega))).trans (hb3.mono (by omega))⟩
            · rw [g3] at hc2 hrem
              have HC := Lib.hid hc2
              have HR2 := Lib.hid hrem
              clear hrem hc2 g3
              go_wp2_with (first
                | (with_reducible refine gate ?_; refine wp_load_att rfl _ rfl bb (off + i * 4) rfl a HRR.out ?_)
                | (go_at_call 75; refine (HQ.out _).mono ?_; rintro e w2 ⟨rfl, hb2⟩; have k2 := hb2.cell (p := ⟨wr.heap.size, 2, none⟩) (by simp); have hz2 : wr.heap.size + 1 ≤ w2.heap.size := by simpa using hb2.size)
                | (go_at_call 74; refine (HC.out _).mono ?_; rintro e w3 ⟨rfl, hb3⟩))
              have hbw : Below w.heap.size w w3 := ((F2.out _).trans (hb2.mono (by simp; omega))).trans (hb3.mono (by omega))
              have hab : w3.heap[wr.heap.size]? = some (.cells #[.string (S []), .string (S a.name), .string (S a.value), .int .i64 a.pos] 39) :=
                (hb3.block wr.heap.size (by omega)).trans ((hb2.block wr.heap.size (by simp)).trans (heap_alloc_new wr _))
              have hnb : w3.heap[w.heap.size]? = some (nodeBox (.mk k [] nm ats ks [] p) (some ⟨bb, off, none⟩) cap K kcap) :=
                (hb3.block w.heap.size (by omega)).trans ((hb2.block w.heap.size (by simp; omega)).trans ((Lib.alloc_old wr _ w.heap.size hszx).trans HBX.out))
              have HBW := Lib.hid hbw
              have HAB := Lib.hid hab
              have HNB := Lib.hid hnb
              have hdn : ∀ j, j < i → (h : j < ats.length) → True := fun _ _ _ => trivial
              clear hbw hab hnb hb2 hb3 k2 hdn HB HBX HRR
              obtain ⟨wo, rfl⟩ : ∃ wo : World, wo = wr := ⟨_, rfl⟩
              go_loopw [5] (fun i5 wr => ∃ j : Nat, j ≤ i ∧ i5 = .int .i64 j ∧ (names (ats.take j)).contains a.name = false ∧ Below w.heap.size w wr ∧ wr.heap[w.heap.size]? = some (nodeBox (.mk k [] nm ats ks [] p) (some ⟨bb, off, none⟩) cap K kcap) ∧ wr.heap[wo.heap.size]? = some (.cells #[.string (S []), .string (S a.name), .string (S a.value), .int .i64 a.pos] 39)) (fun i5 _ => i - (intOf i5).toNat)
              case atStart => exact ⟨0, Nat.zero_le _, rfl, rfl, HBW.out, HNB.out, HAB.out⟩
              case round =>
                obtain ⟨j, hj, rfl, hnin, hb, hbox, habx⟩ := hrel
                clear HBW HNB HAB
                have hszy : w.heap.size < wr.heap.size := (Array.getElem?_eq_some_iff.1 hbox).1
                have HB2 := Lib.hid hb
                have HBX2 := Lib.hid hbox
                have HAX := Lib.hid habx
                have c3 := (box_cells hbox).2.2.2.1
                dsimp only [Node.attrs] at c3
                have c1 : wr.cell? ⟨wo.heap.size, 1, none⟩ = some (.string (S a.name)) := by rw [Lib.cell_of_heap habx]; rfl
                by_cases hlt2 : j < i
                · have hj' : j < ats.length := by omega
                  obtain ⟨bb2, off2, hAA2, hbb2, hr2⟩ := HA.out.at_ hj'
                  cases hAA2
                  have d1 : wr.cell? ⟨bb, off + j * 4 + 1, none⟩ = some (.string (S ats[j].name)) := rangeAt_keep hr2 (hb.block bb hbb2) 1 _ rfl
                  have hnx := names_take hj'
                  generalize ats[j].name = nj at *
                  have hji : (j : Int) < ats.length := by omega
                  have hji2 : (j : Int) < i := by omega
                  by_cases g : nj = a.name
                  · have hin : (names (ats.take i)).contains a.name = true := by
                      have h1 : nj ∈ names (ats.take (j + 1)) := (hnx nj).1 (by simp)
                      rw [g] at h1
                      have h2 : ∀ x ∈ names (ats.take (j + 1)), x ∈ names (ats.take i) := by
                        unfold names
                        rw [show ats.take (j + 1) = (ats.take i).take (j + 1) from by rw [List.take_take, Nat.min_eq_left (by omega)]]
                        intro x hx
                        rw [List.mem_map] at hx ⊢
                        obtain ⟨y, hy, e⟩ := hx
                        exact ⟨y, List.mem_of_mem_take hy, e⟩
                      simpa using h2 _ h1
                    have hF : E = false := by rw [← HR2.out, hin]; simp
                    have HF := Lib.hid hF
                    have y : (nj == a.name) = true := by rw [g]; simp
                    clear hF hin hnx g hr2 hb hbox habx hnin
                    go_wp2_with fail
                    go_quiet (fail)
                    go_wp2
                    go_ret
                    exact ⟨ret_bool HF.out.symm, below_drewN' HB2.out _⟩
                  · have hnin2 : (names (ats.take (j + 1))).contains a.name = false := by
                      rw [Bool.eq_false_iff] at hnin ⊢
                      intro h
                      apply hnin
                      have h1 : a.name ∈ names (ats.take (j + 1)) := by simpa using h
                      rcases List.mem_cons.1 ((hnx a.name).2 h1) with h2 | h2
                      · exact absurd h2.symm g
                      · simpa using h2
                    have HNI := Lib.hid hnin2
                    have y : (nj == a.name) = false := by rw [beq_eq_false_iff_ne]; exact g
                    clear hnin2 hnx g hr2 hb hbox habx hnin
                    go_wp2_with fail
                    go_quiet (fail)
                    go_wp2
                    go_roundw
                    case rel => exact ⟨j + 1, by omega, by go_num, HNI.out, below_drewN' HB2.out _, HBX2.out, HAX.out⟩
                    case measure => simp [intOf]; omega
                · obtain rfl : j = i := by omega
                  have hE2 : (attsOkS (names (ats.take (j + 1))) (ats.drop (j + 1)) && vldL false ks 0 false) = E := by
                    rw [← HR2.out, hnin]; simp
                  have HE2 := Lib.hid hE2
                  clear hE2 hb hbox habx hnin
                  go_wp2_with fail
                  go_roundw
                  case rel => exact ⟨j + 1, by omega, by go_num, HE2.out, HB2.out, HBX2.out⟩
                  case measure => simp [intOf]; omega
        · have e1 : List.isEmpty a.space = false := by cases hsp : a.space with
            | nil => exact (g1 hsp).elim
            | cons x l => rfl
          have hF : E = false := by rw [← hrem]; simp [g1]
          have HF := Lib.hid hF
          clear hF hrem hq2 hc2 g1
          go_wp2_with (with_reducible refine gate ?_; refine wp_load_att rfl _ rfl bb (off + i * 4) rfl a HRR.out ?_)
          go_ret
          exact ⟨ret_bool HF.out.symm, F2.out _⟩
      · obtain rfl : i = ats.length := by omega
        have hrem2 : vldL false (ks.drop 0) 0 false = E := by rw [← hrem, List.drop_length, attsOkS, List.drop_zero]; rfl
        have HR2 := Lib.hid hrem2
        obtain ⟨wo, rfl⟩ : ∃ wo : World, wo = wr := ⟨_, rfl⟩
        clear hrem hrem2 hb hbox HR
        go_wp2_with fail
        clear c3
        go_loopw [6] (fun i6 wr => ∃ i : Nat, i ≤ ks.length ∧ i6 = .int .i64 i ∧ vldL false (ks.drop i) 0 (prevText ks i) = E ∧ Below w.heap.size w wr ∧ wr.heap[w.heap.size]? = some (nodeBox (.mk k [] nm ats ks [] p) A cap K kcap)) (fun i6 _ => ks.length - (intOf i6).toNat)
        case atStart => exact ⟨0, Nat.zero_le _, rfl, HR2.out, HB.out, HBX.out⟩
        case round =>
          obtain ⟨i, hi, rfl, hrem, hb, hbox⟩ := hrel
          clear HR2 HB HBX
          have hszy : w.heap.size < wr.heap.size := (Array.getElem?_eq_some_iff.1 hbox).1
          have HB := Lib.hid hb
          have HBX := Lib.hid hbox
          have c4 := (box_cells hbox).2.2.2.2.1
          dsimp only [Node.kids] at c4
          by_cases hlt : i < ks.length
          · obtain ⟨bb, off, cs, hKK, hbb, hr, hcs⟩ := HK.out.at_ hlt
            subst hKK
            have hr' : wr.rangeAt bb (off + i * 7) cs := rangeAt_keep hr (hb.block bb hbb)
            have hnv : NodeV w w.heap.size ks[i] (.agg cs.toArray) := ⟨cs, rfl, hcs⟩
            have hfk : full ks[i] ≤ 1000000 := by have := HP.out.kid ks[i] (List.getElem_mem hlt); omega
            have hsn : nsz ks[i] ≤ m := by have := HGE.out i hlt; have := HM.out; omega
            have hcall := HIH.out ks[i] (.agg cs.toArray) wr hsn hfk (hnv.keep hb.block hb.size)
            have hstep := vldL_step (lim := false) (d := 0) (data := prevText ks i) hlt
            rw [hrem] at hstep
            have hpt := prevText_succ hlt
            have hrk : rvl ks[i] = (if ks[i].kind == 1 then dataOk ks[i] else vld false ks[i] (0 + 1)) := by
              unfold rvl; rw [vld_any ks[i] 0 (0 + 1)]
            have hE3 : E = (rvl ks[i] && !(prevText ks i && ks[i].kind == 1) && vldL false (ks.drop (i + 1)) 0 (prevText ks (i + 1))) := by
              rw [hstep, hpt, hrk]
              cases ks[i].kind == 1 <;> cases prevText ks i <;> simp
            obtain ⟨A', c', K', d', hcs2, _, _, _, _⟩ := hcs.open_
            subst hcs2
            have hlt' : (i : Int) < ks.length := by omega
            have HRR := Lib.hid hr'
            have F2 : Hid (∀ w3, Below wr.heap.size wr w3 → Below w.heap.size w w3 ∧ w3.heap[w.heap.size]? = some (nodeBox (.mk k [] nm ats ks [] p) A cap (some ⟨bb, off, none⟩) kcap)) := fun w3 h => ⟨hb.trans (h.mono hb.size), (h.block _ hszy).trans hbox⟩
            generalize hq : rvl ks[i] = q at *
            cases q
            · have hF : E = false := by rw [hE3]; simp
              have HF := Lib.hid hF
              have HC := Lib.hid hcall
              clear hF hE3 hcall hq hstep hrem hb hbox hr hr' hcs hnv hfk hsn hpt hrk
              go_wp2_with (first
                | (with_reducible refine gate ?_; refine wp_load_node rfl _ rfl bb (off + i * 7) rfl _ rfl HRR.out ?_)
                | (go_at_call 49; refine HC.out.mono ?_; rintro e w3 ⟨rfl, hb3⟩))
              go_ret
              exact ⟨ret_bool HF.out.symm, (F2.out _ hb3).1⟩
            · have hc0 : wr.cell? ⟨bb, off + i * 7, none⟩ = some (.int .i64 ks[i].kind) := hr' 0 _ rfl
              have hbw : bb < wr.heap.size := by have := hb.size; omega
              by_cases h0 : i = 0
              · have hfin : vldL false (ks.drop (i + 1)) 0 (prevText ks (i + 1)) = E := by rw [hE3, show prevText ks i = false from by rw [h0]; rfl]; simp
                have HFF := Lib.hid hfin
                have HC := Lib.hid hcall
                have hi0 : (i : Int) ≤ 0 := by omega
                clear hfin hE3 hcall hq hstep hrem hb hbox hr hr' hcs hnv hfk hsn hpt hrk hc0 h0
                go_wp2_with (first
                  | (with_reducible refine gate ?_; refine wp_load_node rfl _ rfl bb (off + i * 7) rfl _ rfl HRR.out ?_)
                  | (go_at_call 49; refine HC.out.mono ?_; rintro e w3 ⟨rfl, hb3⟩))
                go_roundw
                case rel => first | exact ⟨i + 1, by omega, by go_num, HFF.out, F2.out _ hb3⟩ | ((repeat apply Exists.intro); refine ⟨⟨i + 1, by omega, ?_, HFF.out, F2.out _ hb3⟩, rfl⟩; go_num)
                case measure => simp [intOf]; omega
              · have hi1 : (1 : Int) ≤ i := by omega
                have hjl : i - 1 < ks.length := by omega
                rw [prevText_pos hlt (by omega)] at hE3
                have hpj : wr.cell? ⟨bb, off + (i - 1) * 7, none⟩ = some (.int .i64 ks[i - 1].kind) := by
                  obtain ⟨bb2, off2, cs2, hKK2, hbb2, hr2, hcs2⟩ := HK.out.at_ hjl
                  cases hKK2
                  obtain ⟨A2, c2, K2, d2, rfl, _, _, _, _⟩ := hcs2.open_
                  exact (rangeAt_keep hr2 (hb.block bb hbb2)) 0 _ rfl
                have e2 : ((i : Int) - 1).toNat = i - 1 := by omega
                have e3 : (i : Int) - 1 < ks.length := by omega
                generalize ks[i].kind = kd at *
                generalize ks[i - 1].kind = kp at *
                have HC := Lib.hid hcall
                clear hcall hq hstep hrem hr hr' hcs hnv hfk hsn hpt hrk h0
                cases y1 : (kd == 1)
                · have hfin : vldL false (ks.drop (i + 1)) 0 (prevText ks (i + 1)) = E := by rw [hE3, y1]; simp
                  have HFF := Lib.hid hfin
                  clear hfin hE3 hb hbox e2 hpj
                  go_wp2_with (first
                    | (with_reducible refine gate ?_; refine wp_load_node rfl _ rfl bb (off + i * 7) rfl _ rfl HRR.out ?_)
                    | (go_at_call 49; refine HC.out.mono ?_; rintro e w3 ⟨rfl, hb3⟩; have k4 := (hb3.cell (p := ⟨w.heap.size, 4, none⟩) hszy).trans c4; have kc := (hb3.cell (p := ⟨bb, off + i * 7, none⟩) hbw).trans hc0))
                  go_roundw
                  case rel => first | exact ⟨i + 1, by omega, by go_num, HFF.out, F2.out _ hb3⟩ | ((repeat apply Exists.intro); refine ⟨⟨i + 1, by omega, ?_, HFF.out, F2.out _ hb3⟩, rfl⟩; go_num)
                  case measure => simp [intOf]; omega
                · cases y2 : (kp == 1)
                  · have hfin : vldL false (ks.drop (i + 1)) 0 (prevText ks (i + 1)) = E := by rw [hE3, y2]; simp
                    have HFF := Lib.hid hfin
                    clear hfin hE3 hb hbox
                    go_wp2_with (first
                      | (with_reducible refine gate ?_; refine wp_load_node rfl _ rfl bb (off + i * 7) rfl _ rfl HRR.out ?_)
                      | (go_at_call 49; refine HC.out.mono ?_; rintro e w3 ⟨rfl, hb3⟩; have k4 := (hb3.cell (p := ⟨w.heap.size, 4, none⟩) hszy).trans c4; have kc := (hb3.cell (p := ⟨bb, off + i * 7, none⟩) hbw).trans hc0; have kp := (hb3.cell (p := ⟨bb, off + (i - 1) * 7, none⟩) hbw).trans hpj))
                    go_roundw
                    case rel => first | exact ⟨i + 1, by omega, by go_num, HFF.out, F2.out _ hb3⟩ | ((repeat apply Exists.intro); refine ⟨⟨i + 1, by omega, ?_, HFF.out, F2.out _ hb3⟩, rfl⟩; go_num)
                    case measure => simp [intOf]; omega
                  · have hF : E = false := by rw [hE3, y1, y2]; simp
                    have HF := Lib.hid hF
                    clear hF hE3 hb hbox
                    go_wp2_with (first
                      | (with_reducible refine gate ?_; refine wp_load_node rfl _ rfl bb (off + i * 7) rfl _ rfl HRR.out ?_)
                      | (go_at_call 49; refine HC.out.mono ?_; rintro e w3 ⟨rfl, hb3⟩; have k4 := (hb3.cell (p := ⟨w.heap.size, 4, none⟩) hszy).trans c4; have kc := (hb3.cell (p := ⟨bb, off + i * 7, none⟩) hbw).trans hc0; have kp := (hb3.cell (p := ⟨bb, off + (i - 1) * 7, none⟩) hbw).trans hpj))
                    go_ret
                    exact ⟨ret_bool HF.out.symm, (F2.out _ hb3).1⟩
          · obtain rfl : i = ks.length := by omega
            have hfin := hrem
            rw [List.drop_length, vldL] at hfin
            have HFF := Lib.hid hfin
            clear hfin hrem hb hbox
            go_wp2_with fail
            go_ret
            exact ⟨ret_bool HFF.out, HB.out⟩
end Go.Proofs.YtclhdppppgjgfaaGreatDoor
set_option linter.unusedVariables false
namespace Go.Proofs.YtclhdppppgjgfaaGreatDoor
open Go.RowKit

set_option maxHeartbeats 4000000 in
set_option maxRecDepth 100000 in
theorem write1_text (n : Node) (v : Value) (B b cl : Nat) (X : Bytes) (w : World) (hk : n.kind = 1) (hs : full n ≤ 1000000) (hw : Wr B b cl X w) (hv : NodeV w B n v) (hl : (X ++ canon n).length ≤ 140737488355328) :
    Calls Tryz.prog 54 #[v, .pointer (some ⟨b, 0, none⟩), .pointer (some ⟨cl, 0, none⟩)] w fun e w' => e = .returned (.tuple #[]) ∧ Wr B b cl (X ++ canon n) w' ∧ Fr9 B b w w' := by
  obtain ⟨A, cap, K, kcap, rfl, ha, hkk, hcap, hkcap⟩ := hv.open_
  have hp := (parts n hs).text
  rw [canon_text hk] at hl ⊢
  have t : (n.kind == 1) = true := by rw [hk]; rfl
  have hle := hw.le
  have hes := fun W => escText_any n.text W (by omega)
  have HW := Lib.hid hw
  have HES := Lib.hid hes
  rw [List.length_append] at hl
  generalize esc false n.text = E at *
  clear hk hs hv ha hkk hw hp hes
  go_enter Tryz.func54, Tryz.ntmps54
  go_wp2_with (first
    | (go_at_call 55; refine (HES.out _).mono ?_; rintro e w1 ⟨rfl, hb1⟩; have h1 := (HW.out.alloc _).next hb1; have f1 := ((Fr9.refl B b w).alloc hle _).next (by simp; omega) hb1)
    | (go_at_call 47; refine (wr_str E h1 hl).mono ?_; rintro e w2 ⟨rfl, h2, f2⟩))
  (try simp only [Exit.inBlock, Exit.then]); refine bodyPost_ret (results_none rfl _ _ _) rfl ?_
  exact ⟨rfl, h2, f1.trans f2⟩

set_option maxHeartbeats 4000000 in
set_option maxRecDepth 100000 in
theorem write1_any (m : Nat) : ∀ (n : Node) (v : Value) (B b cl : Nat) (X : Bytes) (w : World), nsz n ≤ m → full n ≤ 1000000 → Wr B b cl X w → NodeV w B n v → (X ++ canon n).length ≤ 140737488355328 →
    Calls Tryz.prog 54 #[v, .pointer (some ⟨b, 0, none⟩), .pointer (some ⟨cl, 0, none⟩)] w fun e w' => e = .returned (.tuple #[]) ∧ Wr B b cl (X ++ canon n) w' ∧ Fr9 B b w w' := by
  induction m with
  | zero => intro n v B b cl X w h; cases n; rw [nsz] at h; omega
  | succ m ih =>
    intro n v B b cl X w hm hs hw hv hl
    by_cases h1 : n.kind = 1
    · exact write1_text n v B b cl X w h1 hs hw hv hl
    obtain ⟨A, cap, K, kcap, rfl, ha, hk, hcap, hkcap⟩ := hv.open_
    have hp := parts n hs
    have hge := fun (i : Nat) (h : i < n.kids.length) => nsz_get n h
    have hcan := canon_elem h1
    have t : (n.kind == 1) = false := by rw [beq_eq_false_iff_ne]; exact h1
    have hkl : n.kids.length < 1000000 := hp.kids
    have hal : n.attrs.length < 1000000 := hp.attrs
    have hnl : n.name.length < 1000000 := hp.name
    have hle := hw.le
    have hbl := hw.bld.lt
    have hcl := hw.clt
    generalize hT : X ++ canon n = T at *
    rw [hcan] at hT
    have HIH := Lib.hid ih
    have HA := Lib.hid ha
    have HK := Lib.hid hk
    have HM := Lib.hid hm
    have HP := Lib.hid hp
    have HGE := Lib.hid hge
    have HTT := Lib.hid hT
    have HW := Lib.hid hw
    have hbne : w.heap.size ≠ b := by omega
    clear ih ha hk hm hp hge hT hw hv hs h1 hcan
    go_enter Tryz.func54, Tryz.ntmps54
    have hl1 : (X ++ ([60] ++ n.name)).length ≤ 140737488355328 := by rw [← HTT.out] at hl; simp only [List.length_append] at hl ⊢; omega
    rw [List.length_append] at hl1
    go_wp2_with (go_at_call 47; refine (wr_str ([60] ++ n.name) (HW.out.alloc _) hl1).mono ?_; rintro e w1 ⟨rfl, h1, f1⟩; have hb1 := f1.node hbne (heap_alloc_new w (nodeBox n A cap K kcap)); have c2 := (box_cells hb1).2.2.1; have c3 := (box_cells hb1).2.2.2.1; have c4 := (box_cells hb1).2.2.2.2.1)
    clear hl1
    have hst1 : (X ++ ([60] ++ n.name)) ++ (attsC (n.attrs.drop 0) ++ (if n.kids.length = 0 then [47, 62] else [62] ++ canonL n.kids ++ [60, 47] ++ n.name ++ [62])) = T := by rw [← HTT.out, List.drop_zero]; simp only [List.append_assoc]
    have f1' : Fr9 B b w w1 := ((Fr9.refl B b w).alloc hle _).trans f1
    have hsz1 : w.heap.size + 1 ≤ w1.heap.size := by simpa using f1.below.size
    have HB1 := Lib.hid hb1
    have HST1 := Lib.hid hst1
    have HF1 := Lib.hid f1'
    have H1 := Lib.hid h1
    generalize hW1 : (if n.kids.length = 0 then [47, 62] else [62] ++ canonL n.kids ++ [60, 47] ++ n.name ++ [62]) = Z at *
    have HZ := Lib.hid hW1
    clear hW1 c2 c3 c4 hb1 hst1 f1' f1 h1 HTT
    go_loopw [22] (fun i22 wr => ∃ (i : Nat) (Y : Bytes), i ≤ n.attrs.length ∧ i22 = .int .i64 i ∧ Wr B b cl Y wr ∧ Y ++ (attsC (n.attrs.drop i) ++ Z) = T ∧ Fr9 B b w wr ∧ wr.heap[w.heap.size]? = some (nodeBox n A cap K kcap)) (fun i22 _ => n.attrs.length - (intOf i22).toNat)
    case atStart => exact ⟨0, _, Nat.zero_le _, rfl, H1.out, HST1.out, HF1.out, HB1.out⟩
    case round =>
      obtain ⟨i, Y, hi, rfl, hwr, hY, hfr, hbox⟩ := hrel
      have hszr := hfr.below.size
      have hlr := hwr.le
      have HR := Lib.hid hwr
      have HY := Lib.hid hY
      have HFR := Lib.hid hfr
      have HBX := Lib.hid hbox
      have hszx : w.heap.size < wr.heap.size := (Array.getElem?_eq_some_iff.1 hbox).1
      by_cases hlt : i < n.attrs.length
      · obtain ⟨bb, off, hAA, hbb, hr⟩ := HA.out.at_ hlt
        subst hAA
        have hr' : wr.rangeAt bb (off + i * 4) (attCells n.attrs[i]) := rangeAt_keep hr (HFR.out.below.block bb hbb)
        have hav : n.attrs[i].value.length < 1000000 ∧ n.attrs[i].name.length < 1000000 := by have := HP.out.att n.attrs[i] (List.getElem_mem hlt); omega
        have hstep := attsC_step hlt
        rw [hstep] at hY
        generalize n.attrs[i] = a at *
        have hes := fun W => escAttr_any a.value W (by omega)
        have hY2 : (Y ++ attC a) ++ (attsC (n.attrs.drop (i + 1)) ++ Z) = T := by rw [← hY]; simp only [List.append_assoc]
        have hl2 : Y.length + (attC a).length ≤ 140737488355328 := by rw [← hY2] at hl; simp only [List.length_append] at hl ⊢; omega
        have hes6 := esc_len true a.value
        obtain ⟨hav1, hav2⟩ := hav
        unfold attC at hl2
        have HY2 := Lib.hid hY2
        have HRR := Lib.hid hr'
        have HES := Lib.hid hes
        clear hr hr' hY hY2 hes hstep hwr hfr hbox HST1 HB1 H1 HF1
        generalize hE : esc true a.value = E at *
        have HE := Lib.hid hE
        clear hE
        have HL2 := Lib.hid hl2
        clear hl2
        go_wp2_with (with_reducible refine gate ?_; refine wp_load_att rfl _ rfl bb (off + i * 4) rfl a HRR.out ?_)
        have hba := heap_alloc_new wr (.cells #[.string (S a.space), .string (S a.name), .string (S a.value), .int .i64 a.pos] 39)
        have d1 : (wr.alloc (.cells #[.string (S a.space), .string (S a.name), .string (S a.value), .int .i64 a.pos] 39)).drew.cell? ⟨wr.heap.size, 1, none⟩ = some (.string (S a.name)) := by
          rw [World.cell?_drew, Lib.cell_of_heap hba]; rfl
        have d2 : (wr.alloc (.cells #[.string (S a.space), .string (S a.name), .string (S a.value), .int .i64 a.pos] 39)).drew.cell? ⟨wr.heap.size, 2, none⟩ = some (.string (S a.value)) := by
          rw [World.cell?_drew, Lib.cell_of_heap hba]; rfl
        have hbba : wr.heap.size ≠ b := by have := HR.out.bld.lt; omega
        have hL2 := HL2.out
        simp only [List.length_append] at hL2
        obtain ⟨L1, e1⟩ : ∃ L1 : Bytes, L1 = [32] ++ a.name := ⟨_, rfl⟩
        obtain ⟨L2, e2⟩ : ∃ L2 : Bytes, L2 = L1 ++ [61, 34] := ⟨_, rfl⟩
        obtain ⟨L3, e3⟩ : ∃ L3 : Bytes, L3 = L2 ++ E := ⟨_, rfl⟩
        obtain ⟨L4, e4⟩ : ∃ L4 : Bytes, L4 = L3 ++ [34] := ⟨_, rfl⟩
        have g1 : ∀ W : World, (Op.stringOp .add ⟨#[32]⟩ (S a.name)).run Tryz.prog W = .ok (.string (S L1)) W := run_cat [32] a.name L1 e1 (by simp only [List.length_cons, List.length_nil]; omega)
        have g2 : ∀ W : World, (Op.stringOp .add (S L1) ⟨#[61, 34]⟩).run Tryz.prog W = .ok (.string (S L2)) W := run_cat L1 [61, 34] L2 e2 (by rw [e1]; simp only [List.length_append, List.length_cons, List.length_nil]; omega)
        have g3 : ∀ W : World, (Op.stringOp .add (S L2) (S E)).run Tryz.prog W = .ok (.string (S L3)) W := run_cat L2 E L3 e3 (by rw [e2, e1]; simp only [List.length_append, List.length_cons, List.length_nil]; omega)
        have g4 : ∀ W : World, (Op.stringOp .add (S L3) ⟨#[34]⟩).run Tryz.prog W = .ok (.string (S L4)) W := run_cat L3 [34] L4 e4 (by rw [e3, e2, e1]; simp only [List.length_append, List.length_cons, List.length_nil]; omega)
        have hL4 : [32] ++ a.name ++ [61, 34] ++ E ++ [34] = L4 := by rw [e4, e3, e2, e1]
        rw [hL4] at HL2
        have HL4 := Lib.hid hL4
        clear hL4 e1 e2 e3 e4 hL2
        go_region_held3 (fun x => x.cell? ⟨wr.heap.size, 1, none⟩ = some (.string (S a.name)) ∧ x.cell? ⟨wr.heap.size, 2, none⟩ = some (.string (S a.value)))
          (first | exact ⟨d1, d2⟩ | exact ⟨k1, k2⟩ | exact ⟨l1, l2⟩)
          (first
            | ((go_at_call 56; refine (HES.out _).mono ?_; rintro e w2 ⟨rfl, hb2⟩; have h2 := (HR.out.alloc _).drew.next hb2; have f2 := ((Fr9.refl B b wr).alloc hlr _).drew.next (by simp; omega) hb2; have hba2 := (hb2.block wr.heap.size (by simp)).trans hba; have k1 := (Lib.cell_of_heap hba2 1).trans rfl; have k2 := (Lib.cell_of_heap hba2 2).trans rfl))
            | ((go_at_call 47; refine (wr_str L4 h2 HL2.out).mono ?_; rintro e w3 ⟨rfl, h3, f3⟩; have hba3 := f3.att hbba hba2; have l1 := (Lib.cell_of_heap hba3 1).trans rfl; have l2 := (Lib.cell_of_heap hba3 2).trans rfl)))
        have hf23 := f2.trans f3
        have HF23 := Lib.hid hf23
        have H3 := Lib.hid h3
        clear hf23 h3 f3 h2 f2 k1 k2 l1 l2 d1 d2 hba hba2 hba3 hb2 g1 g2 g3 g4
        go_wp2_with fail
        go_roundw
        case rel =>
          refine ⟨i + 1, Y ++ L4, by omega, by go_num, H3.out, ?_, HFR.out.trans HF23.out, HF23.out.node hbne HBX.out⟩
          rw [← HL4.out, ← HE.out]
          exact HY2.out
        case measure => simp [intOf]; omega
      · obtain rfl : i = n.attrs.length := by omega
        rw [List.drop_length] at hY
        have hY2 : Y ++ Z = T := by rw [← hY]; rfl
        have HY2 := Lib.hid hY2
        have c4 := (box_cells hbox).2.2.2.2.1
        have c2 := (box_cells hbox).2.2.1
        clear hY HY hY2 hwr hfr hbox HST1 HB1 H1 HF1
        by_cases hk0 : n.kids.length = 0
        · have hZ := HZ.out
          rw [if_pos hk0] at hZ
          have hk1 : (((n.kids.length : Nat) : Int) == 0) = true := by rw [hk0]; rfl
          have hl2 : Y.length + ([47, 62] : Bytes).length ≤ 140737488355328 := by rw [← HY2.out, ← hZ] at hl; rw [← List.length_append]; exact hl
          have HZZ := Lib.hid hZ
          clear hZ hk0
          go_wp2_with (go_at_call 47; refine (wr_str [47, 62] HR.out hl2).mono ?_; rintro e w2 ⟨rfl, h2, f2⟩)
          (try simp only [Exit.inBlock, Exit.then]); refine bodyPost_ret (results_none rfl _ _ _) rfl ?_
          refine ⟨rfl, ?_, HFR.out.trans f2⟩
          rw [← HY2.out, ← HZZ.out]; exact h2
        · have hZ := HZ.out
          rw [if_neg hk0] at hZ
          have hk1 : (((n.kids.length : Nat) : Int) == 0) = false := by rw [beq_eq_false_iff_ne]; omega
          have hl2 : Y.length + 1 ≤ 140737488355328 := by rw [← HY2.out, ← hZ] at hl; simp only [List.length_append, List.length_cons, List.length_nil] at hl; omega
          have HZZ := Lib.hid hZ
          clear hZ hk0 HZ
          go_wp2_with (go_at_call 57; refine (wr_byte 62 HR.out (by omega) hl2).mono ?_; rintro e w2 ⟨rfl, h2, f2⟩; have hb2 := f2.node hbne HBX.out; have c4' := (box_cells hb2).2.2.2.2.1; have c2' := (box_cells hb2).2.2.1)
          have h2' : Wr B b cl (Y ++ [62]) w2 := h2
          have hst2 : (Y ++ [62]) ++ (canonL (n.kids.drop 0) ++ ([60, 47] ++ n.name ++ [62])) = T := by rw [← HY2.out, ← HZZ.out, List.drop_zero]; simp only [List.append_assoc]
          have HST2 := Lib.hid hst2
          have H2 := Lib.hid h2'
          have HF2 := Lib.hid (HFR.out.trans f2)
          have HB2 := Lib.hid hb2
          have hw2 := h2.le
          clear hst2 h2 h2' f2 hb2 c4' c2' c4 c2 hl2 HZZ HY2 HR HFR HBX
          go_loopw [46] (fun i46 wr => ∃ (i : Nat) (Y : Bytes), i ≤ n.kids.length ∧ i46 = .int .i64 i ∧ Wr B b cl Y wr ∧ Y ++ (canonL (n.kids.drop i) ++ ([60, 47] ++ n.name ++ [62])) = T ∧ Fr9 B b w wr ∧ wr.heap[w.heap.size]? = some (nodeBox n A cap K kcap)) (fun i46 _ => n.kids.length - (intOf i46).toNat)
          case atStart => exact ⟨0, _, Nat.zero_le _, rfl, H2.out, HST2.out, HF2.out, HB2.out⟩
          case round =>
            obtain ⟨i, Y, hi, rfl, hwr, hY, hfr, hbox⟩ := hrel
            clear HST2 H2 HF2 HB2 hlt
            have hszr2 := hfr.below.size
            have hlr2 := hwr.le
            have HR := Lib.hid hwr
            have HY := Lib.hid hY
            have HFR := Lib.hid hfr
            have HBX := Lib.hid hbox
            have c2 := (box_cells hbox).2.2.1
            have hszx2 : w.heap.size < wr.heap.size := (Array.getElem?_eq_some_iff.1 hbox).1
            have hclr := hwr.clt
            have hcne := hwr.ne
            by_cases hlt : i < n.kids.length
            · obtain ⟨bb, off, cs, hKK, hbb, hr, hcs⟩ := HK.out.at_ hlt
              subst hKK
              have hr' : wr.rangeAt bb (off + i * 7) cs := rangeAt_keep hr (HFR.out.below.block bb hbb)
              have hnv : NodeV w B n.kids[i] (.agg cs.toArray) := ⟨cs, rfl, hcs⟩
              have hfk : full n.kids[i] ≤ 1000000 := by have := HP.out.kid n.kids[i] (List.getElem_mem hlt); omega
              have hsn : nsz n.kids[i] ≤ m := by have := HGE.out i hlt; have := HM.out; omega
              have hstep := canonL_step hlt
              rw [hstep] at hY
              generalize n.kids[i] = kid at *
              have hY2 : (Y ++ canon kid) ++ (canonL (n.kids.drop (i + 1)) ++ ([60, 47] ++ n.name ++ [62])) = T := by rw [← hY]; simp only [List.append_assoc]
              have hl2 : (Y ++ canon kid).length ≤ 140737488355328 := by rw [← hY2] at hl; rw [List.length_append] at hl; omega
              have hcall := fun W => fun (h1 : Wr B b cl Y W) (h2 : Below B w W) => HIH.out kid (.agg cs.toArray) B b cl Y W hsn hfk h1 (hnv.keep h2.block (Nat.le_refl _)) hl2
              obtain ⟨A', c', K', d', rfl, _, _, _, _⟩ := hcs.open_
              have HC := Lib.hid hcall
              have HY2 := Lib.hid hY2
              have HRR := Lib.hid hr'
              have ccA : ∀ o, (wr.alloc o).cell? ⟨cl, 0, none⟩ = some (wFn b cl) := fun o => (HR.out.alloc o).cell
              clear hr hr' hcs hnv hfk hsn hstep hY hY2 hl2 hcall hwr hfr hbox HY c2
              go_wp2_with (first
                | (with_reducible refine gate ?_; refine wp_load_node rfl _ rfl bb (off + i * 7) rfl _ rfl HRR.out ?_)
                | (go_at_call 54; refine (HC.out _ (HR.out.alloc _) (HFR.out.below.alloc (by omega) _)).mono ?_; rintro e w3 ⟨rfl, h3, f3⟩))
              have hf23 : Fr9 B b wr w3 := ((Fr9.refl B b wr).alloc hlr2 _).trans f3
              have HF23 := Lib.hid hf23
              have H3 := Lib.hid h3
              clear hf23 h3 f3
              go_roundw
              case rel => exact ⟨i + 1, _, by omega, by go_num, H3.out, HY2.out, HFR.out.trans HF23.out, HF23.out.node hbne HBX.out⟩
              case measure => simp [intOf]; omega
            · obtain rfl : i = n.kids.length := by omega
              rw [List.drop_length] at hY
              have hY2 : Y ++ ([60, 47] ++ n.name ++ [62]) = T := by rw [← hY]; rfl
              obtain ⟨L1, e1⟩ : ∃ L1 : Bytes, L1 = [60, 47] ++ n.name := ⟨_, rfl⟩
              obtain ⟨L2, e2⟩ : ∃ L2 : Bytes, L2 = L1 ++ [62] := ⟨_, rfl⟩
              have g1 : ∀ W : World, (Op.stringOp .add ⟨#[60, 47]⟩ (S n.name)).run Tryz.prog W = .ok (.string (S L1)) W := run_cat [60, 47] n.name L1 e1 (by simp only [List.length_cons, List.length_nil]; omega)
              have g2 : ∀ W : World, (Op.stringOp .add (S L1) ⟨#[62]⟩).run Tryz.prog W = .ok (.string (S L2)) W := run_cat L1 [62] L2 e2 (by rw [e1]; simp only [List.length_append, List.length_cons, List.length_nil]; omega)
              rw [← e1, ← e2] at hY2
              have hl2 : Y.length + L2.length ≤ 140737488355328 := by rw [← List.length_append, hY2]; exact hl
              have HY2 := Lib.hid hY2
              clear e1 e2 hY hY2 HY
              go_wp2_with (go_at_call 47; refine (wr_str L2 HR.out hl2).mono ?_; rintro e w2 ⟨rfl, h2, f2⟩)
              go_end0
              refine ⟨rfl, ?_, hfr.trans f2⟩
              rw [← HY2.out]; exact h2
end Go.Proofs.YtclhdppppgjgfaaGreatDoor
