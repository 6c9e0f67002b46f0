/-
  Several texts in one file, in build order:
  - Walk of chapter 9: the reference's valid, at character data.
  - Walk of chapter 9: the reference's valid, at an element.
  - Walk of chapter 9: the reference's valid, an element with a good head.
  - Walks of chapter 9: the reference's Check and Write.
  - Walks of chapter 7's statements: how much a tree weighs, and whether it is too large.
  - Walk of chapter 7's reference: the comparison of two trees.
  - Walk of chapter 7's reference: the comparison of two trees, without offsets.
  - Walks of chapter 9's statements: MatchesReference, IsInjective.
  - Walk of chapter 7's reference: the comparison of two trees, with offsets.
  - Walks of chapter 9's statements: IsInjective.
  - Walk of chapter 9: the reference's With.
  - Walk of chapter 9: the reference's Elem.
-/
import Derived.WalkSpells
import Derived.WalkLawsBesides
import Derived.StillTailTactics
import Derived.Deep.RegionLaw
import Derived.Deep.QuietTactic
import Derived.BigQuiet
import Derived.Deep.DeepCutAuto
import Derived.Test.YthilaolkkamedaaDoorF3
set_option linter.unusedVariables false
namespace Go.Proofs.YthilaolkkamedaaDoor
open Go.RowKit

/-- What the reference asks of a node within a tree. -/
def rvl (n : Node) : Bool := if n.kind == 1 then dataOk n else vld false n 0

set_option maxHeartbeats 4000000 in
set_option maxRecDepth 200000 in
theorem refValid_text (n : Node) (v : Value) (w : World) (hk1 : n.kind = 1) (hs : full n ≤ 1000000) (hv : NodeV w w.heap.size n v) :
    Calls Tryd.prog 29 #[v] w fun e w' => e = .returned (.bool (dataOk n)) ∧ Below w.heap.size w w' := by
  obtain ⟨A, cap, K, kcap, rfl, ha, hkk, hcap, hkcap⟩ := hv.open_
  have hpt : n.text.length < 1000000 := (parts n hs).text
  have hch := fun W => refChars_any n.text W (by omega)
  obtain ⟨k, s, nm, ats, ks, t, p⟩ := n
  simp only [Node.kind, Node.space, Node.name, Node.attrs, Node.kids, Node.text, Node.pos] at *
  subst hk1
  have hd : dataOk (.mk 1 s nm ats ks t p) = (t != [] && charsOk t && s == [] && nm == [] && ats.length == 0 && ks.length == 0) := rfl
  generalize dataOk (.mk 1 s nm ats ks t p) = E at *
  have F1 : Hid (∀ o, Below w.heap.size w (w.alloc o)) := fun o => (Below.refl _ _).alloc (Nat.le_refl _) o
  clear ha hkk hs hv
  by_cases g1 : t = []
  · subst g1
    have hF : E = false := by rw [hd]; rfl
    have HF := Lib.hid hF
    clear hF hd hch
    go_enter Tryd.func29, Tryd.ntmps29
    go_wp2_with fail
    go_ret
    exact ⟨ret_bool HF.out.symm, F1.out _⟩
  · have e0 : List.isEmpty t = false := by cases t with
      | nil => exact (g1 rfl).elim
      | cons a l => rfl
    cases g2 : charsOk t
    · rw [g2] at hch hd
      have HC := Lib.hid hch
      clear hch g2
      have hF : E = false := by rw [hd]; simp
      have HF := Lib.hid hF
      clear hF hd
      go_enter Tryd.func29, Tryd.ntmps29
      go_wp2_with (go_at_call 37; refine (HC.out _).mono ?_; rintro e w1 ⟨rfl, hb1⟩; have k1 := hb1.cell (p := ⟨w.heap.size, 1, none⟩) (by simp); have k2 := hb1.cell (p := ⟨w.heap.size, 2, none⟩) (by simp); have k3 := hb1.cell (p := ⟨w.heap.size, 3, none⟩) (by simp); have k4 := hb1.cell (p := ⟨w.heap.size, 4, none⟩) (by simp))
      go_ret
      exact ⟨ret_bool HF.out.symm, (F1.out _).trans (hb1.mono (by simp))⟩
    · rw [g2] at hch hd
      have HC := Lib.hid hch
      clear hch g2
      by_cases g3 : s = []
      · subst g3
        by_cases g4 : nm = []
        · subst g4
          by_cases g5 : ats.length = 0
          · have t5 : (((ats.length : Nat) : Int) == 0) = true := by rw [g5]; rfl
            by_cases g6 : ks.length = 0
            · have t6 : (((ks.length : Nat) : Int) == 0) = true := by rw [g6]; rfl
              have hF : E = true := by rw [hd, g5, g6]; simp [g1]
              have HF := Lib.hid hF
              clear hF hd g5 g6 g1
              go_enter Tryd.func29, Tryd.ntmps29
              go_wp2_with (go_at_call 37; refine (HC.out _).mono ?_; rintro e w1 ⟨rfl, hb1⟩; have k1 := hb1.cell (p := ⟨w.heap.size, 1, none⟩) (by simp); have k2 := hb1.cell (p := ⟨w.heap.size, 2, none⟩) (by simp); have k3 := hb1.cell (p := ⟨w.heap.size, 3, none⟩) (by simp); have k4 := hb1.cell (p := ⟨w.heap.size, 4, none⟩) (by simp))
              go_ret
              exact ⟨ret_bool HF.out.symm, (F1.out _).trans (hb1.mono (by simp))⟩
            · have t6 : (((ks.length : Nat) : Int) == 0) = false := by rw [beq_eq_false_iff_ne]; omega
              have hF : E = false := by rw [hd, show (ks.length == 0) = false from by rw [beq_eq_false_iff_ne]; omega]; simp
              have HF := Lib.hid hF
              clear hF hd g5 g6 g1
              go_enter Tryd.func29, Tryd.ntmps29
              go_wp2_with (go_at_call 37; refine (HC.out _).mono ?_; rintro e w1 ⟨rfl, hb1⟩; have k1 := hb1.cell (p := ⟨w.heap.size, 1, none⟩) (by simp); have k2 := hb1.cell (p := ⟨w.heap.size, 2, none⟩) (by simp); have k3 := hb1.cell (p := ⟨w.heap.size, 3, none⟩) (by simp); have k4 := hb1.cell (p := ⟨w.heap.size, 4, none⟩) (by simp))
              go_ret
              exact ⟨ret_bool HF.out.symm, (F1.out _).trans (hb1.mono (by simp))⟩
          · have t5 : (((ats.length : Nat) : Int) == 0) = false := by rw [beq_eq_false_iff_ne]; omega
            have hF : E = false := by rw [hd, show (ats.length == 0) = false from by rw [beq_eq_false_iff_ne]; omega]; simp
            have HF := Lib.hid hF
            clear hF hd g5 g1
            go_enter Tryd.func29, Tryd.ntmps29
            go_wp2_with (go_at_call 37; refine (HC.out _).mono ?_; rintro e w1 ⟨rfl, hb1⟩; have k1 := hb1.cell (p := ⟨w.heap.size, 1, none⟩) (by simp); have k2 := hb1.cell (p := ⟨w.heap.size, 2, none⟩) (by simp); have k3 := hb1.cell (p := ⟨w.heap.size, 3, none⟩) (by simp); have k4 := hb1.cell (p := ⟨w.heap.size, 4, none⟩) (by simp))
            go_ret
            exact ⟨ret_bool HF.out.symm, (F1.out _).trans (hb1.mono (by simp))⟩
        · have e4 : List.isEmpty nm = false := by cases nm with
            | nil => exact (g4 rfl).elim
            | cons a l => rfl
          have hF : E = false := by rw [hd]; simp [g4]
          have HF := Lib.hid hF
          clear hF hd g4 g1
          go_enter Tryd.func29, Tryd.ntmps29
          go_wp2_with (go_at_call 37; refine (HC.out _).mono ?_; rintro e w1 ⟨rfl, hb1⟩; have k1 := hb1.cell (p := ⟨w.heap.size, 1, none⟩) (by simp); have k2 := hb1.cell (p := ⟨w.heap.size, 2, none⟩) (by simp); have k3 := hb1.cell (p := ⟨w.heap.size, 3, none⟩) (by simp); have k4 := hb1.cell (p := ⟨w.heap.size, 4, none⟩) (by simp))
          go_ret
          exact ⟨ret_bool HF.out.symm, (F1.out _).trans (hb1.mono (by simp))⟩
      · have e3 : List.isEmpty s = false := by cases s with
          | nil => exact (g3 rfl).elim
          | cons a l => rfl
        have hF : E = false := by rw [hd]; simp [g3]
        have HF := Lib.hid hF
        clear hF hd g3 g1
        go_enter Tryd.func29, Tryd.ntmps29
        go_wp2_with (go_at_call 37; refine (HC.out _).mono ?_; rintro e w1 ⟨rfl, hb1⟩; have k1 := hb1.cell (p := ⟨w.heap.size, 1, none⟩) (by simp); have k2 := hb1.cell (p := ⟨w.heap.size, 2, none⟩) (by simp); have k3 := hb1.cell (p := ⟨w.heap.size, 3, none⟩) (by simp); have k4 := hb1.cell (p := ⟨w.heap.size, 4, none⟩) (by simp))
        go_ret
        exact ⟨ret_bool HF.out.symm, (F1.out _).trans (hb1.mono (by simp))⟩
end Go.Proofs.YthilaolkkamedaaDoor
set_option linter.unusedVariables false
namespace Go.Proofs.YthilaolkkamedaaDoor
open Go.RowKit

set_option maxHeartbeats 4000000 in
set_option maxRecDepth 200000 in
/-- An element whose head is amiss. -/
theorem refValid_head (n : Node) (v : Value) (w : World) (hk1 : ¬ n.kind = 1) (hs : full n ≤ 1000000) (hv : NodeV w w.heap.size n v) (hh : (n.kind == 0 && n.space == [] && n.text == [] && isQName n.name) = false) :
    Calls Tryd.prog 29 #[v] w fun e w' => e = .returned (.bool false) ∧ Below w.heap.size w w' := by
  obtain ⟨A, cap, K, kcap, rfl, ha, hkk, hcap, hkcap⟩ := hv.open_
  have hpn : n.name.length < 1000000 := (parts n hs).name
  have hq := fun W => refIsQName_any n.name W (by omega)
  obtain ⟨k, s, nm, ats, ks, t, p⟩ := n
  simp only [Node.kind, Node.space, Node.name, Node.attrs, Node.kids, Node.text, Node.pos] at *
  have t1 : (k == 1) = false := by rw [beq_eq_false_iff_ne]; exact hk1
  have F1 : Hid (∀ o, Below w.heap.size w (w.alloc o)) := fun o => (Below.refl _ _).alloc (Nat.le_refl _) o
  clear ha hkk hs hv hk1
  by_cases h1 : k = 0
  · subst h1
    by_cases h3 : s = []
    · subst h3
      by_cases h4 : t = []
      · subst h4
        have h5 : isQName nm = false := by simpa using hh
        rw [h5] at hq
        have HQ := Lib.hid hq
        clear hq hh h5
        go_enter Tryd.func29, Tryd.ntmps29
        go_wp2_with (go_at_call 38; refine (HQ.out _).mono ?_; rintro e w1 ⟨rfl, hb1⟩)
        go_ret
        exact ⟨rfl, (F1.out _).trans (hb1.mono (by simp))⟩
      · have e4 : List.isEmpty t = false := by cases t with
          | nil => exact (h4 rfl).elim
          | cons a l => rfl
        clear hq hh
        go_enter Tryd.func29, Tryd.ntmps29
        go_wp2_with fail
        go_ret
        exact ⟨rfl, F1.out _⟩
    · have e3 : List.isEmpty s = false := by cases s with
        | nil => exact (h3 rfl).elim
        | cons a l => rfl
      clear hq hh
      go_enter Tryd.func29, Tryd.ntmps29
      go_wp2_with fail
      go_ret
      exact ⟨rfl, F1.out _⟩
  · have t0 : (k == 0) = false := by rw [beq_eq_false_iff_ne]; exact h1
    have t2 : (k != 0) = true := by rw [bne, t0]; rfl
    clear hq hh h1
    go_enter Tryd.func29, Tryd.ntmps29
    go_wp2_with fail
    go_ret
    exact ⟨rfl, F1.out _⟩
end Go.Proofs.YthilaolkkamedaaDoor
set_option linter.unusedVariables false
namespace Go.Proofs.YthilaolkkamedaaDoor
open Go.RowKit

def names (l : List Att) : List Bytes := l.map Att.name
theorem names_take {l : List Att} {i : Nat} (h : i < l.length) : ∀ x, x ∈ (l[i].name :: names (l.take i)) ↔ x ∈ names (l.take (i + 1)) := by
  intro x
  simp only [names, ← List.take_append_getElem h, List.map_append, List.mem_append, List.map_cons, List.map_nil, List.mem_cons, List.not_mem_nil, or_false]
  exact or_comm
theorem attsOk_at {l : List Att} {i : Nat} (h : i < l.length) : attsOkS (names (l.take i)) (l.drop i) = (l[i].space == [] && !(names (l.take i)).contains l[i].name && isQName l[i].name && charsOk l[i].value && attsOkS (names (l.take (i + 1))) (l.drop (i + 1))) := by
  rw [attsOkS_step h, attsOkS_perm _ _ _ (names_take h)]

theorem below_drewN' {B : Nat} {w w' : World} (h : Below B w w') (n : Nat) : Below B w (w'.drewN n) := ⟨h.os, h.tape, h.output, h.size, h.block⟩
/-- Is the kid ahead of place i character data? -/
def prevText (ks : List Node) (i : Nat) : Bool := match i with
  | 0 => false
  | j + 1 => (ks[j]?.map (fun k => k.kind == 1)).getD false
theorem prevText_succ {ks : List Node} {i : Nat} (h : i < ks.length) : prevText ks (i + 1) = (ks[i].kind == 1) := by simp [prevText, h]
theorem prevText_pos {ks : List Node} {i : Nat} (h : i < ks.length) (h0 : 0 < i) : prevText ks i = (ks[i - 1].kind == 1) := by
  obtain ⟨j, rfl⟩ : ∃ j, i = j + 1 := ⟨i - 1, by omega⟩
  simp [prevText, show j < ks.length by omega]

set_option maxHeartbeats 4000000 in
set_option maxRecDepth 200000 in
theorem refValid_any (m : Nat) : ∀ (n : Node) (v : Value) (w : World), nsz n ≤ m → full n ≤ 1000000 → NodeV w w.heap.size n v →
    Calls Tryd.prog 29 #[v] w fun e w' => e = .returned (.bool (rvl n)) ∧ Below w.heap.size w w' := by
  induction m with
  | zero => intro n v w h; cases n; rw [nsz] at h; omega
  | succ m ih =>
    intro n v w hm hs hv
    by_cases hk1 : n.kind = 1
    · rw [rvl, if_pos (by rw [hk1]; rfl)]; exact refValid_text n v w hk1 hs hv
    have t1 : (n.kind == 1) = false := by rw [beq_eq_false_iff_ne]; exact hk1
    have hE : rvl n = (headOk n && vldL false n.kids 0 false) := by rw [rvl, t1, if_neg (by decide), vld_eq]; simp
    cases hh : (n.kind == 0 && n.space == [] && n.text == [] && isQName n.name)
    · have hF : rvl n = false := by rw [hE, headOk, hh]; simp
      rw [hF]; exact refValid_head n v w hk1 hs hv hh
    rw [hE, headOk, hh, Bool.true_and]
    clear hE
    obtain ⟨A, cap, K, kcap, rfl, ha, hk, hcap, hkcap⟩ := hv.open_
    have hp := parts n hs
    have hq := fun W => refIsQName_any n.name W (by have := hp.name; omega)
    have hge := fun (i : Nat) (h : i < n.kids.length) => nsz_get n h
    simp only [Bool.and_eq_true, beq_iff_eq] at hh
    obtain ⟨⟨⟨h1, h2⟩, h3⟩, h4⟩ := hh
    rw [h4] at hq
    have hkl : n.kids.length < 1000000 := hp.kids
    have hal : n.attrs.length < 1000000 := hp.attrs
    have t0 : (n.kind == 0) = true := by rw [h1]; rfl
    have t2 : (n.kind != 0) = false := by rw [bne, t0]; rfl
    have HIH := Lib.hid ih
    have HQ := Lib.hid hq
    have HA := Lib.hid ha
    have HK := Lib.hid hk
    have HM := Lib.hid hm
    have HP := Lib.hid hp
    have HGE := Lib.hid hge
    have F1 : Hid (∀ o, Below w.heap.size w (w.alloc o)) := fun o => (Below.refl _ _).alloc (Nat.le_refl _) o
    obtain ⟨k, s, nm, ats, ks, t, p⟩ := n
    simp only [Node.kind, Node.space, Node.name, Node.attrs, Node.kids, Node.text, Node.pos] at *
    subst h2 h3
    clear ih hq ha hk hm hp hge hs hv hk1 h1 h4
    generalize hE : (attsOk ats && vldL false ks 0 false) = E at *
    have HE := Lib.hid hE
    clear hE
    go_enter Tryd.func29, Tryd.ntmps29
    go_wp2_with (go_at_call 38; refine (HQ.out _).mono ?_; rintro e w1 ⟨rfl, hb1⟩)
    have hb0 : w1.heap[w.heap.size]? = some (nodeBox (.mk k [] nm ats ks [] p) A cap K kcap) := (hb1.block w.heap.size (by simp)).trans (heap_alloc_new w _)
    have HB0 := Lib.hid hb0
    have HB1 := Lib.hid ((F1.out _).trans (hb1.mono (show w.heap.size ≤ (w.alloc _).heap.size by simp)))
    clear hb0 hb1
    go_loopw [3] (fun i3 wr => ∃ i : Nat, i ≤ ats.length ∧ i3 = .int .i64 i ∧ (attsOkS (names (ats.take i)) (ats.drop i) && vldL false ks 0 false) = E ∧ Below w.heap.size w wr ∧ wr.heap[w.heap.size]? = some (nodeBox (.mk k [] nm ats ks [] p) A cap K kcap)) (fun i3 _ => ats.length - (intOf i3).toNat)
    case atStart => exact ⟨0, Nat.zero_le _, rfl, HE.out, HB1.out, HB0.out⟩
    case round =>
      obtain ⟨i, hi, rfl, hrem, hb, hbox⟩ := hrel
      clear HE HB1 HB0
      have hszx : w.heap.size < wr.heap.size := (Array.getElem?_eq_some_iff.1 hbox).1
      have HB := Lib.hid hb
      have HBX := Lib.hid hbox
      have HR := Lib.hid hrem
      have c3 := (box_cells hbox).2.2.2.1
      dsimp only [Node.attrs] at c3
      by_cases hlt : i < ats.length
      · obtain ⟨bb, off, hAA, hbb, hr⟩ := HA.out.at_ hlt
        subst hAA
        have hr' : wr.rangeAt bb (off + i * 4) (attCells ats[i]) := rangeAt_keep hr (HB.out.block bb hbb)
        have hav : ats[i].value.length < 1000000 ∧ ats[i].name.length < 1000000 := by
          have h := HP.out.att ats[i] (List.getElem_mem hlt)
          omega
        have hstep := attsOk_at hlt
        rw [hstep] at hrem
        have hnn := names_take hlt
        generalize ha : ats[i] = a at *
        obtain ⟨hav1, hav2⟩ := hav
        have hq2 := fun W => refIsQName_any a.name W (by omega)
        have hc2 := fun W => refChars_any a.value W (by omega)
        have F2 : Hid (∀ o, Below w.heap.size w (wr.alloc o)) := fun o => HB.out.alloc (Nat.le_of_lt hszx) _
        have HRR := Lib.hid hr'
        have HAI := Lib.hid ha
        have hlt' : (i : Int) < ats.length := by omega
        clear hr hr' hstep hb hbox HR HQ hnn ha
        by_cases g1 : a.space = []
        · rw [g1] at hrem
          cases g2 : isQName a.name
          · rw [g2] at hq2 hrem
            have hF : E = false := by rw [← hrem]; simp
            have HF := Lib.hid hF
            have HQ := Lib.hid hq2
            clear hF hrem hq2 hc2 g2
            go_wp2_with (first
              | (with_reducible refine gate ?_; refine wp_load_att rfl _ rfl bb (off + i * 4) rfl a HRR.out ?_)
              | (go_at_call 38; refine (HQ.out _).mono ?_; rintro e w2 ⟨rfl, hb2⟩))
            go_ret
            exact ⟨ret_bool HF.out.symm, (F2.out _).trans (hb2.mono (by simp; omega))⟩
          · rw [g2] at hq2 hrem
            have HQ := Lib.hid hq2
            clear hq2 g2
            cases g3 : charsOk a.value
            · rw [g3] at hc2 hrem
              have hF : E = false := by rw [← hrem]; simp
              have HF := Lib.hid hF
              have HC := Lib.hid hc2
              clear hF hrem hc2 g3
              go_wp2_with (first
                | (with_reducible refine gate ?_; refine wp_load_att rfl _ rfl bb (off + i * 4) rfl a HRR.out ?_)
                | (go_at_call 38; refine (HQ.out _).mono ?_; rintro e w2 ⟨rfl, hb2⟩; have k2 := hb2.cell (p := ⟨wr.heap.size, 2, none⟩) (by simp); have hz2 : wr.heap.size + 1 ≤ w2.heap.size := by simpa using hb2.size)
                | (go_at_call 37; refine (HC.out _).mono ?_; rintro e w3 ⟨rfl, hb3⟩))
              go_ret
              exact ⟨ret_bool HF.out.symm, ((F2.out _).trans (hb2.mono (by simp; omega))).trans (hb3.mono (by omega))⟩
            · rw [g3] at hc2 hrem
              have HC := Lib.hid hc2
              have HR2 := Lib.hid hrem
              clear hrem hc2 g3
              go_wp2_with (first
                | (with_reducible refine gate ?_; refine wp_load_att rfl _ rfl bb (off + i * 4) rfl a HRR.out ?_)
                | (go_at_call 38; refine (HQ.out _).mono ?_; rintro e w2 ⟨rfl, hb2⟩; have k2 := hb2.cell (p := ⟨wr.heap.size, 2, none⟩) (by simp); have hz2 : wr.heap.size + 1 ≤ w2.heap.size := by simpa using hb2.size)
                | (go_at_call 37; refine (HC.out _).mono ?_; rintro e w3 ⟨rfl, hb3⟩))
              have hbw : Below w.heap.size w w3 := ((F2.out _).trans (hb2.mono (by simp; omega))).trans (hb3.mono (by omega))
              have hab : w3.heap[wr.heap.size]? = some (.cells #[.string (S []), .string (S a.name), .string (S a.value), .int .i64 a.pos] 37) :=
                (hb3.block wr.heap.size (by omega)).trans ((hb2.block wr.heap.size (by simp)).trans (heap_alloc_new wr _))
              have hnb : w3.heap[w.heap.size]? = some (nodeBox (.mk k [] nm ats ks [] p) (some ⟨bb, off, none⟩) cap K kcap) :=
                (hb3.block w.heap.size (by omega)).trans ((hb2.block w.heap.size (by simp; omega)).trans ((Lib.alloc_old wr _ w.heap.size hszx).trans HBX.out))
              have HBW := Lib.hid hbw
              have HAB := Lib.hid hab
              have HNB := Lib.hid hnb
              have hdn : ∀ j, j < i → (h : j < ats.length) → True := fun _ _ _ => trivial
              clear hbw hab hnb hb2 hb3 k2 hdn HB HBX HRR
              obtain ⟨wo, rfl⟩ : ∃ wo : World, wo = wr := ⟨_, rfl⟩
              go_loopw [5] (fun i5 wr => ∃ j : Nat, j ≤ i ∧ i5 = .int .i64 j ∧ (names (ats.take j)).contains a.name = false ∧ Below w.heap.size w wr ∧ wr.heap[w.heap.size]? = some (nodeBox (.mk k [] nm ats ks [] p) (some ⟨bb, off, none⟩) cap K kcap) ∧ wr.heap[wo.heap.size]? = some (.cells #[.string (S []), .string (S a.name), .string (S a.value), .int .i64 a.pos] 37)) (fun i5 _ => i - (intOf i5).toNat)
              case atStart => exact ⟨0, Nat.zero_le _, rfl, rfl, HBW.out, HNB.out, HAB.out⟩
              case round =>
                obtain ⟨j, hj, rfl, hnin, hb, hbox, habx⟩ := hrel
                clear HBW HNB HAB
                have hszy : w.heap.size < wr.heap.size := (Array.getElem?_eq_some_iff.1 hbox).1
                have HB2 := Lib.hid hb
                have HBX2 := Lib.hid hbox
                have HAX := Lib.hid habx
                have c3 := (box_cells hbox).2.2.2.1
                dsimp only [Node.attrs] at c3
                have c1 : wr.cell? ⟨wo.heap.size, 1, none⟩ = some (.string (S a.name)) := by rw [Lib.cell_of_heap habx]; rfl
                by_cases hlt2 : j < i
                · have hj' : j < ats.length := by omega
                  obtain ⟨bb2, off2, hAA2, hbb2, hr2⟩ := HA.out.at_ hj'
                  cases hAA2
                  have d1 : wr.cell? ⟨bb, off + j * 4 + 1, none⟩ = some (.string (S ats[j].name)) := rangeAt_keep hr2 (hb.block bb hbb2) 1 _ rfl
                  have hnx := names_take hj'
                  generalize ats[j].name = nj at *
                  have hji : (j : Int) < ats.length := by omega
                  have hji2 : (j : Int) < i := by omega
                  by_cases g : nj = a.name
                  · have hin : (names (ats.take i)).contains a.name = true := by
                      have h1 : nj ∈ names (ats.take (j + 1)) := (hnx nj).1 (by simp)
                      rw [g] at h1
                      have h2 : ∀ x ∈ names (ats.take (j + 1)), x ∈ names (ats.take i) := by
                        unfold names
                        rw [show ats.take (j + 1) = (ats.take i).take (j + 1) from by rw [List.take_take, Nat.min_eq_left (by omega)]]
                        intro x hx
                        rw [List.mem_map] at hx ⊢
                        obtain ⟨y, hy, e⟩ := hx
                        exact ⟨y, List.mem_of_mem_take hy, e⟩
                      simpa using h2 _ h1
                    have hF : E = false := by rw [← HR2.out, hin]; simp
                    have HF := Lib.hid hF
                    have y : (nj == a.name) = true := by rw [g]; simp
                    clear hF hin hnx g hr2 hb hbox habx hnin
                    go_wp2_with fail
                    go_quiet (fail)
                    go_wp2
                    go_ret
                    exact ⟨ret_bool HF.out.symm, below_drewN' HB2.out _⟩
                  · have hnin2 : (names (ats.take (j + 1))).contains a.name = false := by
                      rw [Bool.eq_false_iff] at hnin ⊢
                      intro h
                      apply hnin
                      have h1 : a.name ∈ names (ats.take (j + 1)) := by simpa using h
                      rcases List.mem_cons.1 ((hnx a.name).2 h1) with h2 | h2
                      · exact absurd h2.symm g
                      · simpa using h2
                    have HNI := Lib.hid hnin2
                    have y : (nj == a.name) = false := by rw [beq_eq_false_iff_ne]; exact g
                    clear hnin2 hnx g hr2 hb hbox habx hnin
                    go_wp2_with fail
                    go_quiet (fail)
                    go_wp2
                    go_roundw
                    case rel => exact ⟨j + 1, by omega, by go_num, HNI.out, below_drewN' HB2.out _, HBX2.out, HAX.out⟩
                    case measure => simp [intOf]; omega
                · obtain rfl : j = i := by omega
                  have hE2 : (attsOkS (names (ats.take (j + 1))) (ats.drop (j + 1)) && vldL false ks 0 false) = E := by
                    rw [← HR2.out, hnin]; simp
                  have HE2 := Lib.hid hE2
                  clear hE2 hb hbox habx hnin
                  go_wp2_with fail
                  go_roundw
                  case rel => exact ⟨j + 1, by omega, by go_num, HE2.out, HB2.out, HBX2.out⟩
                  case measure => simp [intOf]; omega
        · have e1 : List.isEmpty a.space = false := by cases hsp : a.space with
            | nil => exact (g1 hsp).elim
            | cons x l => rfl
          have hF : E = false := by rw [← hrem]; simp [g1]
          have HF := Lib.hid hF
          clear hF hrem hq2 hc2 g1
          go_wp2_with (with_reducible refine gate ?_; refine wp_load_att rfl _ rfl bb (off + i * 4) rfl a HRR.out ?_)
          go_ret
          exact ⟨ret_bool HF.out.symm, F2.out _⟩
      · obtain rfl : i = ats.length := by omega
        have hrem2 : vldL false (ks.drop 0) 0 false = E := by rw [← hrem, List.drop_length, attsOkS, List.drop_zero]; rfl
        have HR2 := Lib.hid hrem2
        obtain ⟨wo, rfl⟩ : ∃ wo : World, wo = wr := ⟨_, rfl⟩
        clear hrem hrem2 hb hbox HR
        go_wp2_with fail
        clear c3
        go_loopw [6] (fun i6 wr => ∃ i : Nat, i ≤ ks.length ∧ i6 = .int .i64 i ∧ vldL false (ks.drop i) 0 (prevText ks i) = E ∧ Below w.heap.size w wr ∧ wr.heap[w.heap.size]? = some (nodeBox (.mk k [] nm ats ks [] p) A cap K kcap)) (fun i6 _ => ks.length - (intOf i6).toNat)
        case atStart => exact ⟨0, Nat.zero_le _, rfl, HR2.out, HB.out, HBX.out⟩
        case round =>
          obtain ⟨i, hi, rfl, hrem, hb, hbox⟩ := hrel
          clear HR2 HB HBX
          have hszy : w.heap.size < wr.heap.size := (Array.getElem?_eq_some_iff.1 hbox).1
          have HB := Lib.hid hb
          have HBX := Lib.hid hbox
          have c4 := (box_cells hbox).2.2.2.2.1
          dsimp only [Node.kids] at c4
          by_cases hlt : i < ks.length
          · obtain ⟨bb, off, cs, hKK, hbb, hr, hcs⟩ := HK.out.at_ hlt
            subst hKK
            have hr' : wr.rangeAt bb (off + i * 7) cs := rangeAt_keep hr (hb.block bb hbb)
            have hnv : NodeV w w.heap.size ks[i] (.agg cs.toArray) := ⟨cs, rfl, hcs⟩
            have hfk : full ks[i] ≤ 1000000 := by have := HP.out.kid ks[i] (List.getElem_mem hlt); omega
            have hsn : nsz ks[i] ≤ m := by have := HGE.out i hlt; have := HM.out; omega
            have hcall := HIH.out ks[i] (.agg cs.toArray) wr hsn hfk (hnv.keep hb.block hb.size)
            have hstep := vldL_step (lim := false) (d := 0) (data := prevText ks i) hlt
            rw [hrem] at hstep
            have hpt := prevText_succ hlt
            have hrk : rvl ks[i] = (if ks[i].kind == 1 then dataOk ks[i] else vld false ks[i] (0 + 1)) := by
              unfold rvl; rw [vld_any ks[i] 0 (0 + 1)]
            have hE3 : E = (rvl ks[i] && !(prevText ks i && ks[i].kind == 1) && vldL false (ks.drop (i + 1)) 0 (prevText ks (i + 1))) := by
              rw [hstep, hpt, hrk]
              cases ks[i].kind == 1 <;> cases prevText ks i <;> simp
            obtain ⟨A', c', K', d', hcs2, _, _, _, _⟩ := hcs.open_
            subst hcs2
            have hlt' : (i : Int) < ks.length := by omega
            have HRR := Lib.hid hr'
            have F2 : Hid (∀ w3, Below wr.heap.size wr w3 → Below w.heap.size w w3 ∧ w3.heap[w.heap.size]? = some (nodeBox (.mk k [] nm ats ks [] p) A cap (some ⟨bb, off, none⟩) kcap)) := fun w3 h => ⟨hb.trans (h.mono hb.size), (h.block _ hszy).trans hbox⟩
            generalize hq : rvl ks[i] = q at *
            cases q
            · have hF : E = false := by rw [hE3]; simp
              have HF := Lib.hid hF
              have HC := Lib.hid hcall
              clear hF hE3 hcall hq hstep hrem hb hbox hr hr' hcs hnv hfk hsn hpt hrk
              go_wp2_with (first
                | (with_reducible refine gate ?_; refine wp_load_node rfl _ rfl bb (off + i * 7) rfl _ rfl HRR.out ?_)
                | (go_at_call 29; refine HC.out.mono ?_; rintro e w3 ⟨rfl, hb3⟩))
              go_ret
              exact ⟨ret_bool HF.out.symm, (F2.out _ hb3).1⟩
            · have hc0 : wr.cell? ⟨bb, off + i * 7, none⟩ = some (.int .i64 ks[i].kind) := hr' 0 _ rfl
              have hbw : bb < wr.heap.size := by have := hb.size; omega
              by_cases h0 : i = 0
              · have hfin : vldL false (ks.drop (i + 1)) 0 (prevText ks (i + 1)) = E := by rw [hE3, show prevText ks i = false from by rw [h0]; rfl]; simp
                have HFF := Lib.hid hfin
                have HC := Lib.hid hcall
                have hi0 : (i : Int) ≤ 0 := by omega
                clear hfin hE3 hcall hq hstep hrem hb hbox hr hr' hcs hnv hfk hsn hpt hrk hc0 h0
                go_wp2_with (first
                  | (with_reducible refine gate ?_; refine wp_load_node rfl _ rfl bb (off + i * 7) rfl _ rfl HRR.out ?_)
                  | (go_at_call 29; refine HC.out.mono ?_; rintro e w3 ⟨rfl, hb3⟩))
                go_roundw
                case rel => first | exact ⟨i + 1, by omega, by go_num, HFF.out, F2.out _ hb3⟩ | ((repeat apply Exists.intro); refine ⟨⟨i + 1, by omega, ?_, HFF.out, F2.out _ hb3⟩, rfl⟩; go_num)
                case measure => simp [intOf]; omega
              · have hi1 : (1 : Int) ≤ i := by omega
                have hjl : i - 1 < ks.length := by omega
                rw [prevText_pos hlt (by omega)] at hE3
                have hpj : wr.cell? ⟨bb, off + (i - 1) * 7, none⟩ = some (.int .i64 ks[i - 1].kind) := by
                  obtain ⟨bb2, off2, cs2, hKK2, hbb2, hr2, hcs2⟩ := HK.out.at_ hjl
                  cases hKK2
                  obtain ⟨A2, c2, K2, d2, rfl, _, _, _, _⟩ := hcs2.open_
                  exact (rangeAt_keep hr2 (hb.block bb hbb2)) 0 _ rfl
                have e2 : ((i : Int) - 1).toNat = i - 1 := by omega
                have e3 : (i : Int) - 1 < ks.length := by omega
                generalize ks[i].kind = kd at *
                generalize ks[i - 1].kind = kp at *
                have HC := Lib.hid hcall
                clear hcall hq hstep hrem hr hr' hcs hnv hfk hsn hpt hrk h0
                cases y1 : (kd == 1)
                · have hfin : vldL false (ks.drop (i + 1)) 0 (prevText ks (i + 1)) = E := by rw [hE3, y1]; simp
                  have HFF := Lib.hid hfin
                  clear hfin hE3 hb hbox e2 hpj
                  go_wp2_with (first
                    | (with_reducible refine gate ?_; refine wp_load_node rfl _ rfl bb (off + i * 7) rfl _ rfl HRR.out ?_)
                    | (go_at_call 29; refine HC.out.mono ?_; rintro e w3 ⟨rfl, hb3⟩; have k4 := (hb3.cell (p := ⟨w.heap.size, 4, none⟩) hszy).trans c4; have kc := (hb3.cell (p := ⟨bb, off + i * 7, none⟩) hbw).trans hc0))
                  go_roundw
                  case rel => first | exact ⟨i + 1, by omega, by go_num, HFF.out, F2.out _ hb3⟩ | ((repeat apply Exists.intro); refine ⟨⟨i + 1, by omega, ?_, HFF.out, F2.out _ hb3⟩, rfl⟩; go_num)
                  case measure => simp [intOf]; omega
                · cases y2 : (kp == 1)
                  · have hfin : vldL false (ks.drop (i + 1)) 0 (prevText ks (i + 1)) = E := by rw [hE3, y2]; simp
                    have HFF := Lib.hid hfin
                    clear hfin hE3 hb hbox
                    go_wp2_with (first
                      | (with_reducible refine gate ?_; refine wp_load_node rfl _ rfl bb (off + i * 7) rfl _ rfl HRR.out ?_)
                      | (go_at_call 29; refine HC.out.mono ?_; rintro e w3 ⟨rfl, hb3⟩; have k4 := (hb3.cell (p := ⟨w.heap.size, 4, none⟩) hszy).trans c4; have kc := (hb3.cell (p := ⟨bb, off + i * 7, none⟩) hbw).trans hc0; have kp := (hb3.cell (p := ⟨bb, off + (i - 1) * 7, none⟩) hbw).trans hpj))
                    go_roundw
                    case rel => first | exact ⟨i + 1, by omega, by go_num, HFF.out, F2.out _ hb3⟩ | ((repeat apply Exists.intro); refine ⟨⟨i + 1, by omega, ?_, HFF.out, F2.out _ hb3⟩, rfl⟩; go_num)
                    case measure => simp [intOf]; omega
                  · have hF : E = false := by rw [hE3, y1, y2]; simp
                    have HF := Lib.hid hF
                    clear hF hE3 hb hbox
                    go_wp2_with (first
                      | (with_reducible refine gate ?_; refine wp_load_node rfl _ rfl bb (off + i * 7) rfl _ rfl HRR.out ?_)
                      | (go_at_call 29; refine HC.out.mono ?_; rintro e w3 ⟨rfl, hb3⟩; have k4 := (hb3.cell (p := ⟨w.heap.size, 4, none⟩) hszy).trans c4; have kc := (hb3.cell (p := ⟨bb, off + i * 7, none⟩) hbw).trans hc0; have kp := (hb3.cell (p := ⟨bb, off + (i - 1) * 7, none⟩) hbw).trans hpj))
                    go_ret
                    exact ⟨ret_bool HF.out.symm, (F2.out _ hb3).1⟩
          · obtain rfl : i = ks.length := by omega
            have hfin := hrem
            rw [List.drop_length, vldL] at hfin
            have HFF := Lib.hid hfin
            clear hfin hrem hb hbox
            go_wp2_with fail
            go_ret
            exact ⟨ret_bool HFF.out, HB.out⟩
end Go.Proofs.YthilaolkkamedaaDoor
set_option linter.unusedVariables false
namespace Go.Proofs.YthilaolkkamedaaDoor
open Go.RowKit

set_option maxHeartbeats 2000000 in
set_option maxRecDepth 100000 in
theorem refCheck9_any (n : Node) (v : Value) (w : World) (hs : full n ≤ 1000000) (hv : NodeV w w.heap.size n v) :
    Calls Tryd.prog 18 #[v] w fun e w' => e = .returned (.int .i64 (errOf (vld true n 1))) ∧ Below w.heap.size w w' := by
  have hd := fun W => fun (hW : Below w.heap.size w W) => refDepth_any _ n v W (Nat.le_refl _) (by have := nsz_full n; omega) (hv.keep hW.block hW.size)
  have hval := fun W => fun (hW : Below w.heap.size w W) => refValid_any _ n v W (Nat.le_refl _) hs (hv.keep hW.block hW.size)
  rw [← refOk_eq, show refOk n = (n.kind == 0 && decide (depth n ≤ 100) && rvl n) from rfl]
  have hdf := depth_full n
  obtain ⟨A, cap, K, kcap, rfl, ha, hk, hcap, hkcap⟩ := hv.open_
  have HD := Lib.hid hd
  have HV := Lib.hid hval
  clear hd hval hv ha hk hs
  have F1 : Hid (∀ o, Below w.heap.size w (w.alloc o)) := fun o => (Below.refl _ _).alloc (Nat.le_refl _) o
  generalize depth n = D at *
  generalize rvl n = q at *
  cases t0 : (n.kind == 0)
  · have t1 : (n.kind != 0) = true := by rw [bne, t0]; rfl
    go_enter Tryd.func18, Tryd.ntmps18
    go_wp2_with fail
    go_ret
    exact ⟨rfl, F1.out _⟩
  · have t1 : (n.kind != 0) = false := by rw [bne, t0]; rfl
    by_cases h : D ≤ 100
    · have h' : (D : Int) ≤ 100 := by omega
      rw [show decide (D ≤ 100) = true from by simpa using h]
      cases q
      all_goals
        go_enter Tryd.func18, Tryd.ntmps18
        go_wp2_with (first
          | (go_at_call 28; refine (HD.out _ (F1.out _)).mono ?_; rintro e w1 ⟨rfl, hb1⟩; have hbx := (hb1.block w.heap.size (by simp)).trans (heap_alloc_new w (nodeBox n A cap K kcap)); obtain ⟨k0, k1, k2, k3, k4, k5, k6⟩ := box_cells hbx; have hb1' := (F1.out _).trans (hb1.mono (show w.heap.size ≤ (w.alloc _).heap.size by simp)))
          | (go_at_call 29; refine (HV.out _ hb1').mono ?_; rintro e w2 ⟨rfl, hb2⟩))
        go_ret
        exact ⟨rfl, hb1'.trans (hb2.mono hb1'.size)⟩
    · have h' : (100 : Int) < D := by omega
      rw [show decide (D ≤ 100) = false from by simpa using h]
      go_enter Tryd.func18, Tryd.ntmps18
      go_wp2_with (go_at_call 28; refine (HD.out _ (F1.out _)).mono ?_; rintro e w1 ⟨rfl, hb1⟩)
      go_ret
      exact ⟨rfl, (F1.out _).trans (hb1.mono (by simp))⟩

set_option maxHeartbeats 2000000 in
set_option maxRecDepth 100000 in
theorem refWrite9_any (n : Node) (v : Value) (w : World) (hs : full n ≤ 1000000) (hv : NodeV w w.heap.size n v) :
    Calls Tryd.prog 10 #[v] w fun e w' => e = .returned (.tuple #[.string (S (outOf n (vld true n 1))), .int .i64 (errOf (vld true n 1))]) ∧ Below w.heap.size w w' := by
  have hcl := canon_len n
  have hck := fun W => fun (hW : Below w.heap.size w W) => refCheck9_any n v W hs (hv.keep hW.block hW.size)
  have hnd := fun W => fun (hW : Below w.heap.size w W) => refNode_any _ n v W (Nat.le_refl _) hs (hv.keep hW.block hW.size) (by omega)
  have hcan : (canon n).length ≤ 6000000 := by omega
  obtain ⟨A, cap, K, kcap, rfl, ha, hk, hcap, hkcap⟩ := hv.open_
  have hhd : header.length = 39 := rfl
  have HC := Lib.hid hck
  have HN := Lib.hid hnd
  clear hck hnd hv ha hk hs hcl
  have F1 : Hid (∀ o, Below w.heap.size w (w.alloc o)) := fun o => (Below.refl _ _).alloc (Nat.le_refl _) o
  generalize vld true n 1 = E at *
  cases E
  · go_enter Tryd.func10, Tryd.ntmps10
    go_wp2_with (go_at_call 18; refine (HC.out _ (F1.out _)).mono ?_; rintro e w1 ⟨rfl, hb1⟩)
    go_ret2
    exact ⟨rfl, (F1.out _).trans (hb1.mono (by simp))⟩
  · have hd : outOf n true = header ++ canon n ++ [10] := rfl
    rw [hd]
    clear hd
    generalize canon n = N at *
    obtain ⟨L1, e1⟩ : ∃ L1 : Bytes, L1 = header ++ N := ⟨_, rfl⟩
    obtain ⟨L2, e2⟩ : ∃ L2 : Bytes, L2 = L1 ++ [10] := ⟨_, rfl⟩
    have g1 : ∀ W : World, (Op.stringOp .add ⟨header.toArray⟩ (S N)).run Tryd.prog W = .ok (.string (S L1)) W := run_cat header N L1 e1 (by rw [hhd]; omega)
    have g2 : ∀ W : World, (Op.stringOp .add (S L1) ⟨#[10]⟩).run Tryd.prog W = .ok (.string (S L2)) W := run_cat L1 [10] L2 e2 (by rw [e1]; simp only [List.length_append, List.length_cons, List.length_nil]; omega)
    unfold header at g1
    rw [← e1, ← e2]
    clear e1 e2 hhd
    go_enter Tryd.func10, Tryd.ntmps10
    go_wp2_with (first
      | (go_at_call 18; refine (HC.out _ (F1.out _)).mono ?_; rintro e w1 ⟨rfl, hb1⟩; have hbx := (hb1.block w.heap.size (by simp)).trans (heap_alloc_new w (nodeBox n A cap K kcap)); obtain ⟨k0, k1, k2, k3, k4, k5, k6⟩ := box_cells hbx; have hb1' := (F1.out _).trans (hb1.mono (show w.heap.size ≤ (w.alloc _).heap.size by simp)))
      | (go_at_call 26; refine (HN.out _ hb1').mono ?_; rintro e w2 ⟨rfl, hb2⟩))
    go_ret2
    exact ⟨rfl, hb1'.trans (hb2.mono hb1'.size)⟩
end Go.Proofs.YthilaolkkamedaaDoor
set_option linter.unusedVariables false
namespace Go.Proofs.YthilaolkkamedaaDoor
open Go.RowKit

@[go_sem] theorem min_cl9 (n : Nat) : min (n : Int) 9000 = (cl9 n : Nat) := by
  unfold cl9; omega

set_option maxHeartbeats 2000000 in
theorem weight_any (m : Nat) : ∀ (n : Node) (v : Value) (tot : Nat) (w : World), nsz n ≤ m → Fit n → tot ≤ 9000 → NodeV w w.heap.size n v →
    Calls Tryd.prog 19 #[v, .int .i64 tot] w fun e w' => e = .returned (.int .i64 (wgt n tot : Nat)) ∧ Below w.heap.size w w' := by
  induction m with
  | zero => intro n v tot w h; cases n; rw [nsz] at h; omega
  | succ m ih =>
    intro n v tot w hm hf ht hv
    obtain ⟨A, cap, K, kcap, rfl, ha, hk, hcap, hkcap⟩ := hv.open_
    have hal := hf.form.1
    have hkl := hf.form.2.1
    have hw := wgt_bound _ n (Nat.le_refl _) hf tot ht
    have c1 := cl9_le n.space.length
    have c2 := cl9_le n.name.length
    have c3 := cl9_le n.text.length
    have HIH := Lib.hid ih
    have HF := Lib.hid hf
    have HA := Lib.hid ha
    have HK := Lib.hid hk
    have HM := Lib.hid hm
    have HW := Lib.hid hw
    clear ih hf ha hk hv hm hw
    go_enter Tryd.func19, Tryd.ntmps19
    go_wp2_with fail
    go_loopw [1, 29] (fun s1 i29 wr => ∃ i : Nat, i ≤ n.attrs.length ∧ i29 = .int .i64 i ∧ s1 = .int .i64 (tot + (1 + cl9 n.space.length + cl9 n.name.length + cl9 n.text.length) + attsW (n.attrs.take i) : Nat) ∧ Below (w.heap.size + 1) (w.alloc (.cells #[.int .i64 n.kind, .string (S n.space), .string (S n.name), .slice A n.attrs.length cap, .slice K n.kids.length kcap, .string (S n.text), .int .i64 n.pos] 25)) wr) (fun _ i29 _ => n.attrs.length - (intOf i29).toNat)
    case atStart => exact ⟨0, Nat.zero_le _, rfl, val_int (by simp [attsW]), Below.refl _ _⟩
    case round =>
      obtain ⟨i, hi, rfl, rfl, hb⟩ := hrel
      have HB := Lib.hid hb
      have hsz := hb.size
      simp only [World.size_alloc] at hsz
      clear hb
      by_cases hlt : i < n.attrs.length
      · obtain ⟨b, off, rfl, hbl, hr⟩ := HA.out.at_ hlt
        have hr' : wr.rangeAt b (off + i * 4) (attCells n.attrs[i]) := rangeAt_keep hr ((HB.out.block b (by omega)).trans (Below.heap_alloc w _ b hbl))
        have HR := Lib.hid hr'
        have hst := attsW_take hlt
        have HST := Lib.hid hst
        have hle : attsW (n.attrs.take i) ≤ i * 27001 := by have := attsW_le (n.attrs.take i); rw [List.length_take, Nat.min_eq_left hi] at this; exact this
        have d1 := cl9_le n.attrs[i].space.length
        have d2 := cl9_le n.attrs[i].name.length
        have d3 := cl9_le n.attrs[i].value.length
        clear hst hr hr'
        go_wp2_with (refine wp_load_att rfl _ rfl b (off + i * 4) rfl n.attrs[i] HR.out ?_)
        go_roundw
        case rel =>
          refine ⟨i + 1, by omega, by go_num, val_int (by rw [HST.out]; unfold attW; omega), HB.out.trans ((Below.refl _ _).alloc (by omega) _)⟩
        case measure => simp [intOf]; omega
      · obtain rfl : i = n.attrs.length := by omega
        rw [List.take_length] at *
        have hbox : wr.heap[w.heap.size]? = some (.cells #[.int .i64 n.kind, .string (S n.space), .string (S n.name), .slice A n.attrs.length cap, .slice K n.kids.length kcap, .string (S n.text), .int .i64 n.pos] 25) := (HB.out.block _ (by omega)).trans (heap_alloc_new w _)
        have c4 : wr.cell? ⟨w.heap.size, 4, none⟩ = some (.slice K n.kids.length kcap) := by rw [Lib.cell_of_heap hbox]; rfl
        have hlim : tot + (1 + cl9 n.space.length + cl9 n.name.length + cl9 n.text.length) + attsW n.attrs ≤ most := head_le n HF.out tot ht
        have hstart : wgtL n.kids (tot + (1 + cl9 n.space.length + cl9 n.name.length + cl9 n.text.length) + attsW n.attrs) = wgt n tot := (wgt_eq n tot).symm
        have hbw : Below w.heap.size w wr := ((Below.refl _ _).alloc (Nat.le_refl _) _).trans (HB.out.mono (by omega))
        have HL := Lib.hid hlim
        have HS := Lib.hid hstart
        have HBW := Lib.hid hbw
        clear hbox hlim hstart hbw
        generalize tot + (1 + cl9 n.space.length + cl9 n.name.length + cl9 n.text.length) + attsW n.attrs = t0 at *
        obtain ⟨wo, rfl⟩ : ∃ wo : World, wo = wr := ⟨_, rfl⟩
        go_wp2_with fail
        go_loopw [1, 54] (fun s1 i54 wx => ∃ (i t' : Nat), i ≤ n.kids.length ∧ i54 = .int .i64 i ∧ s1 = .int .i64 t' ∧ t' ≤ most ∧ wgtL (n.kids.drop i) t' = wgt n tot ∧ Below w.heap.size w wx) (fun _ i54 _ => n.kids.length - (intOf i54).toNat)
        case atStart => exact ⟨0, t0, Nat.zero_le _, rfl, rfl, HL.out, by rw [List.drop_zero]; exact HS.out, HBW.out⟩
        case round =>
          obtain ⟨i, t', hi, rfl, rfl, hle, hrem, hb⟩ := hrel
          have HB2 := Lib.hid hb
          have HREM := Lib.hid hrem
          have hsz2 := hb.size
          have hle' : t' ≤ 70202600000036001 := hle
          clear hb hrem hle
          by_cases hlt2 : i < n.kids.length
          · by_cases hbig : 9000 < t'
            · have hfin : t' = wgt n tot := by rw [← HREM.out, wgtL_stop hlt2 hbig]
              obtain ⟨b, off, cs, rfl, hbl, hr, hcs⟩ := HK.out.at_ hlt2
              have hr' : wr.rangeAt b (off + i * 7) cs := rangeAt_keep hr (HB2.out.block b hbl)
              obtain ⟨A', c', K', d', rfl, ha', hk', _, _⟩ := hcs.open_
              have HR := Lib.hid hr'
              have HF2 := Lib.hid hfin
              have hbig' : (9000 : Int) < t' := by omega
              clear hr hr' hcs ha' hk' hfin
              go_wp2_with (refine wp_load_node rfl _ rfl b (off + i * 7) rfl _ rfl HR.out ?_)
              go_ret
              exact ⟨ret_int (by rw [HF2.out]), HB2.out.trans ((Below.refl _ _).alloc (by omega) _)⟩
            · have hfin := wgtL_step hlt2 hbig
              rw [HREM.out] at hfin
              obtain ⟨b, off, cs, rfl, hbl, hr, hcs⟩ := HK.out.at_ hlt2
              have hr' : wr.rangeAt b (off + i * 7) cs := rangeAt_keep hr (HB2.out.block b hbl)
              have hnv : NodeV w w.heap.size n.kids[i] (.agg cs.toArray) := ⟨cs, rfl, hcs⟩
              obtain ⟨A', c', K', d', rfl, ha', hk', _, _⟩ := hcs.open_
              have hfk := HF.out.form.2.2 n.kids[i] (List.getElem_mem hlt2)
              have hbd := wgt_bound _ n.kids[i] (Nat.le_refl _) hfk t' (by omega)
              have hsn : nsz n.kids[i] ≤ m := by have := nsz_get n hlt2; have := HM.out; omega
              have hcall : ∀ W : World, Below w.heap.size w W → Calls Tryd.prog 19 #[_, .int .i64 t'] W _ := fun W hW =>
                HIH.out n.kids[i] _ t' W hsn hfk (by omega) (hnv.keep hW.block hW.size)
              have HC := Lib.hid hcall
              have HR := Lib.hid hr'
              have HF2 := Lib.hid hfin
              have hbig' : (t' : Int) ≤ 9000 := by omega
              have HBD := Lib.hid hbd
              clear hr hr' hcs ha' hk' hfin hnv hfk hsn hcall hbig hbd
              go_wp2_with (first
                | (refine wp_load_node rfl _ rfl b (off + i * 7) rfl _ rfl HR.out ?_)
                | (go_at_call 19; refine (HC.out _ (HB2.out.trans ((Below.refl _ _).alloc (by omega) _))).mono ?_; rintro e w' ⟨rfl, hb'⟩))
              go_roundw
              case rel =>
                exact ⟨i + 1, _, by omega, by go_num, rfl, HBD.out, HF2.out.symm, (HB2.out.trans ((Below.refl _ _).alloc (by omega) _)).trans (hb'.mono (by simp; omega))⟩
              case measure => simp [intOf]; omega
          · obtain rfl : i = n.kids.length := by omega
            have hfin := HREM.out
            rw [List.drop_length, wgtL] at hfin
            have HF2 := Lib.hid hfin
            clear hfin
            go_wp2_with fail
            go_ret
            exact ⟨ret_int (by rw [HF2.out]), HB2.out⟩

def tooLarge (n : Node) : Int := if 5000 < wgt n 0 then 1 else 0
set_option maxHeartbeats 1000000 in
theorem tooLarge_any (n : Node) (v : Value) (w : World) (hf : Fit n) (hv : NodeV w w.heap.size n v) :
    Calls Tryd.prog 7 #[v] w fun e w' => e = .returned (.int .i64 (tooLarge n)) ∧ Below w.heap.size w w' := by
  have hv' := fun W => fun (hW : Below w.heap.size w W) => weight_any _ n v 0 W (Nat.le_refl _) hf (by omega) (hv.keep hW.block hW.size)
  obtain ⟨A, cap, K, kcap, rfl, ha, hk, hcap, hkcap⟩ := hv.open_
  have HV := Lib.hid hv'
  clear hv' hv ha hk hf
  unfold tooLarge
  generalize wgt n 0 = g at *
  by_cases h : 5000 < g
  · have h' : (5000 : Int) < g := by omega
    rw [if_pos h]
    clear h
    go_enter Tryd.func7, Tryd.ntmps7
    go_wp2_with (go_at_call 19; refine (HV.out _ ((Below.refl _ _).alloc (Nat.le_refl _) _)).mono ?_; rintro e w' ⟨rfl, hb⟩)
    go_ret
    exact ⟨rfl, ((Below.refl _ _).alloc (Nat.le_refl _) _).trans (hb.mono (by simp))⟩
  · have h' : (g : Int) ≤ 5000 := by omega
    rw [if_neg h]
    clear h
    go_enter Tryd.func7, Tryd.ntmps7
    go_wp2_with (go_at_call 19; refine (HV.out _ ((Below.refl _ _).alloc (Nat.le_refl _) _)).mono ?_; rintro e w' ⟨rfl, hb⟩)
    go_ret
    exact ⟨rfl, ((Below.refl _ _).alloc (Nat.le_refl _) _).trans (hb.mono (by simp))⟩
end Go.Proofs.YthilaolkkamedaaDoor
set_option linter.unusedVariables false
namespace Go.Proofs.YthilaolkkamedaaDoor
open Go.RowKit

theorem not_beq {a b : Bytes} (h : (a == b) = false) : (!(a == b)) = true := by rw [h]; rfl

set_option maxHeartbeats 2000000 in
set_option maxRecDepth 100000 in
theorem refEqual_no (o : Bool) (n m : Node) (v u : Value) (w : World) (hv : NodeV w w.heap.size n v) (hu : NodeV w w.heap.size m u) (hne : headEqv o n m = false)
    (hl1 : n.attrs.length ≤ 4611686018427387904) (hl2 : m.attrs.length ≤ 4611686018427387904) (hl3 : n.kids.length ≤ 4611686018427387904) (hl4 : m.kids.length ≤ 4611686018427387904) :
    Calls Tryd.prog 14 #[v, u, .bool o] w fun e w' => e = .returned (.bool false) ∧ Below w.heap.size w w' := by
  obtain ⟨A, c, K, d, rfl, ha, hk, hc, hd⟩ := hv.open_
  obtain ⟨A', c', K', d', rfl, ha', hk', hc', hd'⟩ := hu.open_
  clear hv hu ha hk ha' hk'
  unfold headEqv at hne
  have fin : ∀ w : World, Below w.heap.size w ((w.alloc (nodeBox n A c K d)).alloc (nodeBox m A' c' K' d')) := fun w => ((Below.refl _ _).alloc (Nat.le_refl _) _).alloc (by simp) _
  have FIN := Lib.hid fin
  clear fin
  have e6 : ((n.attrs.length : Int) == (m.attrs.length : Int)) = (n.attrs.length == m.attrs.length) := by rw [Bool.eq_iff_iff]; simp; omega
  have e7 : ((n.kids.length : Int) == (m.kids.length : Int)) = (n.kids.length == m.kids.length) := by rw [Bool.eq_iff_iff]; simp; omega
  rw [← e6, ← e7] at hne
  have HNE := Lib.hid hne
  clear hne e6 e7
  rcases tk : (n.kind == m.kind) with _ | _
  · have uk : (n.kind != m.kind) = true := by rw [bne, tk]; rfl
    go_enter Tryd.func14, Tryd.ntmps14
    go_wp2_with fail
    go_ret
    exact ⟨rfl, FIN.out _⟩
  · have uk : (n.kind != m.kind) = false := by rw [bne, tk]; rfl
    rcases ts : (n.space == m.space) with _ | _
    · have us : (n.space != m.space) = true := by rw [bne, ts]; rfl
      go_enter Tryd.func14, Tryd.ntmps14
      go_wp2_with fail
      go_ret
      exact ⟨rfl, FIN.out _⟩
    · have us : (n.space != m.space) = false := by rw [bne, ts]; rfl
      rcases tnm : (n.name == m.name) with _ | _
      · have unm : (n.name != m.name) = true := by rw [bne, tnm]; rfl
        go_enter Tryd.func14, Tryd.ntmps14
        go_wp2_with fail
        go_ret
        exact ⟨rfl, FIN.out _⟩
      · have unm : (n.name != m.name) = false := by rw [bne, tnm]; rfl
        rcases tt : (n.text == m.text) with _ | _
        · have ut : (n.text != m.text) = true := by rw [bne, tt]; rfl
          go_enter Tryd.func14, Tryd.ntmps14
          go_wp2_with fail
          go_ret
          exact ⟨rfl, FIN.out _⟩
        · have ut : (n.text != m.text) = false := by rw [bne, tt]; rfl
          cases o
          · skip
            rcases ta : ((n.attrs.length : Int) == (m.attrs.length : Int)) with _ | _
            · have ua : ((n.attrs.length : Int) != (m.attrs.length : Int)) = true := by rw [bne, ta]; rfl
              go_enter Tryd.func14, Tryd.ntmps14
              go_wp2_with fail
              go_ret
              exact ⟨rfl, FIN.out _⟩
            · have ua : ((n.attrs.length : Int) != (m.attrs.length : Int)) = false := by rw [bne, ta]; rfl
              rcases tc : ((n.kids.length : Int) == (m.kids.length : Int)) with _ | _
              · have uc : ((n.kids.length : Int) != (m.kids.length : Int)) = true := by rw [bne, tc]; rfl
                go_enter Tryd.func14, Tryd.ntmps14
                go_wp2_with fail
                go_ret
                exact ⟨rfl, FIN.out _⟩
              · have uc : ((n.kids.length : Int) != (m.kids.length : Int)) = false := by rw [bne, tc]; rfl
                exact absurd HNE.out (by simp [tk, ts, tnm, tt, ta, tc])
          · skip
            rcases tp : (n.pos == m.pos) with _ | _
            · have up : (n.pos != m.pos) = true := by rw [bne, tp]; rfl
              go_enter Tryd.func14, Tryd.ntmps14
              go_wp2_with fail
              go_ret
              exact ⟨rfl, FIN.out _⟩
            · have up : (n.pos != m.pos) = false := by rw [bne, tp]; rfl
              rcases ta : ((n.attrs.length : Int) == (m.attrs.length : Int)) with _ | _
              · have ua : ((n.attrs.length : Int) != (m.attrs.length : Int)) = true := by rw [bne, ta]; rfl
                go_enter Tryd.func14, Tryd.ntmps14
                go_wp2_with fail
                go_ret
                exact ⟨rfl, FIN.out _⟩
              · have ua : ((n.attrs.length : Int) != (m.attrs.length : Int)) = false := by rw [bne, ta]; rfl
                rcases tc : ((n.kids.length : Int) == (m.kids.length : Int)) with _ | _
                · have uc : ((n.kids.length : Int) != (m.kids.length : Int)) = true := by rw [bne, tc]; rfl
                  go_enter Tryd.func14, Tryd.ntmps14
                  go_wp2_with fail
                  go_ret
                  exact ⟨rfl, FIN.out _⟩
                · have uc : ((n.kids.length : Int) != (m.kids.length : Int)) = false := by rw [bne, tc]; rfl
                  exact absurd HNE.out (by simp [tk, ts, tnm, tt, tp, ta, tc])

theorem headEqv_true {o : Bool} {n m : Node} (h : headEqv o n m = true) : (n.kind == m.kind) = true ∧ (n.space == m.space) = true ∧ (n.name == m.name) = true ∧ (n.text == m.text) = true ∧ (o = true → (n.pos == m.pos) = true) ∧ n.attrs.length = m.attrs.length ∧ n.kids.length = m.kids.length := by
  unfold headEqv at h
  simp only [Bool.and_eq_true, Bool.or_eq_true, Bool.not_eq_true'] at h
  obtain ⟨⟨⟨⟨⟨⟨h1, h2⟩, h3⟩, h4⟩, h5⟩, h6⟩, h7⟩ := h
  exact ⟨h1, h2, h3, h4, fun e => h5.resolve_left (by rw [e]; decide), eq_of_beq h6, eq_of_beq h7⟩

end Go.Proofs.YthilaolkkamedaaDoor
set_option linter.unusedVariables false
namespace Go.Proofs.YthilaolkkamedaaDoor
open Go.RowKit

theorem below_undrew' {B : Nat} {w w' : World} (h : Below B w.drew w') : Below B w w' := ⟨h.os, h.tape, h.output, h.size, h.block⟩
set_option maxHeartbeats 4000000 in
set_option maxRecDepth 100000 in
theorem refEqual_false (s : Nat) : ∀ (n m : Node) (v u : Value) (w : World), nsz n ≤ s → NodeV w w.heap.size n v → NodeV w w.heap.size m u → Fit n → Fit m →
    Calls Tryd.prog 14 #[v, u, .bool false] w fun e w' => e = .returned (.bool (eqv false n m)) ∧ Below w.heap.size w w' := by
  induction s with
  | zero => intro n m v u w h; cases n; rw [nsz] at h; omega
  | succ s ih =>
    intro n m v u w hs hv hu hfn hfm
    have ln := hfn.form
    have lm := hfm.form
    cases hh : headEqv false n m
    · have he : eqv false n m = false := by rw [eqv_eq, hh]; rfl
      rw [he]
      exact refEqual_no false n m v u w hv hu hh (by omega) (by omega) (by omega) (by omega)
    · have he : eqv false n m = (attsEqv false n.attrs m.attrs && kidsEqv false n.kids m.kids) := by rw [eqv_eq, hh]; simp
      rw [he]
      obtain ⟨tk, ts, tnm, tt, tp, ta, tc⟩ := headEqv_true hh
      generalize hE : (attsEqv false n.attrs m.attrs && kidsEqv false n.kids m.kids) = E at *
      obtain ⟨A, c, K, d, rfl, ha, hk, hc, hd⟩ := hv.open_
      obtain ⟨A', c', K', d', rfl, ha', hk', hc', hd'⟩ := hu.open_
      have uk : (n.kind != m.kind) = false := by rw [bne, tk]; rfl
      have us : (n.space != m.space) = false := by rw [bne, ts]; rfl
      have unm : (n.name != m.name) = false := by rw [bne, tnm]; rfl
      have ut : (n.text != m.text) = false := by rw [bne, tt]; rfl
      have ua : ((n.attrs.length : Int) != (m.attrs.length : Int)) = false := by rw [ta]; simp
      have uc : ((n.kids.length : Int) != (m.kids.length : Int)) = false := by rw [tc]; simp
      have la1 : n.attrs.length ≤ m.attrs.length := by omega
      have la2 : m.attrs.length ≤ n.attrs.length := by omega
      have lc1 : n.kids.length ≤ m.kids.length := by omega
      have lc2 : m.kids.length ≤ n.kids.length := by omega
      have lb1 : n.attrs.length ≤ 2600000000000 := ln.1
      have lb2 : n.kids.length ≤ 2600000000000 := ln.2.1
      have HE := Lib.hid hE
      have HIH := Lib.hid ih
      have HA := Lib.hid ha
      have HA' := Lib.hid ha'
      have HK := Lib.hid hk
      have HK' := Lib.hid hk'
      have HS := Lib.hid hs
      have HLN := Lib.hid ln
      have HLM := Lib.hid lm
      clear tp hE ih ha ha' hk hk' hs ln lm hh he hv hu ta tc hfn hfm
      go_enter Tryd.func14, Tryd.ntmps14
      go_wp2_with fail
      go_loopw [7] (fun i7 wr => ∃ i : Nat, i ≤ n.attrs.length ∧ i7 = .int .i64 i ∧ (attsEqv false (n.attrs.drop i) (m.attrs.drop i) && kidsEqv false n.kids m.kids) = E ∧ Below (w.heap.size + 2) ((w.alloc (nodeBox n A c K d)).alloc (nodeBox m A' c' K' d')) wr) (fun i7 _ => n.attrs.length - (intOf i7).toNat)
      case atStart => exact ⟨0, Nat.zero_le _, rfl, by simpa using HE.out, Below.refl _ _⟩
      case round =>
        obtain ⟨i, hi, rfl, hrem, hb⟩ := hrel
        have hbw : Below w.heap.size w wr := (((Below.refl _ _).alloc (Nat.le_refl _) _).alloc (by simp) _).trans (hb.mono (by omega))
        have hbx : wr.heap[w.heap.size]? = some (nodeBox n A c K d) := (hb.block _ (by omega)).trans ((Below.heap_alloc _ _ _ (by simp)).trans (heap_alloc_new w _))
        have hbm : wr.heap[w.heap.size + 1]? = some (nodeBox m A' c' K' d') := (hb.block _ (by omega)).trans (by have := heap_alloc_new (w.alloc (nodeBox n A c K d)) (nodeBox m A' c' K' d'); simpa using this)
        obtain ⟨n0, n1, n2, n3, n4, n5, n6⟩ := box_cells hbx
        obtain ⟨m0, m1, m2, m3, m4, m5, m6⟩ := box_cells hbm
        have hsz := hb.size
        simp only [World.size_alloc] at hsz
        have q1 : w.heap.size + 1 < wr.heap.size := by omega
        have q2 : w.heap.size < wr.heap.size := by omega
        have q3 : w.heap.size + 1 ≠ wr.heap.size := by omega
        have q4 : w.heap.size ≠ wr.heap.size := by omega
        have HB := Lib.hid hb
        have HBW := Lib.hid hbw
        have HR := Lib.hid hrem
        clear hb hbw hrem hbx hbm n0 n1 n2 n5 n6 m0 m1 m2 m5 m6
        by_cases hlt : i < n.attrs.length
        · have hlt' : i < m.attrs.length := by omega
          clear n4 m4
          have hfin := attsEqv_step (o := false) hlt hlt'
          have FIN : Hid (∀ o o', Below w.heap.size w ((wr.alloc o).alloc o')) := fun o o' => (HBW.out.alloc (by omega) _).alloc (by simp; omega) _
          have FIN2 : Hid (∀ o o', Below (w.heap.size + 2) ((w.alloc (nodeBox n A c K d)).alloc (nodeBox m A' c' K' d')) ((wr.alloc o).alloc o')) := fun o o' => (HB.out.alloc (by omega) _).alloc (by simp; omega) _
          obtain ⟨b, off, rfl, hbl, hr⟩ := HA.out.at_ hlt
          obtain ⟨b', off', rfl, hbl', hr'⟩ := HA'.out.at_ hlt'
          have HR1 := Lib.hid (show wr.rangeAt b (off + i * 4) (attCells n.attrs[i]) from rangeAt_keep hr (HBW.out.block b hbl))
          have HR2 : Hid (∀ o, (wr.alloc o).rangeAt b' (off' + i * 4) (attCells m.attrs[i])) := fun o => rangeAt_keep hr' ((Below.heap_alloc wr o b' (by omega)).trans (HBW.out.block b' hbl'))
          have HF := Lib.hid hfin
          clear hr hr' hfin
          have hE0 : attEqv false n.attrs[i] m.attrs[i] = false → E = false := fun h => by rw [← HR.out, HF.out, h]; rfl
          have hE1 : attEqv false n.attrs[i] m.attrs[i] = true → (attsEqv false (n.attrs.drop (i + 1)) (m.attrs.drop (i + 1)) && kidsEqv false n.kids m.kids) = E := fun h => by rw [← HR.out, HF.out, h, Bool.true_and]
          have HE0 := Lib.hid hE0
          have HE1 := Lib.hid hE1
          clear hE0 hE1
          generalize n.attrs[i] = a at *
          generalize m.attrs[i] = a' at *
          rcases xs : (a.space == a'.space) with _ | _
          · have ys : (a.space != a'.space) = true := by rw [bne, xs]; rfl
            have hz := HE0.out (by simp [attEqv, xs])
            have HZ := Lib.hid hz
            clear hz
            go_wp2_with (first
              | (refine wp_load_att rfl _ rfl b (off + i * 4) rfl a HR1.out ?_)
              | (refine wp_load_att rfl _ rfl b' (off' + i * 4) rfl a' (HR2.out _) ?_))
            go_ret
            exact ⟨ret_bool HZ.out.symm, FIN.out _ _⟩
          · have ys : (a.space != a'.space) = false := by rw [bne, xs]; rfl
            rcases xn : (a.name == a'.name) with _ | _
            · have yn : (a.name != a'.name) = true := by rw [bne, xn]; rfl
              have hz := HE0.out (by simp [attEqv, xs, xn])
              have HZ := Lib.hid hz
              clear hz
              go_wp2_with (first
                | (refine wp_load_att rfl _ rfl b (off + i * 4) rfl a HR1.out ?_)
                | (refine wp_load_att rfl _ rfl b' (off' + i * 4) rfl a' (HR2.out _) ?_))
              go_ret
              exact ⟨ret_bool HZ.out.symm, FIN.out _ _⟩
            · have yn : (a.name != a'.name) = false := by rw [bne, xn]; rfl
              rcases xv : (a.value == a'.value) with _ | _
              · have yv : (a.value != a'.value) = true := by rw [bne, xv]; rfl
                have hz := HE0.out (by simp [attEqv, xs, xn, xv])
                have HZ := Lib.hid hz
                clear hz
                go_wp2_with (first
                  | (refine wp_load_att rfl _ rfl b (off + i * 4) rfl a HR1.out ?_)
                  | (refine wp_load_att rfl _ rfl b' (off' + i * 4) rfl a' (HR2.out _) ?_))
                go_ret
                exact ⟨ret_bool HZ.out.symm, FIN.out _ _⟩
              · have yv : (a.value != a'.value) = false := by rw [bne, xv]; rfl
                have hz := HE1.out (by simp [attEqv, xs, xn, xv])
                have HZ := Lib.hid hz
                clear hz
                go_wp2_with (first
                  | (refine wp_load_att rfl _ rfl b (off + i * 4) rfl a HR1.out ?_)
                  | (refine wp_load_att rfl _ rfl b' (off' + i * 4) rfl a' (HR2.out _) ?_))
                go_roundw
                case rel => exact ⟨i + 1, by omega, by go_num, HZ.out, FIN2.out _ _⟩
                case measure => simp [intOf]; omega
        · obtain rfl : i = n.attrs.length := by omega
          rw [List.drop_length, attsEqv_nil, Bool.true_and] at HR

          obtain ⟨wo, rfl⟩ : ∃ wo : World, wo = wr := ⟨_, rfl⟩
          go_wp2_with fail
          clear n3 m3
          go_loopw [10] (fun i10 wr => ∃ i : Nat, i ≤ n.kids.length ∧ i10 = .int .i64 i ∧ kidsEqv false (n.kids.drop i) (m.kids.drop i) = E ∧ Below (w.heap.size + 2) wo wr) (fun i10 _ => n.kids.length - (intOf i10).toNat)
          case atStart => exact ⟨0, Nat.zero_le _, rfl, by simpa using HR.out, Below.refl _ _⟩
          case round =>
            obtain ⟨i, hi, rfl, hrem, hb⟩ := hrel
            have hbw2 : Below w.heap.size w wr := HBW.out.trans (hb.mono (by omega))
            have n4' : wr.cell? ⟨w.heap.size, 4, none⟩ = some (.slice K n.kids.length d) := (hb.cell (p := ⟨w.heap.size, 4, none⟩) (by simp)).trans n4
            have m4' : wr.cell? ⟨w.heap.size + 1, 4, none⟩ = some (.slice K' m.kids.length d') := (hb.cell (p := ⟨w.heap.size + 1, 4, none⟩) (by simp)).trans m4
            have hsz2 := hb.size
            have HB2 := Lib.hid hb
            have HBW2 := Lib.hid hbw2
            have HR2 := Lib.hid hrem
            clear hb hbw2 hrem n4 m4
            by_cases hlt2 : i < n.kids.length
            · have hlt2' : i < m.kids.length := by omega
              have hfin := kidsEqv_step (o := false) hlt2 hlt2'
              rw [HR2.out] at hfin
              obtain ⟨b, off, cs, rfl, hbl, hr, hcs⟩ := HK.out.at_ hlt2
              obtain ⟨b', off', cs', rfl, hbl', hr', hcs'⟩ := HK'.out.at_ hlt2'
              have HR3 := Lib.hid (show wr.drew.rangeAt b (off + i * 7) cs from rangeAt_keep hr (HBW2.out.block b hbl))
              have HR4 := Lib.hid (show wr.drew.rangeAt b' (off' + i * 7) cs' from rangeAt_keep hr' (HBW2.out.block b' hbl'))
              have hnv : NodeV wr.drew wr.drew.heap.size n.kids[i] (.agg cs.toArray) := NodeV.keep (w := w) (B := w.heap.size) ⟨cs, rfl, hcs⟩ HBW2.out.block HBW2.out.size
              have hmv : NodeV wr.drew wr.drew.heap.size m.kids[i] (.agg cs'.toArray) := NodeV.keep (w := w) (B := w.heap.size) ⟨cs', rfl, hcs'⟩ HBW2.out.block HBW2.out.size
              have hcall := HIH.out n.kids[i] m.kids[i] _ _ wr.drew (by have := nsz_get n hlt2; have := HS.out; omega) hnv hmv (HLN.out.2.2 _ (List.getElem_mem hlt2)) (HLM.out.2.2 _ (List.getElem_mem hlt2'))
              obtain ⟨A1, c1, K1, d1, rfl, _, _, _, _⟩ := hcs.open_
              obtain ⟨A2, c2, K2, d2, rfl, _, _, _, _⟩ := hcs'.open_
              have HC := Lib.hid hcall
              have HF := Lib.hid hfin
              have hi0 : (i : Int) < n.kids.length := by omega
              have hi1 : (i : Int) < m.kids.length := by omega
              clear hr hr' hcs hcs' hfin hnv hmv hcall
              generalize eqv false n.kids[i] m.kids[i] = q at *
              have n4'' : wr.drew.cell? ⟨w.heap.size, 4, none⟩ = some (.slice (some ⟨b, off, none⟩) n.kids.length d) := n4'
              have m4'' : wr.drew.cell? ⟨w.heap.size + 1, 4, none⟩ = some (.slice (some ⟨b', off', none⟩) m.kids.length d') := m4'
              go_wp2_with fail
              go_still_tail 11, (by kernel_rfl)
              refine still_load_node rfl _ rfl b (off + i * 7) rfl _ rfl HR3.out ?_
              repeat still_step
              refine still_load_node rfl _ rfl b' (off' + i * 7) rfl _ rfl HR4.out ?_
              repeat still_step
              refine wpStill_nil ?_
              change wpList _ _ _ _ _ wr.drew
              clear n4' m4'
              cases q
              all_goals
                go_wp2_with (go_at_call 14; refine HC.out.mono ?_; rintro e w' ⟨rfl, hb'⟩)
              · go_ret
                exact ⟨ret_bool (by rw [HF.out]; rfl), HBW2.out.trans ((below_undrew' hb').mono (show w.heap.size ≤ wr.heap.size by omega))⟩
              · go_roundw
                case rel => exact ⟨i + 1, by omega, by go_num, by rw [HF.out, Bool.true_and], HB2.out.trans ((below_undrew' hb').mono (show w.heap.size + 2 ≤ wr.heap.size by omega))⟩
                case measure => simp [intOf]; omega
            · obtain rfl : i = n.kids.length := by omega
              rw [List.drop_length, kidsEqv_nil] at HR2
              go_wp2_with fail
              go_ret
              exact ⟨ret_bool HR2.out, HBW2.out⟩
end Go.Proofs.YthilaolkkamedaaDoor
set_option linter.unusedVariables false
namespace Go.Proofs.YthilaolkkamedaaDoor
open Go.RowKit

theorem tooLarge_cases (n : Node) : (tooLarge n = 1) ∨ (tooLarge n = 0 ∧ full n ≤ 5000) := by
  unfold tooLarge
  by_cases h : 5000 < wgt n 0
  · exact .inl (if_pos h)
  · exact .inr ⟨if_neg h, small_of (by omega)⟩

set_option maxHeartbeats 4000000 in
set_option maxRecDepth 100000 in
theorem law9matches_any (n : Node) (v : Value) (w : World) (hT : Tabs w) (hf : Fit n) (hv : NodeV w w.heap.size n v) :
    Calls Tryd.prog 3 #[v] w fun e w' => e = .returned (.bool true) ∧ Below w.heap.size w w' := by
  have htl := fun W => fun (hW : Below w.heap.size w W) => tooLarge_any n v W hf (hv.keep hW.block hW.size)
  have hal := fun W => fun (hW : Below w.heap.size w W) => alive9_any W (hT.next hW)
  have F1 : Hid (∀ o, Below w.heap.size w (w.alloc o)) := fun o => (Below.refl _ _).alloc (Nat.le_refl _) o
  rcases tooLarge_cases n with h | ⟨h, hs⟩
  · rw [h] at htl
    obtain ⟨A, cap, K, kcap, rfl, ha, hk, hcap, hkcap⟩ := hv.open_
    have HTL := Lib.hid htl
    have HAL := Lib.hid hal
    clear htl hal hv ha hk hT hf h
    go_enter Tryd.func3, Tryd.ntmps3
    go_wp2_with (first
      | (go_at_call 7; refine (HTL.out _ (F1.out _)).mono ?_; rintro e w1 ⟨rfl, hb1⟩; have hb1' := (F1.out _).trans (hb1.mono (show w.heap.size ≤ (w.alloc _).heap.size by simp)))
      | (go_at_call 8; refine (HAL.out _ hb1').mono ?_; rintro e w2 ⟨rfl, hb2⟩))
    go_ret
    exact ⟨rfl, hb1'.trans (hb2.mono hb1'.size)⟩
  · rw [h] at htl
    have hcl := canon_len n
    have hwr := fun W => fun (hW : Below w.heap.size w W) => write9_any n v W (by omega) (by omega) (hT.next hW) (hv.keep hW.block hW.size)
    have hrw := fun W => fun (hW : Below w.heap.size w W) => refWrite9_any n v W (by omega) (hv.keep hW.block hW.size)
    have hck := fun W => fun (hW : Below w.heap.size w W) => check9_any n v W (by omega) (hT.next hW) (hv.keep hW.block hW.size)
    obtain ⟨A, cap, K, kcap, rfl, ha, hk, hcap, hkcap⟩ := hv.open_
    generalize vld true n 1 = E at *
    generalize outOf n E = O at *
    generalize errOf E = R at *
    have HTL := Lib.hid htl
    have HAL := Lib.hid hal
    have HWR := Lib.hid hwr
    have HRW := Lib.hid hrw
    have HCK := Lib.hid hck
    clear htl hal hwr hrw hck hv ha hk hT hf h hcl hs
    go_enter Tryd.func3, Tryd.ntmps3
    go_wp2_with (first
      | (go_at_call 7; refine (HTL.out _ (F1.out _)).mono ?_; rintro e w1 ⟨rfl, hb1⟩; have hbx := (hb1.block w.heap.size (by simp)).trans (heap_alloc_new w (nodeBox n A cap K kcap)); obtain ⟨k0, k1, k2, k3, k4, k5, k6⟩ := cells7 hbx; have hb1' := (F1.out _).trans (hb1.mono (show w.heap.size ≤ (w.alloc _).heap.size by simp)))
      | (go_at_call 9; refine (HWR.out _ hb1').mono ?_; rintro e w2 ⟨rfl, hb2⟩; have hbx2 := (hb2.block w.heap.size (heap_lt hbx)).trans hbx; clear k0 k1 k2 k3 k4 k5 k6; obtain ⟨m0, m1, m2, m3, m4, m5, m6⟩ := cells7 hbx2; have hb2' := hb1'.trans (hb2.mono hb1'.size))
      | (go_at_call 10; refine (HRW.out _ hb2').mono ?_; rintro e w3 ⟨rfl, hb3⟩; have hbx3 := (hb3.block w.heap.size (heap_lt hbx2)).trans hbx2; clear m0 m1 m2 m3 m4 m5 m6; have hb3' := hb2'.trans (hb3.mono hb2'.size))
      | (go_at_call 8; refine (HAL.out _ hb3').mono ?_; rintro e w4 ⟨rfl, hb4⟩; have hbx4 := (hb4.block w.heap.size (heap_lt hbx3)).trans hbx3; obtain ⟨n0, n1, n2, n3, n4, n5, n6⟩ := cells7 hbx4; have hb4' := hb3'.trans (hb4.mono hb3'.size))
      | (go_at_call 11; refine (HCK.out _ hb4').mono ?_; rintro e w5 ⟨rfl, hb5⟩))
    go_ret
    exact ⟨rfl, hb4'.trans (hb5.mono hb4'.size)⟩
end Go.Proofs.YthilaolkkamedaaDoor
set_option linter.unusedVariables false
namespace Go.Proofs.YthilaolkkamedaaDoor
open Go.RowKit

set_option maxHeartbeats 4000000 in
set_option maxRecDepth 100000 in
theorem refEqual_true (s : Nat) : ∀ (n m : Node) (v u : Value) (w : World), nsz n ≤ s → NodeV w w.heap.size n v → NodeV w w.heap.size m u → Fit n → Fit m →
    Calls Tryd.prog 14 #[v, u, .bool true] w fun e w' => e = .returned (.bool (eqv true n m)) ∧ Below w.heap.size w w' := by
  induction s with
  | zero => intro n m v u w h; cases n; rw [nsz] at h; omega
  | succ s ih =>
    intro n m v u w hs hv hu hfn hfm
    have ln := hfn.form
    have lm := hfm.form
    cases hh : headEqv true n m
    · have he : eqv true n m = false := by rw [eqv_eq, hh]; rfl
      rw [he]
      exact refEqual_no true n m v u w hv hu hh (by omega) (by omega) (by omega) (by omega)
    · have he : eqv true n m = (attsEqv true n.attrs m.attrs && kidsEqv true n.kids m.kids) := by rw [eqv_eq, hh]; simp
      rw [he]
      obtain ⟨tk, ts, tnm, tt, tp, ta, tc⟩ := headEqv_true hh
      generalize hE : (attsEqv true n.attrs m.attrs && kidsEqv true n.kids m.kids) = E at *
      obtain ⟨A, c, K, d, rfl, ha, hk, hc, hd⟩ := hv.open_
      obtain ⟨A', c', K', d', rfl, ha', hk', hc', hd'⟩ := hu.open_
      have uk : (n.kind != m.kind) = false := by rw [bne, tk]; rfl
      have us : (n.space != m.space) = false := by rw [bne, ts]; rfl
      have unm : (n.name != m.name) = false := by rw [bne, tnm]; rfl
      have ut : (n.text != m.text) = false := by rw [bne, tt]; rfl
      have ua : ((n.attrs.length : Int) != (m.attrs.length : Int)) = false := by rw [ta]; simp
      have uc : ((n.kids.length : Int) != (m.kids.length : Int)) = false := by rw [tc]; simp
      have la1 : n.attrs.length ≤ m.attrs.length := by omega
      have la2 : m.attrs.length ≤ n.attrs.length := by omega
      have lc1 : n.kids.length ≤ m.kids.length := by omega
      have lc2 : m.kids.length ≤ n.kids.length := by omega
      have lb1 : n.attrs.length ≤ 2600000000000 := ln.1
      have lb2 : n.kids.length ≤ 2600000000000 := ln.2.1
      have upos : (n.pos != m.pos) = false := by rw [bne, tp rfl]; rfl
      have HE := Lib.hid hE
      have HIH := Lib.hid ih
      have HA := Lib.hid ha
      have HA' := Lib.hid ha'
      have HK := Lib.hid hk
      have HK' := Lib.hid hk'
      have HS := Lib.hid hs
      have HLN := Lib.hid ln
      have HLM := Lib.hid lm
      clear tp hE ih ha ha' hk hk' hs ln lm hh he hv hu ta tc hfn hfm
      go_enter Tryd.func14, Tryd.ntmps14
      go_wp2_with fail
      go_loopw [7] (fun i7 wr => ∃ i : Nat, i ≤ n.attrs.length ∧ i7 = .int .i64 i ∧ (attsEqv true (n.attrs.drop i) (m.attrs.drop i) && kidsEqv true n.kids m.kids) = E ∧ Below (w.heap.size + 2) ((w.alloc (nodeBox n A c K d)).alloc (nodeBox m A' c' K' d')) wr) (fun i7 _ => n.attrs.length - (intOf i7).toNat)
      case atStart => exact ⟨0, Nat.zero_le _, rfl, by simpa using HE.out, Below.refl _ _⟩
      case round =>
        obtain ⟨i, hi, rfl, hrem, hb⟩ := hrel
        have hbw : Below w.heap.size w wr := (((Below.refl _ _).alloc (Nat.le_refl _) _).alloc (by simp) _).trans (hb.mono (by omega))
        have hbx : wr.heap[w.heap.size]? = some (nodeBox n A c K d) := (hb.block _ (by omega)).trans ((Below.heap_alloc _ _ _ (by simp)).trans (heap_alloc_new w _))
        have hbm : wr.heap[w.heap.size + 1]? = some (nodeBox m A' c' K' d') := (hb.block _ (by omega)).trans (by have := heap_alloc_new (w.alloc (nodeBox n A c K d)) (nodeBox m A' c' K' d'); simpa using this)
        obtain ⟨n0, n1, n2, n3, n4, n5, n6⟩ := box_cells hbx
        obtain ⟨m0, m1, m2, m3, m4, m5, m6⟩ := box_cells hbm
        have hsz := hb.size
        simp only [World.size_alloc] at hsz
        have q1 : w.heap.size + 1 < wr.heap.size := by omega
        have q2 : w.heap.size < wr.heap.size := by omega
        have q3 : w.heap.size + 1 ≠ wr.heap.size := by omega
        have q4 : w.heap.size ≠ wr.heap.size := by omega
        have HB := Lib.hid hb
        have HBW := Lib.hid hbw
        have HR := Lib.hid hrem
        clear hb hbw hrem hbx hbm n0 n1 n2 n5 n6 m0 m1 m2 m5 m6
        by_cases hlt : i < n.attrs.length
        · have hlt' : i < m.attrs.length := by omega
          clear n4 m4
          have hfin := attsEqv_step (o := true) hlt hlt'
          have FIN : Hid (∀ o o', Below w.heap.size w ((wr.alloc o).alloc o')) := fun o o' => (HBW.out.alloc (by omega) _).alloc (by simp; omega) _
          have FIN2 : Hid (∀ o o', Below (w.heap.size + 2) ((w.alloc (nodeBox n A c K d)).alloc (nodeBox m A' c' K' d')) ((wr.alloc o).alloc o')) := fun o o' => (HB.out.alloc (by omega) _).alloc (by simp; omega) _
          obtain ⟨b, off, rfl, hbl, hr⟩ := HA.out.at_ hlt
          obtain ⟨b', off', rfl, hbl', hr'⟩ := HA'.out.at_ hlt'
          have HR1 := Lib.hid (show wr.rangeAt b (off + i * 4) (attCells n.attrs[i]) from rangeAt_keep hr (HBW.out.block b hbl))
          have HR2 : Hid (∀ o, (wr.alloc o).rangeAt b' (off' + i * 4) (attCells m.attrs[i])) := fun o => rangeAt_keep hr' ((Below.heap_alloc wr o b' (by omega)).trans (HBW.out.block b' hbl'))
          have HF := Lib.hid hfin
          clear hr hr' hfin
          have hE0 : attEqv true n.attrs[i] m.attrs[i] = false → E = false := fun h => by rw [← HR.out, HF.out, h]; rfl
          have hE1 : attEqv true n.attrs[i] m.attrs[i] = true → (attsEqv true (n.attrs.drop (i + 1)) (m.attrs.drop (i + 1)) && kidsEqv true n.kids m.kids) = E := fun h => by rw [← HR.out, HF.out, h, Bool.true_and]
          have HE0 := Lib.hid hE0
          have HE1 := Lib.hid hE1
          clear hE0 hE1
          generalize n.attrs[i] = a at *
          generalize m.attrs[i] = a' at *
          rcases xs : (a.space == a'.space) with _ | _
          · have ys : (a.space != a'.space) = true := by rw [bne, xs]; rfl
            have hz := HE0.out (by simp [attEqv, xs])
            have HZ := Lib.hid hz
            clear hz
            go_wp2_with (first
              | (refine wp_load_att rfl _ rfl b (off + i * 4) rfl a HR1.out ?_)
              | (refine wp_load_att rfl _ rfl b' (off' + i * 4) rfl a' (HR2.out _) ?_))
            go_ret
            exact ⟨ret_bool HZ.out.symm, FIN.out _ _⟩
          · have ys : (a.space != a'.space) = false := by rw [bne, xs]; rfl
            rcases xn : (a.name == a'.name) with _ | _
            · have yn : (a.name != a'.name) = true := by rw [bne, xn]; rfl
              have hz := HE0.out (by simp [attEqv, xs, xn])
              have HZ := Lib.hid hz
              clear hz
              go_wp2_with (first
                | (refine wp_load_att rfl _ rfl b (off + i * 4) rfl a HR1.out ?_)
                | (refine wp_load_att rfl _ rfl b' (off' + i * 4) rfl a' (HR2.out _) ?_))
              go_ret
              exact ⟨ret_bool HZ.out.symm, FIN.out _ _⟩
            · have yn : (a.name != a'.name) = false := by rw [bne, xn]; rfl
              rcases xv : (a.value == a'.value) with _ | _
              · have yv : (a.value != a'.value) = true := by rw [bne, xv]; rfl
                have hz := HE0.out (by simp [attEqv, xs, xn, xv])
                have HZ := Lib.hid hz
                clear hz
                go_wp2_with (first
                  | (refine wp_load_att rfl _ rfl b (off + i * 4) rfl a HR1.out ?_)
                  | (refine wp_load_att rfl _ rfl b' (off' + i * 4) rfl a' (HR2.out _) ?_))
                go_ret
                exact ⟨ret_bool HZ.out.symm, FIN.out _ _⟩
              · have yv : (a.value != a'.value) = false := by rw [bne, xv]; rfl
                rcases xp : (a.pos == a'.pos) with _ | _
                · have yp : (a.pos != a'.pos) = true := by rw [bne, xp]; rfl
                  have hz := HE0.out (by simp [attEqv, xs, xn, xv, xp])
                  have HZ := Lib.hid hz
                  clear hz
                  go_wp2_with (first
                    | (refine wp_load_att rfl _ rfl b (off + i * 4) rfl a HR1.out ?_)
                    | (refine wp_load_att rfl _ rfl b' (off' + i * 4) rfl a' (HR2.out _) ?_))
                  go_ret
                  exact ⟨ret_bool HZ.out.symm, FIN.out _ _⟩
                · have yp : (a.pos != a'.pos) = false := by rw [bne, xp]; rfl
                  have hz := HE1.out (by simp [attEqv, xs, xn, xv, xp])
                  have HZ := Lib.hid hz
                  clear hz
                  go_wp2_with (first
                    | (refine wp_load_att rfl _ rfl b (off + i * 4) rfl a HR1.out ?_)
                    | (refine wp_load_att rfl _ rfl b' (off' + i * 4) rfl a' (HR2.out _) ?_))
                  go_roundw
                  case rel => exact ⟨i + 1, by omega, by go_num, HZ.out, FIN2.out _ _⟩
                  case measure => simp [intOf]; omega
        · obtain rfl : i = n.attrs.length := by omega
          rw [List.drop_length, attsEqv_nil, Bool.true_and] at HR

          obtain ⟨wo, rfl⟩ : ∃ wo : World, wo = wr := ⟨_, rfl⟩
          go_wp2_with fail
          clear n3 m3
          go_loopw [10] (fun i10 wr => ∃ i : Nat, i ≤ n.kids.length ∧ i10 = .int .i64 i ∧ kidsEqv true (n.kids.drop i) (m.kids.drop i) = E ∧ Below (w.heap.size + 2) wo wr) (fun i10 _ => n.kids.length - (intOf i10).toNat)
          case atStart => exact ⟨0, Nat.zero_le _, rfl, by simpa using HR.out, Below.refl _ _⟩
          case round =>
            obtain ⟨i, hi, rfl, hrem, hb⟩ := hrel
            have hbw2 : Below w.heap.size w wr := HBW.out.trans (hb.mono (by omega))
            have n4' : wr.cell? ⟨w.heap.size, 4, none⟩ = some (.slice K n.kids.length d) := (hb.cell (p := ⟨w.heap.size, 4, none⟩) (by simp)).trans n4
            have m4' : wr.cell? ⟨w.heap.size + 1, 4, none⟩ = some (.slice K' m.kids.length d') := (hb.cell (p := ⟨w.heap.size + 1, 4, none⟩) (by simp)).trans m4
            have hsz2 := hb.size
            have HB2 := Lib.hid hb
            have HBW2 := Lib.hid hbw2
            have HR2 := Lib.hid hrem
            clear hb hbw2 hrem n4 m4
            by_cases hlt2 : i < n.kids.length
            · have hlt2' : i < m.kids.length := by omega
              have hfin := kidsEqv_step (o := true) hlt2 hlt2'
              rw [HR2.out] at hfin
              obtain ⟨b, off, cs, rfl, hbl, hr, hcs⟩ := HK.out.at_ hlt2
              obtain ⟨b', off', cs', rfl, hbl', hr', hcs'⟩ := HK'.out.at_ hlt2'
              have HR3 := Lib.hid (show wr.drew.rangeAt b (off + i * 7) cs from rangeAt_keep hr (HBW2.out.block b hbl))
              have HR4 := Lib.hid (show wr.drew.rangeAt b' (off' + i * 7) cs' from rangeAt_keep hr' (HBW2.out.block b' hbl'))
              have hnv : NodeV wr.drew wr.drew.heap.size n.kids[i] (.agg cs.toArray) := NodeV.keep (w := w) (B := w.heap.size) ⟨cs, rfl, hcs⟩ HBW2.out.block HBW2.out.size
              have hmv : NodeV wr.drew wr.drew.heap.size m.kids[i] (.agg cs'.toArray) := NodeV.keep (w := w) (B := w.heap.size) ⟨cs', rfl, hcs'⟩ HBW2.out.block HBW2.out.size
              have hcall := HIH.out n.kids[i] m.kids[i] _ _ wr.drew (by have := nsz_get n hlt2; have := HS.out; omega) hnv hmv (HLN.out.2.2 _ (List.getElem_mem hlt2)) (HLM.out.2.2 _ (List.getElem_mem hlt2'))
              obtain ⟨A1, c1, K1, d1, rfl, _, _, _, _⟩ := hcs.open_
              obtain ⟨A2, c2, K2, d2, rfl, _, _, _, _⟩ := hcs'.open_
              have HC := Lib.hid hcall
              have HF := Lib.hid hfin
              have hi0 : (i : Int) < n.kids.length := by omega
              have hi1 : (i : Int) < m.kids.length := by omega
              clear hr hr' hcs hcs' hfin hnv hmv hcall
              generalize eqv true n.kids[i] m.kids[i] = q at *
              have n4'' : wr.drew.cell? ⟨w.heap.size, 4, none⟩ = some (.slice (some ⟨b, off, none⟩) n.kids.length d) := n4'
              have m4'' : wr.drew.cell? ⟨w.heap.size + 1, 4, none⟩ = some (.slice (some ⟨b', off', none⟩) m.kids.length d') := m4'
              go_wp2_with fail
              go_still_tail 11, (by kernel_rfl)
              refine still_load_node rfl _ rfl b (off + i * 7) rfl _ rfl HR3.out ?_
              repeat still_step
              refine still_load_node rfl _ rfl b' (off' + i * 7) rfl _ rfl HR4.out ?_
              repeat still_step
              refine wpStill_nil ?_
              change wpList _ _ _ _ _ wr.drew
              clear n4' m4'
              cases q
              all_goals
                go_wp2_with (go_at_call 14; refine HC.out.mono ?_; rintro e w' ⟨rfl, hb'⟩)
              · go_ret
                exact ⟨ret_bool (by rw [HF.out]; rfl), HBW2.out.trans ((below_undrew' hb').mono (show w.heap.size ≤ wr.heap.size by omega))⟩
              · go_roundw
                case rel => exact ⟨i + 1, by omega, by go_num, by rw [HF.out, Bool.true_and], HB2.out.trans ((below_undrew' hb').mono (show w.heap.size + 2 ≤ wr.heap.size by omega))⟩
                case measure => simp [intOf]; omega
            · obtain rfl : i = n.kids.length := by omega
              rw [List.drop_length, kidsEqv_nil] at HR2
              go_wp2_with fail
              go_ret
              exact ⟨ret_bool HR2.out, HBW2.out⟩
theorem refEqual_any (o : Bool) (n m : Node) (v u : Value) (w : World) (hv : NodeV w w.heap.size n v) (hu : NodeV w w.heap.size m u) (hn : Fit n) (hm : Fit m) :
    Calls Tryd.prog 14 #[v, u, .bool o] w fun e w' => e = .returned (.bool (eqv o n m)) ∧ Below w.heap.size w w' := by
  cases o
  · exact refEqual_false _ n m v u w (Nat.le_refl _) hv hu hn hm
  · exact refEqual_true _ n m v u w (Nat.le_refl _) hv hu hn hm
end Go.Proofs.YthilaolkkamedaaDoor
set_option linter.unusedVariables false
namespace Go.Proofs.YthilaolkkamedaaDoor
open Go.RowKit

/-- Two parameters' boxes. -/
structure Box2 (w : World) (b : Nat) (x y : Obj) : Prop where
  one : w.heap[b]? = some x
  two : w.heap[b + 1]? = some y
theorem Box2.new (w : World) (x y : Obj) : Box2 ((w.alloc x).alloc y) w.heap.size x y :=
  ⟨(Below.heap_alloc _ _ _ (by simp)).trans (heap_alloc_new w x), by have := heap_alloc_new (w.alloc x) y; simpa using this⟩
theorem Box2.next {w w' : World} {b : Nat} {x y : Obj} (h : Box2 w b x y) (hb : Below w.heap.size w w') : Box2 w' b x y :=
  ⟨(hb.block _ (heap_lt h.one)).trans h.one, (hb.block _ (heap_lt h.two)).trans h.two⟩
theorem Box2.lt {w : World} {b : Nat} {x y : Obj} (h : Box2 w b x y) : b + 2 ≤ w.heap.size := heap_lt h.two
theorem Box2.cells {w : World} {b : Nat} {c0 c1 c2 c3 c4 c5 c6 d0 d1 d2 d3 d4 d5 d6 : Value} {t : TypeId} {fr : Nat × Nat} (h : Box2 w b (.cells #[c0, c1, c2, c3, c4, c5, c6] t fr) (.cells #[d0, d1, d2, d3, d4, d5, d6] t fr)) :
    (w.cell? ⟨b, 0, none⟩ = some c0 ∧ w.cell? ⟨b, 1, none⟩ = some c1 ∧ w.cell? ⟨b, 2, none⟩ = some c2 ∧ w.cell? ⟨b, 3, none⟩ = some c3 ∧ w.cell? ⟨b, 4, none⟩ = some c4 ∧ w.cell? ⟨b, 5, none⟩ = some c5 ∧ w.cell? ⟨b, 6, none⟩ = some c6) ∧
    (w.cell? ⟨b + 1, 0, none⟩ = some d0 ∧ w.cell? ⟨b + 1, 1, none⟩ = some d1 ∧ w.cell? ⟨b + 1, 2, none⟩ = some d2 ∧ w.cell? ⟨b + 1, 3, none⟩ = some d3 ∧ w.cell? ⟨b + 1, 4, none⟩ = some d4 ∧ w.cell? ⟨b + 1, 5, none⟩ = some d5 ∧ w.cell? ⟨b + 1, 6, none⟩ = some d6) :=
  ⟨cells7 h.one, cells7 h.two⟩

set_option maxHeartbeats 4000000 in
set_option maxRecDepth 100000 in
theorem law9injective_any (n m : Node) (v u : Value) (w : World) (hT : Tabs w) (hf : Fit n) (hg : Fit m) (hv : NodeV w w.heap.size n v) (hu : NodeV w w.heap.size m u) :
    Calls Tryd.prog 5 #[v, u] w fun e w' => e = .returned (.bool true) ∧ Below w.heap.size w w' := by
  have htl := fun W => fun (hW : Below w.heap.size w W) => tooLarge_any n v W hf (hv.keep hW.block hW.size)
  have htm := fun W => fun (hW : Below w.heap.size w W) => tooLarge_any m u W hg (hu.keep hW.block hW.size)
  have hal := fun W => fun (hW : Below w.heap.size w W) => alive9_any W (hT.next hW)
  have heq := fun W => fun (hW : Below w.heap.size w W) => refEqual_any false n m v u W (hv.keep hW.block hW.size) (hu.keep hW.block hW.size) hf hg
  have HAL := Lib.hid hal
  rcases tooLarge_cases n with h | ⟨h, hs⟩
  · rw [h] at htl
    obtain ⟨A, cap, K, kcap, rfl, ha, hk, hcap, hkcap⟩ := hv.open_
    obtain ⟨A2, cap2, K2, kcap2, rfl, ha2, hk2, hcap2, hkcap2⟩ := hu.open_
    have HTL := Lib.hid htl
    have F2 : Hid (∀ x y, Below w.heap.size w ((w.alloc x).alloc y)) := fun x y => ((Below.refl _ _).alloc (Nat.le_refl _) x).alloc (by simp) y
    clear htl htm hal heq hv hu ha hk ha2 hk2 hT hf hg h
    go_enter Tryd.func5, Tryd.ntmps5
    go_wp2_with (first
      | (go_at_call 7; refine (HTL.out _ (F2.out _ _)).mono ?_; rintro e w1 ⟨rfl, hb1⟩; have hb1' := (F2.out _ _).trans (hb1.mono (show w.heap.size ≤ ((w.alloc _).alloc _).heap.size by simp; omega)))
      | (go_at_call 8; refine (HAL.out _ hb1').mono ?_; rintro e w2 ⟨rfl, hb2⟩))
    go_ret
    exact ⟨rfl, hb1'.trans (hb2.mono hb1'.size)⟩
  rcases tooLarge_cases m with h2 | ⟨h2, hs2⟩
  · rw [h] at htl
    rw [h2] at htm
    obtain ⟨A, cap, K, kcap, rfl, ha, hk, hcap, hkcap⟩ := hv.open_
    obtain ⟨A2, cap2, K2, kcap2, rfl, ha2, hk2, hcap2, hkcap2⟩ := hu.open_
    have HTL := Lib.hid htl
    have HTM := Lib.hid htm
    have F2 : Hid (∀ x y, Below w.heap.size w ((w.alloc x).alloc y)) := fun x y => ((Below.refl _ _).alloc (Nat.le_refl _) x).alloc (by simp) y
    have B0 := Lib.hid (Box2.new w (nodeBox n A cap K kcap) (nodeBox m A2 cap2 K2 kcap2))
    clear htl htm hal heq hv hu ha hk ha2 hk2 hT hf hg h h2 hs
    go_enter Tryd.func5, Tryd.ntmps5
    go_wp2_with fail
    refine (HTL.out _ (F2.out _ _)).mono ?_
    rintro e w1 ⟨rfl, hb1⟩
    have hb1' := (F2.out _ _).trans (hb1.mono (show w.heap.size ≤ ((w.alloc _).alloc _).heap.size by simp; omega))
    obtain ⟨⟨k0, k1, k2, k3, k4, k5, k6⟩, l0, l1, l2, l3, l4, l5, l6⟩ := (B0.out.next hb1).cells
    go_wp2_with fail
    refine (HTM.out _ hb1').mono ?_
    rintro e w2 ⟨rfl, hb2⟩
    have hb2' := hb1'.trans (hb2.mono hb1'.size)
    go_wp2_with (go_at_call 8; refine (HAL.out _ hb2').mono ?_; rintro e w3 ⟨rfl, hb3⟩)
    go_ret
    exact ⟨rfl, hb2'.trans (hb3.mono hb2'.size)⟩
  rw [h] at htl
  rw [h2] at htm
  have hwn := fun W => fun (hW : Below w.heap.size w W) => write9_any n v W (by omega) (by have := canon_len n; omega) (hT.next hW) (hv.keep hW.block hW.size)
  have hwm := fun W => fun (hW : Below w.heap.size w W) => write9_any m u W (by omega) (by have := canon_len m; omega) (hT.next hW) (hu.keep hW.block hW.size)
  have hcn := fun W => fun (hW : Below w.heap.size w W) => refCheck9_any n v W (by omega) (hv.keep hW.block hW.size)
  have hcm := fun W => fun (hW : Below w.heap.size w W) => refCheck9_any m u W (by omega) (hu.keep hW.block hW.size)
  have hdoc : vld true n 1 = true → vld true m 1 = true → (doc n == doc m) = eqv false n m := fun h1 h2 => by
    have e1 : vld false n 1 = true := by rw [vld_depth n 1 (by rw [(vld_head h1).1]; decide)] at h1; simp at h1; exact h1.1
    have e2 : vld false m 1 = true := by rw [vld_depth m 1 (by rw [(vld_head h2).1]; decide)] at h2; simp at h2; exact h2.1
    exact doc_eqv e1 e2
  obtain ⟨A, cap, K, kcap, rfl, ha, hk, hcap, hkcap⟩ := hv.open_
  obtain ⟨A2, cap2, K2, kcap2, rfl, ha2, hk2, hcap2, hkcap2⟩ := hu.open_
  have HTL := Lib.hid htl
  have HTM := Lib.hid htm
  have F2 : Hid (∀ x y, Below w.heap.size w ((w.alloc x).alloc y)) := fun x y => ((Below.refl _ _).alloc (Nat.le_refl _) x).alloc (by simp) y
  have B0 := Lib.hid (Box2.new w (nodeBox n A cap K kcap) (nodeBox m A2 cap2 K2 kcap2))
  clear htl htm hal hv hu ha hk ha2 hk2 hT hf hg h h2 hs hs2
  cases E : vld true n 1
  · rw [E] at hcn
    have HCN := Lib.hid hcn
    clear hcn hcm hwn hwm hdoc heq E
    go_enter Tryd.func5, Tryd.ntmps5
    go_wp2_with fail
    refine (HTL.out _ (F2.out _ _)).mono ?_
    rintro e w1 ⟨rfl, hb1⟩
    have hb1' := (F2.out _ _).trans (hb1.mono (show w.heap.size ≤ ((w.alloc _).alloc _).heap.size by simp; omega))
    have B1 := Lib.hid (B0.out.next hb1)
    obtain ⟨⟨k0, k1, k2, k3, k4, k5, k6⟩, l0, l1, l2, l3, l4, l5, l6⟩ := B1.out.cells
    go_wp2_with fail
    refine (HTM.out _ hb1').mono ?_
    rintro e w2 ⟨rfl, hb2⟩
    have hb2' := hb1'.trans (hb2.mono hb1'.size)
    have B2 := Lib.hid (B1.out.next hb2)
    clear k0 k1 k2 k3 k4 k5 k6 l0 l1 l2 l3 l4 l5 l6
    obtain ⟨⟨k0, k1, k2, k3, k4, k5, k6⟩, l0, l1, l2, l3, l4, l5, l6⟩ := B2.out.cells
    go_wp2_with fail
    refine (HCN.out _ hb2').mono ?_
    rintro e w3 ⟨rfl, hb3⟩
    have hb3' := hb2'.trans (hb3.mono hb2'.size)
    go_wp2_with (go_at_call 8; refine (HAL.out _ hb3').mono ?_; rintro e w4 ⟨rfl, hb4⟩)
    go_ret
    exact ⟨rfl, hb3'.trans (hb4.mono hb3'.size)⟩
  cases E2 : vld true m 1
  · rw [E] at hcn
    rw [E2] at hcm
    have HCN := Lib.hid hcn
    have HCM := Lib.hid hcm
    clear hcn hcm hwn hwm hdoc heq E E2
    go_enter Tryd.func5, Tryd.ntmps5
    go_wp2_with fail
    refine (HTL.out _ (F2.out _ _)).mono ?_
    rintro e w1 ⟨rfl, hb1⟩
    have hb1' := (F2.out _ _).trans (hb1.mono (show w.heap.size ≤ ((w.alloc _).alloc _).heap.size by simp; omega))
    have B1 := Lib.hid (B0.out.next hb1)
    obtain ⟨⟨k0, k1, k2, k3, k4, k5, k6⟩, l0, l1, l2, l3, l4, l5, l6⟩ := B1.out.cells
    go_wp2_with fail
    refine (HTM.out _ hb1').mono ?_
    rintro e w2 ⟨rfl, hb2⟩
    have hb2' := hb1'.trans (hb2.mono hb1'.size)
    have B2 := Lib.hid (B1.out.next hb2)
    clear k0 k1 k2 k3 k4 k5 k6 l0 l1 l2 l3 l4 l5 l6
    obtain ⟨⟨k0, k1, k2, k3, k4, k5, k6⟩, l0, l1, l2, l3, l4, l5, l6⟩ := B2.out.cells
    go_wp2_with fail
    refine (HCN.out _ hb2').mono ?_
    rintro e w3 ⟨rfl, hb3⟩
    have hb3' := hb2'.trans (hb3.mono hb2'.size)
    have B3 := Lib.hid (B2.out.next hb3)
    clear k0 k1 k2 k3 k4 k5 k6 l0 l1 l2 l3 l4 l5 l6
    obtain ⟨⟨k0, k1, k2, k3, k4, k5, k6⟩, l0, l1, l2, l3, l4, l5, l6⟩ := B3.out.cells
    go_wp2_with fail
    refine (HCM.out _ hb3').mono ?_
    rintro e w4 ⟨rfl, hb4⟩
    have hb4' := hb3'.trans (hb4.mono hb3'.size)
    go_wp2_with (go_at_call 8; refine (HAL.out _ hb4').mono ?_; rintro e w5 ⟨rfl, hb5⟩)
    go_ret
    exact ⟨rfl, hb4'.trans (hb5.mono hb4'.size)⟩
  have hxy := hdoc E E2
  rw [E] at hcn hwn
  rw [E2] at hcm hwm
  rw [show outOf n true = doc n from rfl] at hwn
  rw [show outOf m true = doc m from rfl] at hwm
  generalize doc n = X at *
  generalize doc m = Y at *
  generalize eqv false n m = q at *
  have HCN := Lib.hid hcn
  have HCM := Lib.hid hcm
  have HWN := Lib.hid hwn
  have HWM := Lib.hid hwm
  have HEQ := Lib.hid heq
  clear hcn hcm hwn hwm hdoc heq E E2
  go_enter Tryd.func5, Tryd.ntmps5
  go_wp2_with fail
  refine (HTL.out _ (F2.out _ _)).mono ?_
  rintro e w1 ⟨rfl, hb1⟩
  have hb1' := (F2.out _ _).trans (hb1.mono (show w.heap.size ≤ ((w.alloc _).alloc _).heap.size by simp; omega))
  have B1 := Lib.hid (B0.out.next hb1)
  obtain ⟨⟨k0, k1, k2, k3, k4, k5, k6⟩, l0, l1, l2, l3, l4, l5, l6⟩ := B1.out.cells
  go_wp2_with fail
  refine (HTM.out _ hb1').mono ?_
  rintro e w2 ⟨rfl, hb2⟩
  have hb2' := hb1'.trans (hb2.mono hb1'.size)
  have B2 := Lib.hid (B1.out.next hb2)
  clear k0 k1 k2 k3 k4 k5 k6 l0 l1 l2 l3 l4 l5 l6
  obtain ⟨⟨k0, k1, k2, k3, k4, k5, k6⟩, l0, l1, l2, l3, l4, l5, l6⟩ := B2.out.cells
  go_wp2_with fail
  refine (HCN.out _ hb2').mono ?_
  rintro e w3 ⟨rfl, hb3⟩
  have hb3' := hb2'.trans (hb3.mono hb2'.size)
  have B3 := Lib.hid (B2.out.next hb3)
  clear k0 k1 k2 k3 k4 k5 k6 l0 l1 l2 l3 l4 l5 l6
  obtain ⟨⟨k0, k1, k2, k3, k4, k5, k6⟩, l0, l1, l2, l3, l4, l5, l6⟩ := B3.out.cells
  go_wp2_with fail
  refine (HCM.out _ hb3').mono ?_
  rintro e w4 ⟨rfl, hb4⟩
  have hb4' := hb3'.trans (hb4.mono hb3'.size)
  have B4 := Lib.hid (B3.out.next hb4)
  clear k0 k1 k2 k3 k4 k5 k6 l0 l1 l2 l3 l4 l5 l6 hb1 hb2 hb3 hb1' hb2' hb3'
  obtain ⟨⟨k0, k1, k2, k3, k4, k5, k6⟩, l0, l1, l2, l3, l4, l5, l6⟩ := B4.out.cells
  go_wp2_with fail
  refine (HWN.out _ hb4').mono ?_
  rintro e w5 ⟨rfl, hb5⟩
  have hb5' := hb4'.trans (hb5.mono hb4'.size)
  have B5 := Lib.hid (B4.out.next hb5)
  clear k0 k1 k2 k3 k4 k5 k6 l0 l1 l2 l3 l4 l5 l6
  obtain ⟨⟨k0, k1, k2, k3, k4, k5, k6⟩, l0, l1, l2, l3, l4, l5, l6⟩ := B5.out.cells
  go_wp2_with fail
  refine (HWM.out _ hb5').mono ?_
  rintro e w6 ⟨rfl, hb6⟩
  have hb6' := hb5'.trans (hb6.mono hb5'.size)
  have B6 := Lib.hid (B5.out.next hb6)
  clear k0 k1 k2 k3 k4 k5 k6 l0 l1 l2 l3 l4 l5 l6
  go_wp2_with fail
  refine (HAL.out _ hb6').mono ?_
  rintro e w7 ⟨rfl, hb7⟩
  have hb7' := hb6'.trans (hb7.mono hb6'.size)
  have B7 := Lib.hid (B6.out.next hb7)
  obtain ⟨⟨k0, k1, k2, k3, k4, k5, k6⟩, l0, l1, l2, l3, l4, l5, l6⟩ := B7.out.cells
  go_wp2_with (go_at_call 14; refine (HEQ.out _ hb7').mono ?_; rintro e w8 ⟨rfl, hb8⟩)
  all_goals go_ret
  all_goals refine ⟨?_, hb7'.trans (hb8.mono hb7'.size)⟩
  all_goals first | rfl | (exact ret_bool (by simp [hxy]))
end Go.Proofs.YthilaolkkamedaaDoor
set_option linter.unusedVariables false
namespace Go.Proofs.YthilaolkkamedaaDoor
open Go.RowKit

theorem StrsIn.at_ {w : World} {B : Nat} {A : Option Addr} {c n : Nat} {l : List Bytes} (h : StrsIn w B (.slice A n c) l) {i : Nat} (hi : i < l.length) : ∃ b off, A = some ⟨b, off, none⟩ ∧ b < B ∧ ∀ (j : Nat) (hj : j < l.length), w.cell? ⟨b, off + j, none⟩ = some (.string (S l[j])) := by
  obtain ⟨A', c', hv, _, _, h⟩ := h
  cases hv
  rcases h with h | ⟨b, off, hA, hb, hr⟩
  · subst h; simp at hi
  · exact ⟨b, off, hA, hb, fun j hj => hr j _ (List.getElem?_eq_getElem hj)⟩

set_option maxHeartbeats 2000000 in
set_option maxRecDepth 100000 in
theorem refWith9_any (n : Node) (vn : Value) (l : List Bytes) (vl : Value) (w : World) (hal : n.attrs.length ≤ 100000000000) (hll : l.length ≤ 100000000000) (hn : NodeV w w.heap.size n vn) (hv : StrsIn w w.heap.size vl l) :
    Calls Tryd.prog 16 #[vn, vl] w fun e w' => ∃ v, e = .returned v ∧ WithV w.heap.size n l w' v ∧ Below w.heap.size w w' := by
  obtain ⟨A, cap, K, kcap, rfl, ha, hk, hcap, hkcap⟩ := hn.open_
  obtain ⟨LA, lcap, rfl, hlc⟩ := hv.form
  have HA := Lib.hid ha
  have HK := Lib.hid hk
  have HV := Lib.hid hv
  obtain ⟨w0, hw0⟩ : ∃ w0, w0 = ((w.alloc (nodeBox n A cap K kcap)).alloc (.cells zNode.toArray 25)).alloc (.cells #[] 37) := ⟨_, rfl⟩
  have hbox : Wth w0 w.heap.size n (.slice A n.attrs.length cap) K kcap := by
    rw [hw0]
    refine ⟨(Below.heap_alloc _ _ _ (by simp; omega)).trans ((Below.heap_alloc _ _ _ (by simp)).trans (heap_alloc_new w _)), (Below.heap_alloc _ _ _ (by simp)).trans ?_⟩
    have := heap_alloc_new (w.alloc (nodeBox n A cap K kcap)) (.cells zNode.toArray 25)
    simpa using this
  have hgc : AttRow w0 (w.heap.size + 2) (.slice (some ⟨w.heap.size + 2, 0, none⟩) 0 0) [] := by
    rw [hw0]
    refine ⟨rfl, .inr ⟨w.heap.size + 2, 0, #[], rfl, Nat.le_refl _, ?_, Nat.le_refl _, Nat.zero_le _, rfl, rfl⟩⟩
    have := heap_alloc_new ((w.alloc (nodeBox n A cap K kcap)).alloc (.cells zNode.toArray 25)) (.cells #[] 37)
    simpa using this
  have hb0 : Below w.heap.size w w0 := by rw [hw0]; exact (((Below.refl _ _).alloc (Nat.le_refl _) _).alloc (by simp) _).alloc (by simp; omega) _
  have hsz0 : w.heap.size + 2 ≤ w0.heap.size := heap_lt hbox.res
  have HBX := Lib.hid hbox
  have HGC := Lib.hid hgc
  have HB0 := Lib.hid hb0
  have HW0 := Lib.hid hw0
  clear ha hk hn hv hbox hgc hb0 hw0
  go_enter Tryd.func16, Tryd.ntmps16
  go_wp2_with (with_reducible refine gate ?_; refine atts_append_all2 rfl _ _ rfl _ (w.heap.size + 2) (.slice (some ⟨w.heap.size + 2, 0, none⟩) 0 0) [] rfl (HW0.out ▸ HGC.out) A cap n.attrs w.heap.size rfl (HW0.out ▸ HA.out.below HB0.out) (HW0.out ▸ hsz0) (by simp; omega) ?_; intro v1 w1 hr1 hg1 hu1)
  rw [List.nil_append] at hr1
  have hu1' : Below (w.heap.size + 2) w0 w1 := HW0.out ▸ hu1
  have HR1 := Lib.hid hr1
  have HB1 := Lib.hid (HB0.out.trans (hu1'.mono (by omega)))
  have HX1 := Lib.hid (HBX.out.below hu1')
  have hll' : (l.length : Int) ≤ 100000000000 := by omega
  clear hr1 hg1 hu1 hu1' HA HBX HGC HB0 HW0 hsz0
  go_loopw [5, 6] (fun s5 s6 wr => ∃ (i : Nat) (done : List Att), i ≤ l.length + 1 ∧ s6 = .int .i64 i ∧ AttRow wr (w.heap.size + 2) s5 done ∧ done ++ pairsOf (l.drop i) = n.attrs ++ pairsOf l ∧ Below w.heap.size w wr ∧ Wth wr w.heap.size n (.slice A n.attrs.length cap) K kcap) (fun _ s6 _ => l.length + 2 - (intOf s6).toNat)
  case atStart => exact ⟨0, n.attrs, by omega, rfl, HR1.out, rfl, HB1.out, HX1.out⟩
  case round =>
    obtain ⟨i, done, hi, rfl, hrow, hdone, hb, hwth⟩ := hrel
    have hdl : done.length ≤ 200000000000 := by
      have := congrArg List.length hdone
      rw [List.length_append, List.length_append, pairsOf_len, pairsOf_len] at this
      omega
    have HB := Lib.hid hb
    have HR := Lib.hid hrow
    have HX := Lib.hid hwth
    have hsz : w.heap.size + 2 ≤ wr.heap.size := heap_lt hwth.res
    clear HR1 HB1 HX1
    by_cases hlt : i + 1 < l.length
    · obtain ⟨xb, off, hLA, hxB, hx⟩ := HV.out.at_ (i := i) (by omega)
      subst hLA
      have hx0 : wr.cell? ⟨xb, off + i, none⟩ = some (.string (S l[i])) := (hb.cell (p := ⟨xb, off + i, none⟩) hxB).trans (hx i (by omega))
      have hx1 : wr.cell? ⟨xb, off + (i + 1), none⟩ = some (.string (S l[i + 1])) := (hb.cell (p := ⟨xb, off + (i + 1), none⟩) hxB).trans (hx (i + 1) hlt)
      have hnx : (done ++ [⟨[], l[i], l[i + 1], 0⟩]) ++ pairsOf (l.drop (i + 2)) = n.attrs ++ pairsOf l := by
        rw [← hdone, List.drop_eq_getElem_cons (show i < l.length by omega), List.drop_eq_getElem_cons hlt, pairsOf]; simp
      generalize l[i] = x at *
      generalize l[i + 1] = y at *
      have HN := Lib.hid hnx
      have hxB2 : xb < w.heap.size + 2 := by omega
      have s1 : IntKind.i64.wrap ((i : Int) + 1) = (i : Int) + 1 := IntWalk.i64_in _ (by omega)
      have s2 : (0 : Int) ≤ (i : Int) + 1 := by omega
      have s3 : (i : Int) + 1 < l.length := by omega
      have s4 : ((i : Int) + 1).toNat = i + 1 := by omega
      have s5 : (i : Int) < l.length := by omega
      obtain ⟨vA, vc, hv5, hvc⟩ := hrow.slice
      subst hv5
      clear hrow hdone hwth hb hnx hx
      go_wp2_with fail
      go_region_held3 (fun W => W.cell? ⟨xb, off + i, none⟩ = some (.string (S x)) ∧ W.cell? ⟨xb, off + (i + 1), none⟩ = some (.string (S y)))
        (first | exact ⟨hx0, hx1⟩ | exact ⟨(q3.cell (p := ⟨xb, off + i, none⟩) hxB2).trans hx0, (q3.cell (p := ⟨xb, off + (i + 1), none⟩) hxB2).trans hx1⟩ | go_keep)
        (first
          | ((refine atts_append_step (by rfl) _ _ (by rfl) wr.drew (w.heap.size + 2) (.slice vA done.length vc) done (by rfl) (HR.out.below (Below.refl _ _).drew) ⟨[], x, y, 0⟩ wr.heap.size (by rfl) (by rfl) hsz (by omega) ?_; intro g c w2 q1 q2 q3)))
      have Q1 := Lib.hid q1
      have Q3 := Lib.hid (HB.out.drew.trans (q3.mono (by omega)))
      have QX := Lib.hid (HX.out.drew.below q3)
      clear q1 q2 q3 hx0 hx1 s1 s2 s3 s4
      go_wp2_with fail
      go_roundw
      case rel => exact ⟨i + 2, _, by omega, by go_num, Q1.out, HN.out, Q3.out, QX.out⟩
      case measure => simp [intOf]; omega
    · have hp : pairsOf (l.drop i) = [] := pairsOf_short (by rw [List.length_drop]; omega)
      have hfin : AttRow wr (w.heap.size + 2) u5 (n.attrs ++ pairsOf l) := by rw [← hdone, hp, List.append_nil]; exact hrow
      have hr3 : (l.length : Int) ≤ (i : Int) + 1 := by omega
      obtain ⟨vA, vc, hv5, hvc⟩ := hrow.slice
      subst hv5
      have hput := hwth.put (.slice vA done.length vc)
      have c3 := hwth.cell
      have f3 := hwth.free
      have hra := range_of_heap (cs := [.int .i64 n.kind, .string (S n.space), .string (S n.name), .slice vA done.length vc, .slice K n.kids.length kcap, .string (S n.text), .int .i64 n.pos]) hput.box
      have hres := hput.res
      have HF := Lib.hid hfin
      clear hrow hdone hwth hb hp hfin hput
      go_wp2_with (first
        | (with_reducible refine gate ?_; refine wp_load_node rfl _ rfl w.heap.size 0 rfl _ rfl hra ?_)
        | (with_reducible refine gate ?_; refine wp_store_node rfl _ _ rfl (w.heap.size + 1) _ _ _ _ _ _ _ _ _ _ _ _ rfl rfl hres rfl ?_; intro w3 hw3 hu3))
      refine bodyPost_ret (v := .agg _) (res_whole Tryd.results16 _ _ (w.heap.size + 1) rfl _ _ hw3 Tryd.underlying25 rfl nodeSize) rfl ⟨_, rfl, ⟨_, _, _, rfl, ?_, ?_⟩, ?_⟩
      · have hlt := HF.out.lt
        refine ownsRow_base (ownsRow_heap HF.out fun k hk => ?_) (by omega)
        have := hlt k hk
        rw [hu3.block k (by simp [World.setCell]; omega) (by omega)]
        exact Below.heap_setCell _ _ _ _ (by simp; omega)
      · exact HK.out.below ((HB.out.setCell (p := ⟨w.heap.size, 3, none⟩) (Nat.le_refl _) _).trans (hu3.below (by omega) (by simp [World.setCell]; omega)))
      · exact (HB.out.setCell (p := ⟨w.heap.size, 3, none⟩) (Nat.le_refl _) _).trans (hu3.below (by omega) (by simp [World.setCell]; omega))
end Go.Proofs.YthilaolkkamedaaDoor
set_option linter.unusedVariables false
namespace Go.Proofs.YthilaolkkamedaaDoor
open Go.RowKit

set_option maxHeartbeats 2000000 in
set_option maxRecDepth 100000 in
theorem refElem9P_any (nm : Bytes) (ks : List Node) (v : Value) (w : World) (p : Nat → Prop) (hp : ∀ b, p b → b < w.heap.size) (hl : ks.length ≤ 1000000) (hv : NodesP w p v ks) :
    Calls Tryd.prog 15 #[.string (S nm), v] w fun e w' => ∃ v, e = .returned v ∧ NodePV w' (fun b => p b ∨ (w.heap.size ≤ b ∧ b < w'.heap.size)) (elemNode nm ks) v ∧ Below w.heap.size w w' := by
  obtain ⟨A, cap, rfl, hcap⟩ : ∃ A cap, v = .slice A ks.length cap ∧ ks.length ≤ cap := by obtain ⟨A, cap, h, hc, _⟩ := hv; exact ⟨A, cap, h, hc⟩
  have HV := Lib.hid hv
  have h0 : Elm ((w.alloc (.cells zNode.toArray 25)).alloc (.cells #[.int .i64 0, .string ⟨#[]⟩, .string (S nm), .slice none 0 0, .slice none 0 0, .string ⟨#[]⟩, .int .i64 0] 25)) w.heap.size nm (.slice none 0 0) :=
    ⟨(Below.heap_alloc _ _ _ (by simp)).trans (heap_alloc_new w _), by have := heap_alloc_new (w.alloc (.cells zNode.toArray 25)) (.cells #[.int .i64 0, .string ⟨#[]⟩, .string (S nm), .slice none 0 0, .slice none 0 0, .string ⟨#[]⟩, .int .i64 0] 25); simpa using this⟩
  have H0 := Lib.hid h0
  clear hv h0
  go_enter Tryd.func15, Tryd.ntmps15
  go_wp2_with fail
  go_loopw [6] (fun i6 wr => ∃ (i : Nat) (vk : Value), i ≤ ks.length ∧ i6 = .int .i64 i ∧ NodeRow wr (w.heap.size + 2) p vk ((ks.take i).filter keepKid) ∧ Elm wr w.heap.size nm vk ∧ Below w.heap.size w wr) (fun i6 _ => ks.length - (intOf i6).toNat)
  case atStart => exact ⟨0, _, Nat.zero_le _, rfl, NodeRow.nil _ _ _, H0.out, ((Below.refl _ _).alloc (Nat.le_refl _) _).alloc (by simp) _⟩
  case round =>
    obtain ⟨i, vk, hi, rfl, hrow, helm, hb⟩ := hrel
    clear H0
    have HR := Lib.hid hrow
    have HE := Lib.hid helm
    have HB := Lib.hid hb
    have hsz : w.heap.size + 2 ≤ wr.heap.size := heap_lt helm.nod
    have hpr : ∀ j, p j → j < wr.heap.size := fun j hj => by have := hp j hj; omega
    by_cases hlt : i < ks.length
    · obtain ⟨bb, off, cs, hAA, hbb, hr, hcs⟩ := HV.out.at_ hlt
      subst hAA
      have hr' : wr.rangeAt bb (off + i * 7) cs := rangeAt_keep hr (hb.block bb (hp bb hbb))
      have hcs' : NodeP wr p ks[i] cs := NodeP.keep (fun j hj => hb.block j (hp j hj)) (fun _ h => h) _ _ hcs
      have hyes := filter_take_yes hlt
      have hno := filter_take_no hlt
      have hkd : keepKid ks[i] = !(ks[i].kind == 1 && ks[i].text == []) := rfl
      have hfl : ((ks.take i).filter keepKid).length < 1000000000000 := by
        have h1 := List.length_filter_le keepKid (ks.take i)
        have h2 : (ks.take i).length ≤ i := by simp; omega
        omega
      obtain ⟨A', c', K', d', hcs2, _, _, _, _⟩ := hcs.open_
      subst hcs2
      generalize ks[i] = k at *
      generalize (ks.take i).filter keepKid = acc at *
      have n0 : wr.cell? ⟨bb, off + i * 7, none⟩ = some (.int .i64 k.kind) := hr' 0 _ rfl
      have n5 : wr.cell? ⟨bb, off + i * 7 + 5, none⟩ = some (.string (S k.text)) := hr' 5 _ rfl
      have n1 : wr.cell? ⟨bb, off + i * 7 + 1, none⟩ = some (.string (S k.space)) := hr' 1 _ rfl
      have n2 : wr.cell? ⟨bb, off + i * 7 + 2, none⟩ = some (.string (S k.name)) := hr' 2 _ rfl
      have n3 : wr.cell? ⟨bb, off + i * 7 + 3, none⟩ = some (.slice A' k.attrs.length c') := hr' 3 _ rfl
      have n4 : wr.cell? ⟨bb, off + i * 7 + 4, none⟩ = some (.slice K' k.kids.length d') := hr' 4 _ rfl
      have n6 : wr.cell? ⟨bb, off + i * 7 + 6, none⟩ = some (.int .i64 k.pos) := hr' 6 _ rfl
      have hlt' : (i : Int) < ks.length := by omega
      have F1 : Hid (∀ o, Below w.heap.size w (wr.alloc o)) := fun o => hb.alloc (by omega) o
      have c4 := helm.cell
      clear hr hr' hcs hb hrow
      have step : keepKid k = true → ∀ (g c : Nat) (w' : World), NodeRow w' (w.heap.size + 2) p (.slice (some ⟨g, 0, none⟩) (acc.length + 1) c) (acc ++ [k]) → Grew wr.drew vk (.slice (some ⟨g, 0, none⟩) (acc.length + 1) c) w' → Below (w.heap.size + 2) wr.drew w' →
          w'.cell? ⟨w.heap.size + 1, 4, none⟩ = some vk ∧ w'.frozen? ⟨w.heap.size + 1, 4, none⟩ = false ∧
          Hid (NodeRow (w'.setCell ⟨w.heap.size + 1, 4, none⟩ (.slice (some ⟨g, 0, none⟩) (acc.length + 1) c)) (w.heap.size + 2) p (.slice (some ⟨g, 0, none⟩) (acc.length + 1) c) ((ks.take (i + 1)).filter keepKid) ∧ Elm (w'.setCell ⟨w.heap.size + 1, 4, none⟩ (.slice (some ⟨g, 0, none⟩) (acc.length + 1) c)) w.heap.size nm (.slice (some ⟨g, 0, none⟩) (acc.length + 1) c) ∧ Below w.heap.size w (w'.setCell ⟨w.heap.size + 1, 4, none⟩ (.slice (some ⟨g, 0, none⟩) (acc.length + 1) c))) := by
        intro hkk g c w' h1 h2 h3
        have he : Elm w' w.heap.size nm vk := (HE.out.below ((Below.refl _ _).drew)).keep h2 (fun k hk => (HR.out.lt k hk).1)
        refine ⟨he.cell, he.free, ?_, he.put _, ?_⟩
        · rw [hyes hkk]
          have hg := h1.lt g rfl
          exact h1.heap (fun j hj => Below.heap_setCell _ _ _ _ (by simp [Value.ownBlock] at hj; simp; omega)) (fun j hj => Below.heap_setCell _ _ _ _ (by have := hp j hj; simp; omega))
        · exact (HB.out.drew.trans (h3.mono (by omega))).setCell (p := ⟨w.heap.size + 1, 4, none⟩) (by simp) _
      have hsk : (k.kind == 1 && k.text == []) = true ∨ keepKid k = true := by rw [hkd]; cases (k.kind == 1 && k.text == []) <;> simp
      by_cases hkk : keepKid k = true
      · have HS := Lib.hid (step hkk)
        have tt : (k.kind == 1) = false ∨ ((k.kind == 1) = true ∧ List.isEmpty k.text = false) := by
          rw [hkd] at hkk
          cases t : (k.kind == 1)
          · exact .inl rfl
          · refine .inr ⟨rfl, ?_⟩
            rw [t] at hkk
            cases hsp : k.text with
            | nil => rw [hsp] at hkk; cases hkk
            | cons x l => rfl
        clear step hyes hno hkd hkk hsk
        have tt2 : (k.kind != 1) = true ∨ ((k.kind != 1) = false ∧ List.isEmpty k.text = false) := by
          rcases tt with t | ⟨t, e⟩
          · exact .inl (by rw [bne, t]; rfl)
          · exact .inr ⟨by rw [bne, t]; rfl, e⟩
        have hcs'' := NodeP.keep (w := wr) (w' := wr.drew) (fun _ _ => rfl) (fun _ h => h) _ _ hcs'
        have hbx : bb < w.heap.size + 2 := by have := hp bb hbb; omega
        have hc4 : ∀ o, (wr.alloc o).cell? ⟨w.heap.size + 1, 4, none⟩ = some vk := fun o => (helm.below ((Below.refl _ _).alloc (Nat.le_refl _) o)).cell
        clear tt hcs' helm
        rcases tt2 with t | ⟨t, e⟩
        all_goals
          go_wp2_with fail
          go_region_law
            (first
              | ((refine nodes_append_step (by rfl) _ _ (by rfl) wr.drew (w.heap.size + 2) p vk acc (by rfl) (HR.out.below (Below.refl _ _).drew hpr) k [.int .i64 k.kind, .string (S k.space), .string (S k.name), .slice A' k.attrs.length c', .slice K' k.kids.length d', .string (S k.text), .int .i64 k.pos] wr.heap.size (by rfl) (by rfl) hcs'' (fun j hj => Nat.lt_of_lt_of_le (hp j hj) (by omega)) hsz hfl ?_; intro g c w1 r1 r2 r3; obtain ⟨f1, f2, f3⟩ := HS.out g c w1 r1 r2 r3)))
          all_goals
            go_wp2_with fail
            go_roundw
            case rel => exact ⟨i + 1, _, by omega, by go_num, f3.out.1, f3.out.2.1, f3.out.2.2⟩
            case measure => simp [intOf]; omega
      · have hsk2 := hsk.resolve_right hkk
        simp only [Bool.and_eq_true, beq_iff_eq] at hsk2
        obtain ⟨t, hx⟩ := hsk2
        have HNO := Lib.hid (hno (by simpa using hkk))
        have t1 : (k.kind == 1) = true := by rw [t]; rfl
        have t2 : (k.kind != 1) = false := by rw [bne, t1]; rfl
        rw [hx] at n5
        have HRW := HR
        clear step hyes hno hkd hkk hcs' HE HR hsk t hx
        go_wp2_with fail
        go_roundw
        case rel => exact ⟨i + 1, vk, by omega, by go_num, by rw [HNO.out]; exact HRW.out, helm, HB.out⟩
        case measure => simp [intOf]; omega
    · obtain rfl : i = ks.length := by omega
      rw [List.take_length] at hrow
      obtain ⟨KA, kc, rfl, hkc⟩ := hrow.slice
      have hnod := helm.nod
      have hres := helm.res
      have hra := range_of_heap hnod
      have HN := Lib.hid hrow
      clear hb hrow helm HR HE
      go_wp2_with (first
        | (with_reducible refine gate ?_; refine wp_load_node rfl _ rfl (w.heap.size + 1) 0 rfl _ rfl hra ?_)
        | (with_reducible refine gate ?_; refine wp_store_node rfl _ _ rfl w.heap.size _ _ _ _ _ _ _ _ _ _ _ _ rfl rfl hres rfl ?_; intro w2 hw2 hu2))
      refine bodyPost_ret (v := .agg _) (res_whole Tryd.results15 _ _ w.heap.size rfl _ _ hw2 Tryd.underlying25 rfl nodeSize) rfl ⟨_, rfl, ?_, ?_⟩
      · have hw : w.heap.size < w2.heap.size := heap_lt hw2
        have hsz2 := hu2.size
        exact NodePV.of_form (n := elemNode nm ks) ⟨none, 0, rfl, Nat.le_refl _, .inl rfl⟩ ((HN.out.heap (fun j hj => by have := HN.out.lt j hj; exact hu2.block j (by omega) (by omega)) (fun j hj => hu2.block j (hpr j hj) (by have := hp j hj; omega))).nodesP (fun j hj => .inl hj) (fun j hj => .inr (by have := HN.out.lt j hj; omega)))
      · exact HB.out.trans (hu2.below (Nat.le_refl _) (by omega))
theorem refElem9_any (nm : Bytes) (ks : List Node) (v : Value) (w : World) (hl : ks.length ≤ 1000000) (hv : NodesIn w w.heap.size v ks) :
    Calls Tryd.prog 15 #[.string (S nm), v] w fun e w' => ∃ v, e = .returned v ∧ NodeV w' w'.heap.size (elemNode nm ks) v ∧ Below w.heap.size w w' := by
  refine (refElem9P_any nm ks v w (· < w.heap.size) (fun _ h => h) hl hv.toP).mono ?_
  rintro e w' ⟨v', rfl, h1, h2⟩
  exact ⟨v', rfl, h1.toV (fun k hk => hk.elim (fun h => Nat.lt_of_lt_of_le h h2.size) (fun h => h.2)), h2⟩
end Go.Proofs.YthilaolkkamedaaDoor
