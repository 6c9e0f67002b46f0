/-
  Walk of chapter 9: the reference's valid, an element with a good head.
-/
import Derived.Test.YthilaolkkamedaaDoorRefV2
set_option linter.unusedVariables false
namespace Go.Proofs.YthilaolkkamedaaDoor
open Go.RowKit

def names (l : List Att) : List Bytes := l.map Att.name
theorem names_take {l : List Att} {i : Nat} (h : i < l.length) : ∀ x, x ∈ (l[i].name :: names (l.take i)) ↔ x ∈ names (l.take (i + 1)) := by
  intro x
  simp only [names, ← List.take_append_getElem h, List.map_append, List.mem_append, List.map_cons, List.map_nil, List.mem_cons, List.not_mem_nil, or_false]
  exact or_comm
theorem attsOk_at {l : List Att} {i : Nat} (h : i < l.length) : attsOkS (names (l.take i)) (l.drop i) = (l[i].space == [] && !(names (l.take i)).contains l[i].name && isQName l[i].name && charsOk l[i].value && attsOkS (names (l.take (i + 1))) (l.drop (i + 1))) := by
  rw [attsOkS_step h, attsOkS_perm _ _ _ (names_take h)]

theorem below_drewN' {B : Nat} {w w' : World} (h : Below B w w') (n : Nat) : Below B w (w'.drewN n) := ⟨h.os, h.tape, h.output, h.size, h.block⟩
/-- Is the kid ahead of place i character data? -/
def prevText (ks : List Node) (i : Nat) : Bool := match i with
  | 0 => false
  | j + 1 => (ks[j]?.map (fun k => k.kind == 1)).getD false
theorem prevText_succ {ks : List Node} {i : Nat} (h : i < ks.length) : prevText ks (i + 1) = (ks[i].kind == 1) := by simp [prevText, h]
theorem prevText_pos {ks : List Node} {i : Nat} (h : i < ks.length) (h0 : 0 < i) : prevText ks i = (ks[i - 1].kind == 1) := by
  obtain ⟨j, rfl⟩ : ∃ j, i = j + 1 := ⟨i - 1, by omega⟩
  simp [prevText, show j < ks.length by omega]

set_option maxHeartbeats 4000000 in
set_option maxRecDepth 200000 in
theorem refValid_any (m : Nat) : ∀ (n : Node) (v : Value) (w : World), nsz n ≤ m → full n ≤ 1000000 → NodeV w w.heap.size n v →
    Calls Tryd.prog 29 #[v] w fun e w' => e = .returned (.bool (rvl n)) ∧ Below w.heap.size w w' := by
  induction m with
  | zero => intro n v w h; cases n; rw [nsz] at h; omega
  | succ m ih =>
    intro n v w hm hs hv
    by_cases hk1 : n.kind = 1
    · rw [rvl, if_pos (by rw [hk1]; rfl)]; exact refValid_text n v w hk1 hs hv
    have t1 : (n.kind == 1) = false := by rw [beq_eq_false_iff_ne]; exact hk1
    have hE : rvl n = (headOk n && vldL false n.kids 0 false) := by rw [rvl, t1, if_neg (by decide), vld_eq]; simp
    cases hh : (n.kind == 0 && n.space == [] && n.text == [] && isQName n.name)
    · have hF : rvl n = false := by rw [hE, headOk, hh]; simp
      rw [hF]; exact refValid_head n v w hk1 hs hv hh
    rw [hE, headOk, hh, Bool.true_and]
    clear hE
    obtain ⟨A, cap, K, kcap, rfl, ha, hk, hcap, hkcap⟩ := hv.open_
    have hp := parts n hs
    have hq := fun W => refIsQName_any n.name W (by have := hp.name; omega)
    have hge := fun (i : Nat) (h : i < n.kids.length) => nsz_get n h
    simp only [Bool.and_eq_true, beq_iff_eq] at hh
    obtain ⟨⟨⟨h1, h2⟩, h3⟩, h4⟩ := hh
    rw [h4] at hq
    have hkl : n.kids.length < 1000000 := hp.kids
    have hal : n.attrs.length < 1000000 := hp.attrs
    have t0 : (n.kind == 0) = true := by rw [h1]; rfl
    have t2 : (n.kind != 0) = false := by rw [bne, t0]; rfl
    have HIH := Lib.hid ih
    have HQ := Lib.hid hq
    have HA := Lib.hid ha
    have HK := Lib.hid hk
    have HM := Lib.hid hm
    have HP := Lib.hid hp
    have HGE := Lib.hid hge
    have F1 : Hid (∀ o, Below w.heap.size w (w.alloc o)) := fun o => (Below.refl _ _).alloc (Nat.le_refl _) o
    obtain ⟨k, s, nm, ats, ks, t, p⟩ := n
    simp only [Node.kind, Node.space, Node.name, Node.attrs, Node.kids, Node.text, Node.pos] at *
    subst h2 h3
    clear ih hq ha hk hm hp hge hs hv hk1 h1 h4
    generalize hE : (attsOk ats && vldL false ks 0 false) = E at *
    have HE := Lib.hid hE
    clear hE
    go_enter Tryd.func29, Tryd.ntmps29
    go_wp2_with (go_at_call 38; refine (HQ.out _).mono ?_; rintro e w1 ⟨rfl, hb1⟩)
    have hb0 : w1.heap[w.heap.size]? = some (nodeBox (.mk k [] nm ats ks [] p) A cap K kcap) := (hb1.block w.heap.size (by simp)).trans (heap_alloc_new w _)
    have HB0 := Lib.hid hb0
    have HB1 := Lib.hid ((F1.out _).trans (hb1.mono (show w.heap.size ≤ (w.alloc _).heap.size by simp)))
    clear hb0 hb1
    go_loopw [3] (fun i3 wr => ∃ i : Nat, i ≤ ats.length ∧ i3 = .int .i64 i ∧ (attsOkS (names (ats.take i)) (ats.drop i) && vldL false ks 0 false) = E ∧ Below w.heap.size w wr ∧ wr.heap[w.heap.size]? = some (nodeBox (.mk k [] nm ats ks [] p) A cap K kcap)) (fun i3 _ => ats.length - (intOf i3).toNat)
    case atStart => exact ⟨0, Nat.zero_le _, rfl, HE.out, HB1.out, HB0.out⟩
    case round =>
      obtain ⟨i, hi, rfl, hrem, hb, hbox⟩ := hrel
      clear HE HB1 HB0
      have hszx : w.heap.size < wr.heap.size := (Array.getElem?_eq_some_iff.1 hbox).1
      have HB := Lib.hid hb
      have HBX := Lib.hid hbox
      have HR := Lib.hid hrem
      have c3 := (box_cells hbox).2.2.2.1
      dsimp only [Node.attrs] at c3
      by_cases hlt : i < ats.length
      · obtain ⟨bb, off, hAA, hbb, hr⟩ := HA.out.at_ hlt
        subst hAA
        have hr' : wr.rangeAt bb (off + i * 4) (attCells ats[i]) := rangeAt_keep hr (HB.out.block bb hbb)
        have hav : ats[i].value.length < 1000000 ∧ ats[i].name.length < 1000000 := by
          have h := HP.out.att ats[i] (List.getElem_mem hlt)
          omega
        have hstep := attsOk_at hlt
        rw [hstep] at hrem
        have hnn := names_take hlt
        generalize ha : ats[i] = a at *
        obtain ⟨hav1, hav2⟩ := hav
        have hq2 := fun W => refIsQName_any a.name W (by omega)
        have hc2 := fun W => refChars_any a.value W (by omega)
        have F2 : Hid (∀ o, Below w.heap.size w (wr.alloc o)) := fun o => HB.out.alloc (Nat.le_of_lt hszx) _
        have HRR := Lib.hid hr'
        have HAI := Lib.hid ha
        have hlt' : (i : Int) < ats.length := by omega
        clear hr hr' hstep hb hbox HR HQ hnn ha
        by_cases g1 : a.space = []
        · rw [g1] at hrem
          cases g2 : isQName a.name
          · rw [g2] at hq2 hrem
            have hF : E = false := by rw [← hrem]; simp
            have HF := Lib.hid hF
            have HQ := Lib.hid hq2
            clear hF hrem hq2 hc2 g2
            go_wp2_with (first
              | (with_reducible refine gate ?_; refine wp_load_att rfl _ rfl bb (off + i * 4) rfl a HRR.out ?_)
              | (go_at_call 38; refine (HQ.out _).mono ?_; rintro e w2 ⟨rfl, hb2⟩))
            go_ret
            exact ⟨ret_bool HF.out.symm, (F2.out _).trans (hb2.mono (by simp; omega))⟩
          · rw [g2] at hq2 hrem
            have HQ := Lib.hid hq2
            clear hq2 g2
            cases g3 : charsOk a.value
            · rw [g3] at hc2 hrem
              have hF : E = false := by rw [← hrem]; simp
              have HF := Lib.hid hF
              have HC := Lib.hid hc2
              clear hF hrem hc2 g3
              go_wp2_with (first
                | (with_reducible refine gate ?_; refine wp_load_att rfl _ rfl bb (off + i * 4) rfl a HRR.out ?_)
                | (go_at_call 38; refine (HQ.out _).mono ?_; rintro e w2 ⟨rfl, hb2⟩; have k2 := hb2.cell (p := ⟨wr.heap.size, 2, none⟩) (by simp); have hz2 : wr.heap.size + 1 ≤ w2.heap.size := by simpa using hb2.size)
                | (go_at_call 37; refine (HC.out _).mono ?_; rintro e w3 ⟨rfl, hb3⟩))
              go_ret
              exact ⟨ret_bool HF.out.symm, ((F2.out _).trans (hb2.mono (by simp; omega))).trans (hb3.mono (by omega))⟩
            · rw [g3] at hc2 hrem
              have HC := Lib.hid hc2
              have HR2 := Lib.hid hrem
              clear hrem hc2 g3
              go_wp2_with (first
                | (with_reducible refine gate ?_; refine wp_load_att rfl _ rfl bb (off + i * 4) rfl a HRR.out ?_)
                | (go_at_call 38; refine (HQ.out _).mono ?_; rintro e w2 ⟨rfl, hb2⟩; have k2 := hb2.cell (p := ⟨wr.heap.size, 2, none⟩) (by simp); have hz2 : wr.heap.size + 1 ≤ w2.heap.size := by simpa using hb2.size)
                | (go_at_call 37; refine (HC.out _).mono ?_; rintro e w3 ⟨rfl, hb3⟩))
              have hbw : Below w.heap.size w w3 := ((F2.out _).trans (hb2.mono (by simp; omega))).trans (hb3.mono (by omega))
              have hab : w3.heap[wr.heap.size]? = some (.cells #[.string (S []), .string (S a.name), .string (S a.value), .int .i64 a.pos] 37) :=
                (hb3.block wr.heap.size (by omega)).trans ((hb2.block wr.heap.size (by simp)).trans (heap_alloc_new wr _))
              have hnb : w3.heap[w.heap.size]? = some (nodeBox (.mk k [] nm ats ks [] p) (some ⟨bb, off, none⟩) cap K kcap) :=
                (hb3.block w.heap.size (by omega)).trans ((hb2.block w.heap.size (by simp; omega)).trans ((Lib.alloc_old wr _ w.heap.size hszx).trans HBX.out))
              have HBW := Lib.hid hbw
              have HAB := Lib.hid hab
              have HNB := Lib.hid hnb
              have hdn : ∀ j, j < i → (h : j < ats.length) → True := fun _ _ _ => trivial
              clear hbw hab hnb hb2 hb3 k2 hdn HB HBX HRR
              obtain ⟨wo, rfl⟩ : ∃ wo : World, wo = wr := ⟨_, rfl⟩
              go_loopw [5] (fun i5 wr => ∃ j : Nat, j ≤ i ∧ i5 = .int .i64 j ∧ (names (ats.take j)).contains a.name = false ∧ Below w.heap.size w wr ∧ wr.heap[w.heap.size]? = some (nodeBox (.mk k [] nm ats ks [] p) (some ⟨bb, off, none⟩) cap K kcap) ∧ wr.heap[wo.heap.size]? = some (.cells #[.string (S []), .string (S a.name), .string (S a.value), .int .i64 a.pos] 37)) (fun i5 _ => i - (intOf i5).toNat)
              case atStart => exact ⟨0, Nat.zero_le _, rfl, rfl, HBW.out, HNB.out, HAB.out⟩
              case round =>
                obtain ⟨j, hj, rfl, hnin, hb, hbox, habx⟩ := hrel
                clear HBW HNB HAB
                have hszy : w.heap.size < wr.heap.size := (Array.getElem?_eq_some_iff.1 hbox).1
                have HB2 := Lib.hid hb
                have HBX2 := Lib.hid hbox
                have HAX := Lib.hid habx
                have c3 := (box_cells hbox).2.2.2.1
                dsimp only [Node.attrs] at c3
                have c1 : wr.cell? ⟨wo.heap.size, 1, none⟩ = some (.string (S a.name)) := by rw [Lib.cell_of_heap habx]; rfl
                by_cases hlt2 : j < i
                · have hj' : j < ats.length := by omega
                  obtain ⟨bb2, off2, hAA2, hbb2, hr2⟩ := HA.out.at_ hj'
                  cases hAA2
                  have d1 : wr.cell? ⟨bb, off + j * 4 + 1, none⟩ = some (.string (S ats[j].name)) := rangeAt_keep hr2 (hb.block bb hbb2) 1 _ rfl
                  have hnx := names_take hj'
                  generalize ats[j].name = nj at *
                  have hji : (j : Int) < ats.length := by omega
                  have hji2 : (j : Int) < i := by omega
                  by_cases g : nj = a.name
                  · have hin : (names (ats.take i)).contains a.name = true := by
                      have h1 : nj ∈ names (ats.take (j + 1)) := (hnx nj).1 (by simp)
                      rw [g] at h1
                      have h2 : ∀ x ∈ names (ats.take (j + 1)), x ∈ names (ats.take i) := by
                        unfold names
                        rw [show ats.take (j + 1) = (ats.take i).take (j + 1) from by rw [List.take_take, Nat.min_eq_left (by omega)]]
                        intro x hx
                        rw [List.mem_map] at hx ⊢
                        obtain ⟨y, hy, e⟩ := hx
                        exact ⟨y, List.mem_of_mem_take hy, e⟩
                      simpa using h2 _ h1
                    have hF : E = false := by rw [← HR2.out, hin]; simp
                    have HF := Lib.hid hF
                    have y : (nj == a.name) = true := by rw [g]; simp
                    clear hF hin hnx g hr2 hb hbox habx hnin
                    go_wp2_with fail
                    go_quiet (fail)
                    go_wp2
                    go_ret
                    exact ⟨ret_bool HF.out.symm, below_drewN' HB2.out _⟩
                  · have hnin2 : (names (ats.take (j + 1))).contains a.name = false := by
                      rw [Bool.eq_false_iff] at hnin ⊢
                      intro h
                      apply hnin
                      have h1 : a.name ∈ names (ats.take (j + 1)) := by simpa using h
                      rcases List.mem_cons.1 ((hnx a.name).2 h1) with h2 | h2
                      · exact absurd h2.symm g
                      · simpa using h2
                    have HNI := Lib.hid hnin2
                    have y : (nj == a.name) = false := by rw [beq_eq_false_iff_ne]; exact g
                    clear hnin2 hnx g hr2 hb hbox habx hnin
                    go_wp2_with fail
                    go_quiet (fail)
                    go_wp2
                    go_roundw
                    case rel => exact ⟨j + 1, by omega, by go_num, HNI.out, below_drewN' HB2.out _, HBX2.out, HAX.out⟩
                    case measure => simp [intOf]; omega
                · obtain rfl : j = i := by omega
                  have hE2 : (attsOkS (names (ats.take (j + 1))) (ats.drop (j + 1)) && vldL false ks 0 false) = E := by
                    rw [← HR2.out, hnin]; simp
                  have HE2 := Lib.hid hE2
                  clear hE2 hb hbox habx hnin
                  go_wp2_with fail
                  go_roundw
                  case rel => exact ⟨j + 1, by omega, by go_num, HE2.out, HB2.out, HBX2.out⟩
                  case measure => simp [intOf]; omega
        · have e1 : List.isEmpty a.space = false := by cases hsp : a.space with
            | nil => exact (g1 hsp).elim
            | cons x l => rfl
          have hF : E = false := by rw [← hrem]; simp [g1]
          have HF := Lib.hid hF
          clear hF hrem hq2 hc2 g1
          go_wp2_with (with_reducible refine gate ?_; refine wp_load_att rfl _ rfl bb (off + i * 4) rfl a HRR.out ?_)
          go_ret
          exact ⟨ret_bool HF.out.symm, F2.out _⟩
      · obtain rfl : i = ats.length := by omega
        have hrem2 : vldL false (ks.drop 0) 0 false = E := by rw [← hrem, List.drop_length, attsOkS, List.drop_zero]; rfl
        have HR2 := Lib.hid hrem2
        obtain ⟨wo, rfl⟩ : ∃ wo : World, wo = wr := ⟨_, rfl⟩
        clear hrem hrem2 hb hbox HR
        go_wp2_with fail
        clear c3
        go_loopw [6] (fun i6 wr => ∃ i : Nat, i ≤ ks.length ∧ i6 = .int .i64 i ∧ vldL false (ks.drop i) 0 (prevText ks i) = E ∧ Below w.heap.size w wr ∧ wr.heap[w.heap.size]? = some (nodeBox (.mk k [] nm ats ks [] p) A cap K kcap)) (fun i6 _ => ks.length - (intOf i6).toNat)
        case atStart => exact ⟨0, Nat.zero_le _, rfl, HR2.out, HB.out, HBX.out⟩
        case round =>
          obtain ⟨i, hi, rfl, hrem, hb, hbox⟩ := hrel
          clear HR2 HB HBX
          have hszy : w.heap.size < wr.heap.size := (Array.getElem?_eq_some_iff.1 hbox).1
          have HB := Lib.hid hb
          have HBX := Lib.hid hbox
          have c4 := (box_cells hbox).2.2.2.2.1
          dsimp only [Node.kids] at c4
          by_cases hlt : i < ks.length
          · obtain ⟨bb, off, cs, hKK, hbb, hr, hcs⟩ := HK.out.at_ hlt
            subst hKK
            have hr' : wr.rangeAt bb (off + i * 7) cs := rangeAt_keep hr (hb.block bb hbb)
            have hnv : NodeV w w.heap.size ks[i] (.agg cs.toArray) := ⟨cs, rfl, hcs⟩
            have hfk : full ks[i] ≤ 1000000 := by have := HP.out.kid ks[i] (List.getElem_mem hlt); omega
            have hsn : nsz ks[i] ≤ m := by have := HGE.out i hlt; have := HM.out; omega
            have hcall := HIH.out ks[i] (.agg cs.toArray) wr hsn hfk (hnv.keep hb.block hb.size)
            have hstep := vldL_step (lim := false) (d := 0) (data := prevText ks i) hlt
            rw [hrem] at hstep
            have hpt := prevText_succ hlt
            have hrk : rvl ks[i] = (if ks[i].kind == 1 then dataOk ks[i] else vld false ks[i] (0 + 1)) := by
              unfold rvl; rw [vld_any ks[i] 0 (0 + 1)]
            have hE3 : E = (rvl ks[i] && !(prevText ks i && ks[i].kind == 1) && vldL false (ks.drop (i + 1)) 0 (prevText ks (i + 1))) := by
              rw [hstep, hpt, hrk]
              cases ks[i].kind == 1 <;> cases prevText ks i <;> simp
            obtain ⟨A', c', K', d', hcs2, _, _, _, _⟩ := hcs.open_
            subst hcs2
            have hlt' : (i : Int) < ks.length := by omega
            have HRR := Lib.hid hr'
            have F2 : Hid (∀ w3, Below wr.heap.size wr w3 → Below w.heap.size w w3 ∧ w3.heap[w.heap.size]? = some (nodeBox (.mk k [] nm ats ks [] p) A cap (some ⟨bb, off, none⟩) kcap)) := fun w3 h => ⟨hb.trans (h.mono hb.size), (h.block _ hszy).trans hbox⟩
            generalize hq : rvl ks[i] = q at *
            cases q
            · have hF : E = false := by rw [hE3]; simp
              have HF := Lib.hid hF
              have HC := Lib.hid hcall
              clear hF hE3 hcall hq hstep hrem hb hbox hr hr' hcs hnv hfk hsn hpt hrk
              go_wp2_with (first
                | (with_reducible refine gate ?_; refine wp_load_node rfl _ rfl bb (off + i * 7) rfl _ rfl HRR.out ?_)
                | (go_at_call 29; refine HC.out.mono ?_; rintro e w3 ⟨rfl, hb3⟩))
              go_ret
              exact ⟨ret_bool HF.out.symm, (F2.out _ hb3).1⟩
            · have hc0 : wr.cell? ⟨bb, off + i * 7, none⟩ = some (.int .i64 ks[i].kind) := hr' 0 _ rfl
              have hbw : bb < wr.heap.size := by have := hb.size; omega
              by_cases h0 : i = 0
              · have hfin : vldL false (ks.drop (i + 1)) 0 (prevText ks (i + 1)) = E := by rw [hE3, show prevText ks i = false from by rw [h0]; rfl]; simp
                have HFF := Lib.hid hfin
                have HC := Lib.hid hcall
                have hi0 : (i : Int) ≤ 0 := by omega
                clear hfin hE3 hcall hq hstep hrem hb hbox hr hr' hcs hnv hfk hsn hpt hrk hc0 h0
                go_wp2_with (first
                  | (with_reducible refine gate ?_; refine wp_load_node rfl _ rfl bb (off + i * 7) rfl _ rfl HRR.out ?_)
                  | (go_at_call 29; refine HC.out.mono ?_; rintro e w3 ⟨rfl, hb3⟩))
                go_roundw
                case rel => first | exact ⟨i + 1, by omega, by go_num, HFF.out, F2.out _ hb3⟩ | ((repeat apply Exists.intro); refine ⟨⟨i + 1, by omega, ?_, HFF.out, F2.out _ hb3⟩, rfl⟩; go_num)
                case measure => simp [intOf]; omega
              · have hi1 : (1 : Int) ≤ i := by omega
                have hjl : i - 1 < ks.length := by omega
                rw [prevText_pos hlt (by omega)] at hE3
                have hpj : wr.cell? ⟨bb, off + (i - 1) * 7, none⟩ = some (.int .i64 ks[i - 1].kind) := by
                  obtain ⟨bb2, off2, cs2, hKK2, hbb2, hr2, hcs2⟩ := HK.out.at_ hjl
                  cases hKK2
                  obtain ⟨A2, c2, K2, d2, rfl, _, _, _, _⟩ := hcs2.open_
                  exact (rangeAt_keep hr2 (hb.block bb hbb2)) 0 _ rfl
                have e2 : ((i : Int) - 1).toNat = i - 1 := by omega
                have e3 : (i : Int) - 1 < ks.length := by omega
                generalize ks[i].kind = kd at *
                generalize ks[i - 1].kind = kp at *
                have HC := Lib.hid hcall
                clear hcall hq hstep hrem hr hr' hcs hnv hfk hsn hpt hrk h0
                cases y1 : (kd == 1)
                · have hfin : vldL false (ks.drop (i + 1)) 0 (prevText ks (i + 1)) = E := by rw [hE3, y1]; simp
                  have HFF := Lib.hid hfin
                  clear hfin hE3 hb hbox e2 hpj
                  go_wp2_with (first
                    | (with_reducible refine gate ?_; refine wp_load_node rfl _ rfl bb (off + i * 7) rfl _ rfl HRR.out ?_)
                    | (go_at_call 29; refine HC.out.mono ?_; rintro e w3 ⟨rfl, hb3⟩; have k4 := (hb3.cell (p := ⟨w.heap.size, 4, none⟩) hszy).trans c4; have kc := (hb3.cell (p := ⟨bb, off + i * 7, none⟩) hbw).trans hc0))
                  go_roundw
                  case rel => first | exact ⟨i + 1, by omega, by go_num, HFF.out, F2.out _ hb3⟩ | ((repeat apply Exists.intro); refine ⟨⟨i + 1, by omega, ?_, HFF.out, F2.out _ hb3⟩, rfl⟩; go_num)
                  case measure => simp [intOf]; omega
                · cases y2 : (kp == 1)
                  · have hfin : vldL false (ks.drop (i + 1)) 0 (prevText ks (i + 1)) = E := by rw [hE3, y2]; simp
                    have HFF := Lib.hid hfin
                    clear hfin hE3 hb hbox
                    go_wp2_with (first
                      | (with_reducible refine gate ?_; refine wp_load_node rfl _ rfl bb (off + i * 7) rfl _ rfl HRR.out ?_)
                      | (go_at_call 29; refine HC.out.mono ?_; rintro e w3 ⟨rfl, hb3⟩; have k4 := (hb3.cell (p := ⟨w.heap.size, 4, none⟩) hszy).trans c4; have kc := (hb3.cell (p := ⟨bb, off + i * 7, none⟩) hbw).trans hc0; have kp := (hb3.cell (p := ⟨bb, off + (i - 1) * 7, none⟩) hbw).trans hpj))
                    go_roundw
                    case rel => first | exact ⟨i + 1, by omega, by go_num, HFF.out, F2.out _ hb3⟩ | ((repeat apply Exists.intro); refine ⟨⟨i + 1, by omega, ?_, HFF.out, F2.out _ hb3⟩, rfl⟩; go_num)
                    case measure => simp [intOf]; omega
                  · have hF : E = false := by rw [hE3, y1, y2]; simp
                    have HF := Lib.hid hF
                    clear hF hE3 hb hbox
                    go_wp2_with (first
                      | (with_reducible refine gate ?_; refine wp_load_node rfl _ rfl bb (off + i * 7) rfl _ rfl HRR.out ?_)
                      | (go_at_call 29; refine HC.out.mono ?_; rintro e w3 ⟨rfl, hb3⟩; have k4 := (hb3.cell (p := ⟨w.heap.size, 4, none⟩) hszy).trans c4; have kc := (hb3.cell (p := ⟨bb, off + i * 7, none⟩) hbw).trans hc0; have kp := (hb3.cell (p := ⟨bb, off + (i - 1) * 7, none⟩) hbw).trans hpj))
                    go_ret
                    exact ⟨ret_bool HF.out.symm, (F2.out _ hb3).1⟩
          · obtain rfl : i = ks.length := by omega
            have hfin := hrem
            rw [List.drop_length, vldL] at hfin
            have HFF := Lib.hid hfin
            clear hfin hrem hb hbox
            go_wp2_with fail
            go_ret
            exact ⟨ret_bool HFF.out, HB.out⟩
end Go.Proofs.YthilaolkkamedaaDoor
