/-
  Walk of chapter 9: is a tree valid (the program).
-/
import Derived.Test.YthilaolkkamedaaDoorValid
set_option linter.unusedVariables false
namespace Go.Proofs.YthilaolkkamedaaDoor
open Go.RowKit

theorem headOk_mk (k : Int) (s nm : Bytes) (ats : List Att) (ks : List Node) (t : Bytes) (p : Int) : headOk (.mk k s nm ats ks t p) = (k == 0 && s == [] && t == [] && isQName nm && attsOk ats) := rfl
theorem dataOk_mk (k : Int) (s nm : Bytes) (ats : List Att) (ks : List Node) (t : Bytes) (p : Int) : dataOk (.mk k s nm ats ks t p) = (t != [] && charsOk t && s == [] && nm == [] && ats.length == 0 && ks.length == 0) := rfl

set_option maxHeartbeats 4000000 in
set_option maxRecDepth 100000 in
theorem valid_any (m : Nat) : ∀ (n : Node) (v : Value) (d : Nat) (w : World), nsz n ≤ m → full n ≤ 1000000 → d ≤ 1000 → Tabs w → NodeV w w.heap.size n v →
    Calls Tryd.prog 27 #[v, .int .i64 d] w fun e w' => e = .returned (.bool (vld true n d)) ∧ Below w.heap.size w w' := by
  induction m with
  | zero => intro n v d w h; cases n; rw [nsz] at h; omega
  | succ m ih =>
    intro n v d w hm hs hd hT hv
    obtain ⟨A, cap, K, kcap, rfl, ha, hk, hcap, hkcap⟩ := hv.open_
    have hp := parts n hs
    have hge := fun (i : Nat) (h : i < n.kids.length) => nsz_get n h
    obtain ⟨k, s, nm, ats, ks, t, p⟩ := n
    generalize hE : vld true (.mk k s nm ats ks t p) d = E at *
    rw [vld, headOk_mk] at hE
    simp only [Node.kind, Node.space, Node.name, Node.attrs, Node.kids, Node.text, Node.pos] at *
    have hq := fun W => fun hW : Below w.heap.size w W => isQName_any nm W (hT.next hW) (by have := hp.name; simp only [Node.name] at this; omega)
    have hat := fun W => fun hW : Below w.heap.size w W => attrs_any ats _ W (hT.next hW) (ha.keep hW.block hW.size) (by have := hp.attrs; simp only [Node.attrs] at this; omega) (fun a h => by have := hp.att a h; omega)
    have F1 : Hid (∀ o, Below w.heap.size w (w.alloc o)) := fun o => (Below.refl _ _).alloc (Nat.le_refl _) o
    have HIH := Lib.hid ih
    have hkl : ks.length < 1000000 := hp.kids
    have HK := Lib.hid hk
    have HM := Lib.hid hm
    have HP := Lib.hid hp
    have HGE := Lib.hid hge
    have HT := Lib.hid hT
    have HS := Lib.hid hs
    have HE := Lib.hid hE
    clear ih ha hk hm hp hge hT hs hE hv
    -- the element itself
    by_cases h1 : k = 0
    · subst h1
      by_cases h2 : d ≤ 100
      · have h2' : (d : Int) ≤ 100 := by omega
        by_cases h3 : s = []
        · subst h3
          by_cases h4 : t = []
          · subst h4
            cases h5 : isQName nm
            · rw [h5] at hq HE
              have HQ := Lib.hid hq
              clear hq hat h5
              have hF : E = false := by rw [← HE.out]; simp
              have HF := Lib.hid hF
              clear hF
              go_enter Tryd.func27, Tryd.ntmps27
              go_wp2_with (go_at_call 34; refine (HQ.out _ (F1.out _)).mono ?_; rintro e w1 ⟨rfl, hb1⟩)
              go_ret
              exact ⟨ret_bool HF.out.symm, (F1.out _).trans (hb1.mono (by simp))⟩
            · rw [h5] at hq HE
              have HQ := Lib.hid hq
              clear hq h5
              cases h6 : attsOk ats
              · rw [h6] at hat HE
                have HA := Lib.hid hat
                clear hat h6
                have hF : E = false := by rw [← HE.out]; simp
                have HF := Lib.hid hF
                clear hF
                go_enter Tryd.func27, Tryd.ntmps27
                go_wp2_with (first
                  | (go_at_call 34; refine (HQ.out _ (F1.out _)).mono ?_; rintro e w1 ⟨rfl, hb1⟩; have c3 := hb1.cell (p := ⟨w.heap.size, 3, none⟩) (by simp); have z1 : w.heap.size + 1 ≤ w1.heap.size := by simpa using hb1.size)
                  | (go_at_call 35; refine (HA.out _ ((F1.out _).trans (hb1.mono (by simp)))).mono ?_; rintro e w2 ⟨rfl, hb2⟩))
                go_ret
                exact ⟨ret_bool HF.out.symm, ((F1.out _).trans (hb1.mono (by simp))).trans (hb2.mono (by have := hb1.size; simp at this; omega))⟩
              · rw [h6] at hat HE
                have HA := Lib.hid hat
                clear hat h6
                have hF : vldL true ks d false = E := by rw [← HE.out]; simp [show ¬ 100 < d from by omega]
                have HF := Lib.hid hF
                clear hF HE
                go_enter Tryd.func27, Tryd.ntmps27
                go_wp2_with (first
                  | (go_at_call 34; refine (HQ.out _ (F1.out _)).mono ?_; rintro e w1 ⟨rfl, hb1⟩; have c3 := hb1.cell (p := ⟨w.heap.size, 3, none⟩) (by simp); have z1 : w.heap.size + 1 ≤ w1.heap.size := by simpa using hb1.size)
                  | (go_at_call 35; refine (HA.out _ ((F1.out _).trans (hb1.mono (by simp)))).mono ?_; rintro e w2 ⟨rfl, hb2⟩; have c4 := (hb2.cell (p := ⟨w.heap.size, 4, none⟩) (show w.heap.size < w1.heap.size from z1)).trans (hb1.cell (p := ⟨w.heap.size, 4, none⟩) (by simp)); have z2 : w1.heap.size ≤ w2.heap.size := hb2.size))
                have hbw : Below w.heap.size w w2 := ((F1.out _).trans (hb1.mono (by simp))).trans (hb2.mono (by omega))
                have HBW := Lib.hid hbw
                clear hbw hb1 hb2 c3 c4
                go_loopw [5, 40] (fun s5 i40 wr => ∃ (i : Nat) (data : Bool), i ≤ ks.length ∧ i40 = .int .i64 i ∧ s5 = .bool data ∧ vldL true (ks.drop i) d data = E ∧ Below w.heap.size w wr) (fun _ i40 _ => ks.length - (intOf i40).toNat)
                case atStart => exact ⟨0, false, Nat.zero_le _, rfl, rfl, HF.out, HBW.out⟩
                case round =>
                  obtain ⟨i, data, hi, rfl, rfl, hrem, hb⟩ := hrel
                  have HB := Lib.hid hb
                  have HR := Lib.hid hrem
                  have hsz := hb.size
                  clear hb hrem
                  by_cases hlt : i < ks.length
                  · have hstep := vldL_step (lim := true) (d := d) (data := data) hlt
                    rw [HR.out] at hstep
                    obtain ⟨b, off, cs, rfl, hbl, hr, hcs⟩ := HK.out.at_ hlt
                    have hr' : wr.rangeAt b (off + i * 7) cs := rangeAt_keep hr (HB.out.block b hbl)
                    have hnv : NodeV w w.heap.size ks[i] (.agg cs.toArray) := ⟨cs, rfl, hcs⟩
                    have hfk : full ks[i] ≤ 1000000 := by have := HP.out.kid ks[i] (List.getElem_mem hlt); omega
                    have hsn : nsz ks[i] ≤ m := by have := HGE.out i hlt; have := HM.out; omega
                    have hcall := fun W => fun hW : Below w.heap.size w W => HIH.out ks[i] _ (d + 1) W hsn hfk (by omega) (HT.out.next hW) (hnv.keep hW.block hW.size)
                    have hpk := parts ks[i] hfk
                    obtain ⟨A', c', K', d', rfl, _, _, _, _⟩ := hcs.open_
                    have F2 : Hid (∀ o, Below w.heap.size w (wr.alloc o)) := fun o => HB.out.alloc hsz _
                    have HRR := Lib.hid hr'
                    clear hr hr' hcs hnv hfk hsn
                    generalize ks[i] = kid at *
                    obtain ⟨k', s', nm', ats', ks', t', p'⟩ := kid
                    simp only [Node.kind, Node.space, Node.name, Node.attrs, Node.kids, Node.text, Node.pos] at *
                    have hch := fun W => fun hW : Below w.heap.size w W => chars_any t' W (HT.out.next hW) (by have := hpk.text; simp only [Node.text] at this; omega)
                    have hl1 : s'.length < 1000000 := hpk.space
                    have hl2 : nm'.length < 1000000 := hpk.name
                    have hl3 : ats'.length < 1000000 := hpk.attrs
                    have hl4 : ks'.length < 1000000 := hpk.kids
                    rw [dataOk_mk] at hstep
                    have HST := Lib.hid hstep
                    clear hstep hpk
                    by_cases g1 : k' = 1
                    · subst g1
                      clear hcall
                      cases data
                      · by_cases g2 : t' = []
                        · subst g2
                          have hF : E = false := by rw [HST.out]; simp
                          have HF2 := Lib.hid hF
                          clear hF
                          go_wp2_with (with_reducible refine gate ?_; refine wp_load_node rfl _ rfl b (off + i * 7) rfl _ rfl HRR.out ?_)
                          go_ret
                          exact ⟨ret_bool HF2.out.symm, F2.out _⟩
                        · have e0 : List.isEmpty t' = false := by cases t' with
                            | nil => exact (g2 rfl).elim
                            | cons a l => rfl
                          cases g3 : charsOk t'
                          · rw [g3] at hch HST
                            have HC := Lib.hid hch
                            have hF : E = false := by rw [HST.out]; simp
                            clear hch g3
                            have HF2 := Lib.hid hF
                            clear hF
                            go_wp2_with (first
                              | (with_reducible refine gate ?_; refine wp_load_node rfl _ rfl b (off + i * 7) rfl _ rfl HRR.out ?_)
                              | (go_at_call 36; refine (HC.out _ (F2.out _)).mono ?_; rintro e w3 ⟨rfl, hb3⟩; have k0 := hb3.cell (p := ⟨wr.heap.size, 0, none⟩) (by simp); have k1 := hb3.cell (p := ⟨wr.heap.size, 1, none⟩) (by simp); have k2 := hb3.cell (p := ⟨wr.heap.size, 2, none⟩) (by simp); have k3 := hb3.cell (p := ⟨wr.heap.size, 3, none⟩) (by simp); have k4 := hb3.cell (p := ⟨wr.heap.size, 4, none⟩) (by simp)))
                            go_ret
                            exact ⟨ret_bool HF2.out.symm, (F2.out _).trans (hb3.mono (by simp; omega))⟩
                          · rw [g3] at hch HST
                            have HC := Lib.hid hch
                            clear hch g3
                            by_cases g4 : s' = [] ∧ nm' = []
                            · obtain ⟨g4, g5⟩ := g4
                              subst g4 g5
                              by_cases g6 : ats'.length + ks'.length = 0
                              · have e1 : ats'.length ≤ 0 := by omega
                                have e2 : ks'.length ≤ 0 := by omega
                                have e3 : (ats'.length : Int) + ks'.length ≤ 0 := by omega
                                have hF : vldL true (ks.drop (i + 1)) d true = E := by
                                  rw [HST.out]
                                  simp [g2, show ats' = [] from List.eq_nil_of_length_eq_zero (by omega), show ks' = [] from List.eq_nil_of_length_eq_zero (by omega)]
                                have HF2 := Lib.hid hF
                                clear hF g6 g2
                                go_wp2_with (first
                                  | (with_reducible refine gate ?_; refine wp_load_node rfl _ rfl b (off + i * 7) rfl _ rfl HRR.out ?_)
                                  | (go_at_call 36; refine (HC.out _ (F2.out _)).mono ?_; rintro e w3 ⟨rfl, hb3⟩; have k0 := hb3.cell (p := ⟨wr.heap.size, 0, none⟩) (by simp); have k1 := hb3.cell (p := ⟨wr.heap.size, 1, none⟩) (by simp); have k2 := hb3.cell (p := ⟨wr.heap.size, 2, none⟩) (by simp); have k3 := hb3.cell (p := ⟨wr.heap.size, 3, none⟩) (by simp); have k4 := hb3.cell (p := ⟨wr.heap.size, 4, none⟩) (by simp)))
                                go_roundw
                                case rel => exact ⟨i + 1, true, by omega, by go_num, rfl, HF2.out, (F2.out _).trans (hb3.mono (by simp; omega))⟩
                                case measure => simp [intOf]; omega
                              · have e1 : (0 : Int) < (ats'.length : Int) + ks'.length := by omega
                                have hF : E = false := by
                                  rw [HST.out, Bool.eq_false_iff]
                                  intro hh
                                  simp at hh
                                  obtain ⟨⟨_, ha0⟩, _⟩ := hh
                                  apply g6
                                  simp_all
                                clear g6
                                have HF2 := Lib.hid hF
                                clear hF
                                go_wp2_with (first
                                  | (with_reducible refine gate ?_; refine wp_load_node rfl _ rfl b (off + i * 7) rfl _ rfl HRR.out ?_)
                                  | (go_at_call 36; refine (HC.out _ (F2.out _)).mono ?_; rintro e w3 ⟨rfl, hb3⟩; have k0 := hb3.cell (p := ⟨wr.heap.size, 0, none⟩) (by simp); have k1 := hb3.cell (p := ⟨wr.heap.size, 1, none⟩) (by simp); have k2 := hb3.cell (p := ⟨wr.heap.size, 2, none⟩) (by simp); have k3 := hb3.cell (p := ⟨wr.heap.size, 3, none⟩) (by simp); have k4 := hb3.cell (p := ⟨wr.heap.size, 4, none⟩) (by simp)))
                                go_ret
                                exact ⟨ret_bool HF2.out.symm, (F2.out _).trans (hb3.mono (by simp; omega))⟩
                            · have e1 : ¬ (s' ++ nm' = []) := by simpa using g4
                              have hF : E = false := by
                                rw [HST.out, Bool.eq_false_iff]
                                intro hh
                                simp at hh
                                apply g4
                                simp_all
                              clear g4
                              have HF2 := Lib.hid hF
                              clear hF
                              go_wp2_with (first
                                | (with_reducible refine gate ?_; refine wp_load_node rfl _ rfl b (off + i * 7) rfl _ rfl HRR.out ?_)
                                | (go_at_call 36; refine (HC.out _ (F2.out _)).mono ?_; rintro e w3 ⟨rfl, hb3⟩; have k0 := hb3.cell (p := ⟨wr.heap.size, 0, none⟩) (by simp); have k1 := hb3.cell (p := ⟨wr.heap.size, 1, none⟩) (by simp); have k2 := hb3.cell (p := ⟨wr.heap.size, 2, none⟩) (by simp); have k3 := hb3.cell (p := ⟨wr.heap.size, 3, none⟩) (by simp); have k4 := hb3.cell (p := ⟨wr.heap.size, 4, none⟩) (by simp)))
                              go_ret
                              exact ⟨ret_bool HF2.out.symm, (F2.out _).trans (hb3.mono (by simp; omega))⟩
                      · have hF : E = false := by rw [HST.out]; simp
                        clear hch
                        have HF2 := Lib.hid hF
                        clear hF
                        go_wp2_with (with_reducible refine gate ?_; refine wp_load_node rfl _ rfl b (off + i * 7) rfl _ rfl HRR.out ?_)
                        go_ret
                        exact ⟨ret_bool HF2.out.symm, F2.out _⟩
                    · have t1 : (k' == 1) = false := by rw [beq_eq_false_iff_ne]; exact g1
                      have hs2 : E = (vld true (.mk k' s' nm' ats' ks' t' p') (d + 1) && vldL true (ks.drop (i + 1)) d false) := by simpa [Node.kind, g1, t1] using HST.out
                      clear HST
                      have HST := Lib.hid hs2
                      clear hs2
                      generalize vld true (.mk k' s' nm' ats' ks' t' p') (d + 1) = q at *
                      have e3 : ((d + 1 : Nat) : Int) = (d : Int) + 1 := by omega
                      rw [e3] at hcall
                      have HC := Lib.hid hcall
                      clear hch hcall g1 e3
                      cases q
                      · have hF : E = false := by rw [HST.out]; simp
                        have HF2 := Lib.hid hF
                        clear hF
                        go_wp2_with (first
                          | (with_reducible refine gate ?_; refine wp_load_node rfl _ rfl b (off + i * 7) rfl _ rfl HRR.out ?_)
                          | (go_at_call 27; refine (HC.out _ (F2.out _)).mono ?_; rintro e w3 ⟨rfl, hb3⟩))
                        go_ret
                        exact ⟨ret_bool HF2.out.symm, (F2.out _).trans (hb3.mono (by simp; omega))⟩
                      · have hF : vldL true (ks.drop (i + 1)) d false = E := by rw [HST.out]; simp
                        have HF2 := Lib.hid hF
                        clear hF
                        go_wp2_with (first
                          | (with_reducible refine gate ?_; refine wp_load_node rfl _ rfl b (off + i * 7) rfl _ rfl HRR.out ?_)
                          | (go_at_call 27; refine (HC.out _ (F2.out _)).mono ?_; rintro e w3 ⟨rfl, hb3⟩; have k0 := hb3.cell (p := ⟨wr.heap.size, 0, none⟩) (by simp)))
                        go_roundw
                        case rel => exact ⟨i + 1, false, by omega, by go_num, rfl, HF2.out, (F2.out _).trans (hb3.mono (by simp; omega))⟩
                        case measure => simp [intOf]; omega
                  · obtain rfl : i = ks.length := by omega
                    have hfin := HR.out
                    rw [List.drop_length, vldL] at hfin
                    have HFF := Lib.hid hfin
                    clear hfin
                    go_wp2_with fail
                    go_ret
                    exact ⟨ret_bool HFF.out, HB.out⟩
          · have hF : E = false := by rw [← HE.out]; simp [h4]
            have HF := Lib.hid hF
            clear hF hq hat
            go_enter Tryd.func27, Tryd.ntmps27
            go_wp2_with fail
            go_ret
            exact ⟨ret_bool HF.out.symm, F1.out _⟩
        · have hF : E = false := by rw [← HE.out]; simp [h3]
          have HF := Lib.hid hF
          clear hF hq hat
          go_enter Tryd.func27, Tryd.ntmps27
          go_wp2_with fail
          go_ret
          exact ⟨ret_bool HF.out.symm, F1.out _⟩
      · have h2' : 100 < (d : Int) := by omega
        have hF : E = false := by rw [← HE.out]; simp [show 100 < d from by omega]
        have HF := Lib.hid hF
        clear hF hq hat
        go_enter Tryd.func27, Tryd.ntmps27
        go_wp2_with fail
        go_ret
        exact ⟨ret_bool HF.out.symm, F1.out _⟩
    · have t1 : (k != 0) = true := by rw [bne_iff_ne]; exact h1
      have hF : E = false := by rw [← HE.out]; simp [h1]
      have HF := Lib.hid hF
      clear hF hq hat
      go_enter Tryd.func27, Tryd.ntmps27
      go_wp2_with fail
      go_ret
      exact ⟨ret_bool HF.out.symm, F1.out _⟩
end Go.Proofs.YthilaolkkamedaaDoor
