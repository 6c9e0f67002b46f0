/-
  Walks of chapter 9: characters and attributes (the program).
-/
import Derived.Test.YthilaolkkamedaaDoorSpec09
import Derived.Test.YthilaolkkamedaaDoorLoad
import Derived.Test.YthilaolkkamedaaDoorMap
import Derived.Test.YthilaolkkamedaaDoorName2
set_option linter.unusedVariables false
namespace Go.Proofs.YthilaolkkamedaaDoor
open Go.RowKit

set_option maxHeartbeats 1000000 in
theorem chars_any (l : Bytes) (w : World) (hT : Tabs w) (hl : l.length ≤ 4611686018427387904) :
    Calls Tryd.prog 36 #[.string (S l)] w fun e w' => e = .returned (.bool (charsOk l)) ∧ Below w.heap.size w w' := by
  have hc := check_any l w hT hl
  have he : charsOk l = ((((check l).2 : Nat) : Int) == 0) := by unfold charsOk; rw [Bool.eq_iff_iff]; simp
  rw [he]
  generalize check l = c at *
  obtain ⟨c1, c2⟩ := c
  have HC := Lib.hid hc
  clear hc he hT
  go_enter Tryd.func36, Tryd.ntmps36
  go_wp2_with (go_at_call 41; refine HC.out.mono ?_; rintro e w' ⟨rfl, hb⟩)
  go_ret
  exact ⟨rfl, hb⟩

theorem zeroBool (w : World) : (zeroValue 4).run Tryd.prog w = .ok (.bool false) w := by kernel_rfl
/-- The set of the names seen so far. -/
def seenOf (l : List Bytes) : List (Bytes × Value) := l.map fun k => (k, .bool true)
theorem look_seen (k : Bytes) (l : List Bytes) : (look k (seenOf l)).getD (.bool false) = .bool (l.contains k) := by
  induction l with
  | nil => rfl
  | cons x l ih =>
    rw [seenOf, List.map_cons, look]
    by_cases h : k = x
    · subst h; simp
    · have : (k == x) = false := by simp [h]
      rw [this]
      simp only [Bool.false_eq_true, if_false]
      rw [show (look k (l.map fun k => (k, Value.bool true))) = look k (seenOf l) from rfl, ih]
      congr 1
      rw [Bool.eq_iff_iff]
      simp [h]
theorem putM_seen (k : Bytes) (l : List Bytes) (h : l.contains k = false) : putM k (.bool true) (seenOf l) = seenOf (l ++ [k]) := by
  rw [putM_push]
  · simp [seenOf]
  · have := look_seen k l
    rw [h] at this
    cases hl : look k (seenOf l) with
    | none => rfl
    | some v =>
      exfalso
      rw [hl] at this
      simp only [Option.getD_some] at this
      subst this
      have hn : ∀ (l : List Bytes) (v : Value), look k (seenOf l) = some v → v = .bool true := by
        intro l
        induction l with
        | nil => intro v h; cases h
        | cons x l ih =>
          intro v h
          rw [seenOf, List.map_cons, look] at h
          split at h
          · cases h; rfl
          · exact ih v h
      have := hn l _ hl
      cases this

set_option maxHeartbeats 2000000 in
set_option maxRecDepth 100000 in
theorem attrs_any (l : List Att) (v : Value) (w : World) (hT : Tabs w) (hv : AttsIn w w.heap.size v l) (hl : l.length ≤ 4611686018427387904) (hp : ∀ a ∈ l, a.name.length ≤ 4611686018427387904 ∧ a.value.length ≤ 4611686018427387904) :
    Calls Tryd.prog 35 #[v] w fun e w' => e = .returned (.bool (attsOk l)) ∧ Below w.heap.size w w' := by
  obtain ⟨A, cap, rfl, hcap⟩ := hv.slice
  generalize hE : attsOk l = E at *
  have HE := Lib.hid hE
  have HV := Lib.hid hv
  have HT := Lib.hid hT
  have HP := Lib.hid hp
  have hmm := @run_makeMap Tryd.prog
  have hm0 := MapOf.new w
  have HM0 := Lib.hid hm0
  clear hE hv hT hp hm0
  go_enter Tryd.func35, Tryd.ntmps35
  go_wp2_with fail
  clear hmm
  go_loopw [9] (fun i9 wr => ∃ (i : Nat) (seen : List Bytes), i ≤ l.length ∧ i9 = .int .i64 i ∧ MapOf wr w.heap.size (seenOf seen) ∧ attsOkS seen (l.drop i) = E ∧ Below w.heap.size w wr ∧ w.heap.size < wr.heap.size) (fun i9 _ => l.length - (intOf i9).toNat)
  case atStart => exact ⟨0, [], Nat.zero_le _, rfl, HM0.out, HE.out, (Below.refl _ _).alloc (Nat.le_refl _) _, by simp⟩
  case round =>
    obtain ⟨i, seen, hi, rfl, hmap, hrem, hb, hsz⟩ := hrel
    have HM := Lib.hid hmap
    have HR := Lib.hid hrem
    have HB := Lib.hid hb
    clear hmap hrem hb
    by_cases hlt : i < l.length
    · obtain ⟨b, off, rfl, hbl, hr⟩ := HV.out.at_ hlt
      have hr' : wr.rangeAt b (off + i * 4) (attCells l[i]) := rangeAt_keep hr (HB.out.block b hbl)
      have hstep := attsOkS_step (seen := seen) hlt
      rw [HR.out] at hstep
      have hpa := HP.out l[i] (List.getElem_mem hlt)
      generalize l[i] = a at *
      have HRR := Lib.hid hr'
      have HS := Lib.hid hstep
      clear hr hr' hstep
      have hlook : ∀ o, (Instr.lookup 74 (.map (some w.heap.size)) (.string (S a.name)) false).run Tryd.prog (wr.alloc o) = .ok (.bool (seen.contains a.name)) (wr.alloc o) := fun o => by
        rw [MapOf.run_lookup (HM.out.keep (Below.heap_alloc wr o _ hsz)) Tryd.underlying74 Tryd.underlying9 (zeroBool _) a.name, look_seen]
      have hq := fun W => fun hW : Below w.heap.size w W => isQName_any a.name W (HT.out.next hW) hpa.1
      have hc := fun W => fun hW : Below w.heap.size w W => chars_any a.value W (HT.out.next hW) hpa.2
      have h01 : w.heap.size ≤ wr.heap.size := by omega
      have F1 : Hid (∀ o, Below w.heap.size w (wr.alloc o)) := fun o => HB.out.alloc h01 _
      clear hpa
      by_cases h1 : a.space = []
      · cases h2 : seen.contains a.name
        · rw [h1, h2] at HS
          rw [h2] at hlook
          have HSE := Lib.hid (putM_seen a.name seen h2)
          cases h3 : isQName a.name
          · rw [h3] at hq HS
            have HQ := Lib.hid hq
            have hfin : E = false := by rw [HS.out]; simp
            have HF := Lib.hid hfin
            clear hq hfin h3 h2
            go_wp2_with (first
              | (refine wp_load_att rfl _ rfl b (off + i * 4) rfl a HRR.out ?_)
              | (go_at_call 34; refine (HQ.out _ (F1.out _)).mono ?_; rintro e w1 ⟨rfl, hb1⟩; have k1 := hb1.cell (p := ⟨wr.heap.size, 1, none⟩) (by simp); have k2 := hb1.cell (p := ⟨wr.heap.size, 2, none⟩) (by simp); have k3 : wr.heap.size + 1 ≤ w1.heap.size := by simpa using hb1.size))
            go_ret
            exact ⟨ret_bool HF.out.symm, (F1.out _).trans (hb1.mono (by simp; omega))⟩
          · rw [h3] at hq HS
            have HQ := Lib.hid hq
            cases h4 : charsOk a.value
            · rw [h4] at hc HS
              have HC := Lib.hid hc
              have hfin : E = false := by rw [HS.out]; simp
              have HF := Lib.hid hfin
              clear hq hc hfin h3 h4 h2
              go_wp2_with (first
                | (refine wp_load_att rfl _ rfl b (off + i * 4) rfl a HRR.out ?_)
                | (go_at_call 34; refine (HQ.out _ (F1.out _)).mono ?_; rintro e w1 ⟨rfl, hb1⟩; have k1 := hb1.cell (p := ⟨wr.heap.size, 1, none⟩) (by simp); have k2 := hb1.cell (p := ⟨wr.heap.size, 2, none⟩) (by simp); have k3 : wr.heap.size + 1 ≤ w1.heap.size := by simpa using hb1.size)
                | (go_at_call 36; refine (HC.out _ ((F1.out _).trans (hb1.mono (by simp; omega)))).mono ?_; rintro e w2 ⟨rfl, hb2⟩; have k4 := hb2.cell (p := ⟨wr.heap.size, 1, none⟩) (show wr.heap.size < w1.heap.size from k3); have k5 : w1.heap.size ≤ w2.heap.size := hb2.size; have HM2 := Lib.hid (((HM.out.keep (w' := wr.alloc _) (Below.heap_alloc wr _ _ hsz)).below hb1).below hb2); clear hlook))
              go_ret
              exact ⟨ret_bool HF.out.symm, ((F1.out _).trans (hb1.mono (by simp; omega))).trans (hb2.mono (by omega))⟩
            · rw [h4] at hc HS
              have HC := Lib.hid hc
              have hfin : attsOkS (a.name :: seen) (l.drop (i + 1)) = E := by rw [HS.out]; simp
              have HF := Lib.hid hfin
              clear hq hc hfin h3 h4 h2
              go_wp2_with (first
                | (refine wp_load_att rfl _ rfl b (off + i * 4) rfl a HRR.out ?_)
                | (go_at_call 34; refine (HQ.out _ (F1.out _)).mono ?_; rintro e w1 ⟨rfl, hb1⟩; have k1 := hb1.cell (p := ⟨wr.heap.size, 1, none⟩) (by simp); have k2 := hb1.cell (p := ⟨wr.heap.size, 2, none⟩) (by simp); have k3 : wr.heap.size + 1 ≤ w1.heap.size := by simpa using hb1.size)
                | (go_at_call 36; refine (HC.out _ ((F1.out _).trans (hb1.mono (by simp; omega)))).mono ?_; rintro e w2 ⟨rfl, hb2⟩; have k4 := hb2.cell (p := ⟨wr.heap.size, 1, none⟩) (show wr.heap.size < w1.heap.size from k3); have k5 : w1.heap.size ≤ w2.heap.size := hb2.size; have HM2 := Lib.hid (((HM.out.keep (w' := wr.alloc _) (Below.heap_alloc wr _ _ hsz)).below hb1).below hb2); clear hlook)
                | (at_mapUpdate; refine wpList_map_put rfl _ _ _ 74 rfl Tryd.underlying74 Tryd.underlying9 w.heap.size (seenOf seen) HM2.out rfl a.name rfl (.bool true) rfl ?_; intro w3 hm3 hu3 hs3))
              have HB3 := Lib.hid ((((F1.out _).trans (hb1.mono (by simp; omega))).trans (hb2.mono (by omega))).trans (hu3.below (Nat.le_refl _) (by omega)))
              go_roundw
              case rel =>
                refine ⟨i + 1, seen ++ [a.name], by omega, by go_num, by rw [← HSE.out]; exact hm3, ?_, HB3.out, by omega⟩
                rw [← HF.out]
                exact attsOkS_perm _ _ _ (fun x => by simp [or_comm])
              case measure => simp [intOf]; omega
        · have hfin : E = false := by rw [HS.out, h2]; simp
          rw [h2] at hlook
          have HF := Lib.hid hfin
          clear hfin h2 hq hc
          go_wp2_with (refine wp_load_att rfl _ rfl b (off + i * 4) rfl a HRR.out ?_)
          go_ret
          exact ⟨ret_bool HF.out.symm, F1.out _⟩
      · have hfin : E = false := by rw [HS.out]; simp [h1]
        have HF := Lib.hid hfin
        clear hfin hq hc hlook
        go_wp2_with (refine wp_load_att rfl _ rfl b (off + i * 4) rfl a HRR.out ?_)
        go_ret
        exact ⟨ret_bool HF.out.symm, F1.out _⟩
    · obtain rfl : i = l.length := by omega
      have hfin := HR.out
      rw [List.drop_length, attsOkS] at hfin
      have HF := Lib.hid hfin
      clear hfin
      go_wp2_with fail
      go_ret
      exact ⟨ret_bool HF.out, HB.out⟩
end Go.Proofs.YthilaolkkamedaaDoor
