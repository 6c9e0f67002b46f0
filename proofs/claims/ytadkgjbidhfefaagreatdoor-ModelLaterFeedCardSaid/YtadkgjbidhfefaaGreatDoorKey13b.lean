/-
  Walks of chapter 13: EntryKey (the program).
-/
import Derived.Test.YtadkgjbidhfefaaGreatDoorKey13
import Derived.Deep.RegionHeld3
set_option linter.unusedVariables false
namespace Go.Proofs.YtadkgjbidhfefaaGreatDoor
open Go.RowKit

def EFit (e : En) : Prop := -9223372036854775808 ≤ e.upd ∧ e.upd ≤ 9223372036854775807
theorem jfulL_map_jstr : ∀ l : List Bytes, jfulL (l.map jstr) = l.length + (l.map List.length).sum
  | [] => by rw [List.map_nil, jfulL]; rfl
  | a :: l => by
    rw [List.map_cons, jfulL, jfulL_map_jstr l]
    simp only [List.length_cons, List.map_cons, List.sum_cons]
    rw [show jful (jstr a) = 1 + a.length by unfold jstr; rw [jful, jfulL, jfulM]; omega]
    omega
theorem jfulL_app : ∀ l r : List JV, jfulL (l ++ r) = jfulL l + jfulL r
  | [], r => by rw [List.nil_append, jfulL]; omega
  | a :: l, r => by rw [List.cons_append, jfulL, jfulL, jfulL_app l r]; omega
theorem jful_jarr (l : List JV) : jful (jarr l) = 1 + jfulL l := by unfold jarr; rw [jful, jfulM]; simp
theorem jful_jint (n : Int) : jful (jint n) = 1 := by unfold jint; rw [jful, jfulL, jfulM]; simp
theorem fit_jstr (s : Bytes) : JFit (jstr s) := JFit.of_form (by simp [jstr, JV.items, JV.mems, JV.n]) (by simp [jstr, JV.items]) (by simp [jstr, JV.mems])
theorem fit_jint (n : Int) (h : -9223372036854775808 ≤ n ∧ n ≤ 9223372036854775807) : JFit (jint n) := JFit.of_form (by simp [jint, JV.items, JV.mems, JV.n]; exact h) (by simp [jint, JV.items]) (by simp [jint, JV.mems])
theorem fit_jarr (l : List JV) (hl : l.length ≤ 2600000000000) (h : ∀ x ∈ l, JFit x) : JFit (jarr l) := JFit.of_form (by simp [jarr, JV.items, JV.mems, JV.n]; exact hl) h (by simp [jarr, JV.mems])
theorem entVal_fit (e : En) (h : EFit e) : JFit (entVal e) := by
  refine fit_jarr _ (by simp) fun x hx => ?_
  rcases List.mem_append.1 hx with hx | hx
  · obtain ⟨s, _, rfl⟩ := List.mem_map.1 hx
    exact fit_jstr s
  · rw [List.mem_singleton.1 hx]; exact fit_jint _ h
theorem entVal_ful (e : En) : jful (entVal e) = 6 + (e.id.length + e.title.length + e.link.length + e.content.length) := by
  unfold entVal
  rw [jful_jarr, jfulL_app, jfulL_map_jstr, jfulL, jfulL, jful_jint]
  simp
  omega

set_option maxHeartbeats 8000000 in
set_option maxRecDepth 100000 in
theorem entryKey_any (e : En) (w : World) (hT : TabJ w) (hf : EFit e) (hs : e.id.length + e.title.length + e.link.length + e.content.length ≤ 100000) :
    Calls Tryz.prog 13 #[entV e] w fun x w' => x = .returned (.string (S (keyOf (entVal e)))) ∧ Below w.heap.size w w' := by
  have hfit := entVal_fit e hf
  have hful := entVal_ful e
  have hwr := fun (u : Value) (W : World) (hW : Below w.heap.size w W) (hv : ValV W (· < W.heap.size) (entVal e) u) => write12_any (entVal e) u W (by omega) hfit (hT.next hW) hv
  unfold keyOf
  generalize hK : outJ (entVal e) (jvd (entVal e) 1) = K at *
  generalize errJ (jvd (entVal e) 1) = ER at *
  have hsv := fun (W : World) (b : Nat) (hb : W.heap[b]? = some (.cells #[.string (S e.id), .string (S e.title), .string (S e.link), .string (S e.content)] 9)) => stringValues_any [e.id, e.title, e.link, e.content] (.slice (some ⟨b, 0, none⟩) 4 4) W (· < W.heap.size) (fun _ h => h)
    ⟨_, 4, rfl, Nat.le_refl _, .inr ⟨b, 0, rfl, heap_lt hb, fun i a hi => ⟨_, rfl, fun j v hj => by
      match j, hj with
      | 0, hj =>
        simp at hj; subst hj
        rw [Lib.cell_of_heap hb]
        match i, hi with
        | 0, hi => simp at hi; subst hi; rfl
        | 1, hi => simp at hi; subst hi; rfl
        | 2, hi => simp at hi; subst hi; rfl
        | 3, hi => simp at hi; subst hi; rfl
        | i + 4, hi => simp at hi
      | j + 1, hj => simp at hj⟩⟩⟩ (by simp)
  have hev : entVal e = jarr ([e.id, e.title, e.link, e.content].map jstr ++ [jint e.upd]) := rfl
  rw [hev] at hwr
  have hl4 : ([e.id, e.title, e.link, e.content].map jstr).length = 4 := by simp
  have hn4 : [e.id, e.title, e.link, e.content].length = 4 := rfl
  simp only [hn4] at hsv
  clear hn4 hev hK hfit hful hf
  generalize [e.id, e.title, e.link, e.content].map jstr = ss at *
  have har := fun (u : Value) (W : World) (h : ElsP valE W (· < W.heap.size) u (ss ++ [jint e.upd])) => array13_any (ss ++ [jint e.upd]) u W (· < W.heap.size) (fun _ h => h) h (by simp [hl4])
  have HWR := Lib.hid hwr
  have HSV := Lib.hid hsv
  have HAR := Lib.hid har
  have HL4 := Lib.hid hl4
  clear hwr hsv har hT hl4
  have hx : ∀ W, Below (w.heap.size + 1) (w.alloc (entBox e)) W → W.cell? ⟨w.heap.size, 0, none⟩ = some (.string (S e.id)) ∧ W.cell? ⟨w.heap.size, 1, none⟩ = some (.string (S e.title)) ∧ W.cell? ⟨w.heap.size, 2, none⟩ = some (.string (S e.link)) ∧ W.cell? ⟨w.heap.size, 3, none⟩ = some (.string (S e.content)) ∧ W.cell? ⟨w.heap.size, 4, none⟩ = some (.int .i64 e.upd) := fun W hW =>
    cells5 ((hW.block w.heap.size (by omega)).trans (heap_alloc_new w (entBox e)))
  have KEEP := Lib.hid hx
  clear hx
  have hnew : ((w.alloc (entBox e)).alloc (.cells #[.string (S e.id), .string (S e.title), .string (S e.link), .string (S e.content)] 9)).drew.heap[w.heap.size + 1]? = some (.cells #[.string (S e.id), .string (S e.title), .string (S e.link), .string (S e.content)] 9) := by
    show ((w.alloc (entBox e)).alloc (.cells #[.string (S e.id), .string (S e.title), .string (S e.link), .string (S e.content)] 9)).heap[w.heap.size + 1]? = _
    have := heap_alloc_new (w.alloc (entBox e)) (.cells #[.string (S e.id), .string (S e.title), .string (S e.link), .string (S e.content)] 9)
    simpa using this
  have HNEW := Lib.hid hnew
  clear hnew
  have hA0 : Below w.heap.size w (w.alloc (entBox e)) := (Below.refl _ _).alloc (Nat.le_refl _) _
  have HA0 := Lib.hid hA0
  clear hA0
  go_enter Tryz.func13, Tryz.ntmps13
  go_wp2_with fail
  go_region_held3 (fun x => x.cell? ⟨w.heap.size, 0, none⟩ = some (.string (S e.id)) ∧ x.cell? ⟨w.heap.size, 1, none⟩ = some (.string (S e.title)) ∧ x.cell? ⟨w.heap.size, 2, none⟩ = some (.string (S e.link)) ∧ x.cell? ⟨w.heap.size, 3, none⟩ = some (.string (S e.content)) ∧ x.cell? ⟨w.heap.size, 4, none⟩ = some (.int .i64 e.upd))
    (first | exact KEEP.out _ r10 | exact KEEP.out _ r9 | exact KEEP.out _ r8 | exact KEEP.out _ (r2.alloc hz2 _) | exact KEEP.out _ r2 | exact KEEP.out _ (r1.alloc hz1 _) | exact KEEP.out _ r1 | exact KEEP.out _ (Below.refl _ _).drew | exact KEEP.out _ ((Below.refl _ _).alloc (by simp) _).drew)
    (first
      | ((go_at_call 33; (with_reducible refine (HSV.out _ _ (heap_alloc_new w1 _)).mono ?_); rintro x w2 ⟨A1, c1, rfl, hrow2, hb2⟩; have r2 := (r1.alloc hz1 (.cells #[.string (S e.id), .string (S e.title), .string (S e.link), .string (S e.content)] 9)).trans (hb2.mono (by simp; omega)); have hz2 : w.heap.size + 1 ≤ w2.heap.size := (by have := r2.size; simpa using this); have HR2 := Lib.hid (hrow2.base_ (base' := w.heap.size + 1) (by simp; omega)); clear hrow2 hb2))
      | ((go_at_call 33; (with_reducible refine (HSV.out _ _ HNEW.out).mono ?_); rintro x w1 ⟨A1, c1, rfl, hrow1, hb1⟩; have r1 := ((Below.refl (w.heap.size + 1) (w.alloc (entBox e))).alloc (by simp) (.cells #[.string (S e.id), .string (S e.title), .string (S e.link), .string (S e.content)] 9)).drew.trans (hb1.mono (by simp)); have hz1 : w.heap.size + 1 ≤ w1.heap.size := (by have := r1.size; simpa using this); have HR1 := Lib.hid (hrow1.base_ (base' := w.heap.size + 1) (by simp)); clear hrow1 hb1))
      | ((go_at_call 34; (with_reducible refine (int12_any e.upd _).mono ?_); rintro x w2 ⟨rfl, hb2⟩; have HR2 := Lib.hid (HR1.out.below valE_ok hb2 (fun _ h => h.elim)); have r2 := r1.trans (hb2.mono hz1); have hz2 : w.heap.size + 1 ≤ w2.heap.size := (by have := r2.size; simpa using this); clear hb2))
      | ((go_at_call 34; (with_reducible refine (int12_any e.upd _).mono ?_); rintro x w1 ⟨rfl, hb1⟩; have r1 := (Below.refl (w.heap.size + 1) (w.alloc (entBox e))).drew.trans (hb1.mono (by simp)); have hz1 : w.heap.size + 1 ≤ w1.heap.size := (by have := r1.size; simpa using this); clear hb1))
      | ((refine els_append_step valE_ok rfl _ _ rfl w2 (w.heap.size + 1) (fun _ => False) (.slice A1 4 c1) ss rfl HR2.out (jint e.upd) [.int .i64 2, .bool false, .int .i64 e.upd, .string (S []), .slice none 0 0, .slice none 0 0, .int .i64 0] w2.heap.size rfl rfl (jint_val e.upd _ _) (fun _ h => h.elim) (fun _ h => h.elim) hz2 (by have := HL4.out; omega) ?_; intro g8 c8 w8 hat8 hlt8 hrow8 hgr8 hb8; have r8 := r2.trans hb8; have hz8 : w.heap.size + 1 ≤ w8.heap.size := (by have := r8.size; simpa using this); have HE8 := Lib.hid (hrow8.elsP valE_ok (p' := (· < w8.heap.size)) (fun _ h => h.elim) (fun k hk => (hrow8.lt k hk).2)); clear hat8 hrow8 hgr8 hb8))
      | ((go_at_call 32; (with_reducible refine (HAR.out _ _ HE8.out).mono ?_); rintro x w9 ⟨v9, rfl, hv9, hb9⟩; have r9 := r8.trans (hb9.mono hz8); have hz9 : w.heap.size + 1 ≤ w9.heap.size := (by have := r9.size; simpa using this); have HV9 := Lib.hid (hv9.keep (p' := (· < w9.heap.size)) (fun _ _ => rfl) (fun k hk => hk.elim (fun h => Nat.lt_of_lt_of_le h hb9.size) (fun h => h.2))); clear hv9 hb9))
      | ((go_at_call 31; (with_reducible refine (HWR.out _ _ (HA0.out.trans (r9.mono (Nat.le_succ _))) HV9.out).mono ?_); rintro x w10 ⟨rfl, hb10⟩; have r10 := r9.trans (hb10.mono hz9); clear hb10)))
  all_goals
    go_wp2_with fail
    go_ret
    exact ⟨rfl, HA0.out.trans (r10.mono (Nat.le_succ _))⟩
end Go.Proofs.YtadkgjbidhfefaaGreatDoor
