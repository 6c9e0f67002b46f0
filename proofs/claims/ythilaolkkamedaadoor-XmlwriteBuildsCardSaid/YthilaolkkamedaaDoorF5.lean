/-
  Several texts in one file, in build order:
  - Walk of chapter 9's statements: Builds.
  - From the reading of an argument to a tree in memory.
  - From the reading of an argument to a slice of strings in memory.
  - What a law's statement asks behind the call: it returned true, and each argument reads as it did.
  - From the row's list of package variables to the tables that the walks read.
  - A start that fits: the settled world, with the four listed tables as their initialisers lay them.
-/
import Derived.Deep.Slices
import Derived.SizedLaws
import Derived.Carry
import Derived.ChangeSame
import Derived.Test.YthilaolkkamedaaDoorRows
import Derived.Lib.LaidU8
import Derived.LaidLaws
import Derived.ProofKit
import Derived.Test.YthilaolkkamedaaDoorF4
set_option linter.unusedVariables false
namespace Go.Proofs.YthilaolkkamedaaDoor
open Go.RowKit

mutual
theorem eqv_refl (o : Bool) : ∀ n : Node, eqv o n n = true
  | .mk k s nm ats ks t p => by
    rw [eqv]
    have h1 : headEqv o (.mk k s nm ats ks t p) (.mk k s nm ats ks t p) = true := by simp [headEqv]
    rw [h1]
    simp only [Node.attrs, Node.kids]
    rw [attsEqv_refl o ats, kidsEqv_refl o ks]; rfl
theorem kidsEqv_refl (o : Bool) : ∀ ks : List Node, kidsEqv o ks ks = true
  | [] => kidsEqv_nil _ _
  | k :: ks => by rw [kidsEqv, eqv_refl o k, kidsEqv_refl o ks]; rfl
theorem attsEqv_refl (o : Bool) : ∀ l : List Att, attsEqv o l l = true
  | [] => attsEqv_nil _ _
  | a :: l => by rw [attsEqv, attsEqv_refl o l]; simp [attEqv]
end
def kidsNode (ks : List Node) : Node := .mk 0 [] [] [] ks [] 0
def base9 (nm : Bytes) : Node := .mk 0 [] nm [⟨[], [122], [], 3⟩] [] [116] 7

set_option maxHeartbeats 4000000 in
set_option maxRecDepth 100000 in
theorem law9builds_large (nm : Bytes) (ks : List Node) (ps : List Bytes) (vk vp : Value) (w : World) (hT : Tabs w) (hnl : nm.length ≤ 4611686018427387904) (hkl : ks.length ≤ 4611686018427387904) (hpl : ps.length ≤ 4611686018427387904) (hf : Fit (kidsNode ks)) (hk : NodesIn w w.heap.size vk ks) (hp : StrsIn w w.heap.size vp ps)
    (h : 500 < nm.length ∨ 20 < ks.length ∨ 20 < ps.length ∨ tooLarge (kidsNode ks) = 1) :
    Calls Tryd.prog 4 #[.string (S nm), vk, vp] w fun e w' => e = .returned (.bool true) ∧ Below w.heap.size w w' := by
  have hal := fun W => fun (hW : Below w.heap.size w W) => alive9_any W (hT.next hW)
  have HAL := Lib.hid hal
  have htl := tooLarge_any (kidsNode ks) (.agg #[.int .i64 0, .string (S []), .string (S []), .slice none 0 0, vk, .string (S []), .int .i64 0]) w hf (NodeV.of_form (n := kidsNode ks) ⟨none, 0, rfl, Nat.le_refl _, .inl rfl⟩ hk)
  obtain ⟨KA, kc, rfl, hkc⟩ : ∃ A cap, vk = .slice A ks.length cap ∧ ks.length ≤ cap := by obtain ⟨A, cap, h, hc, _⟩ := hk; exact ⟨A, cap, h, hc⟩
  obtain ⟨PA, pc, rfl, hpc⟩ := hp.form
  clear hal hT hf hk hp
  by_cases h1 : 500 < nm.length
  · have h1' : (500 : Int) < nm.length := by omega
    clear htl h
    go_enter Tryd.func4, Tryd.ntmps4
    go_wp2_with (go_at_call 8; refine (HAL.out _ (Below.refl _ _)).mono ?_; rintro e w2 ⟨rfl, hb2⟩)
    go_ret
    exact ⟨rfl, hb2⟩
  have h1' : (nm.length : Int) ≤ 500 := by omega
  by_cases h2 : 20 < ks.length
  · have h2' : (20 : Int) < ks.length := by omega
    clear htl h
    go_enter Tryd.func4, Tryd.ntmps4
    go_wp2_with (go_at_call 8; refine (HAL.out _ (Below.refl _ _)).mono ?_; rintro e w2 ⟨rfl, hb2⟩)
    go_ret
    exact ⟨rfl, hb2⟩
  have h2' : (ks.length : Int) ≤ 20 := by omega
  by_cases h3 : 20 < ps.length
  · have h3' : (20 : Int) < ps.length := by omega
    clear htl h
    go_enter Tryd.func4, Tryd.ntmps4
    go_wp2_with (go_at_call 8; refine (HAL.out _ (Below.refl _ _)).mono ?_; rintro e w2 ⟨rfl, hb2⟩)
    go_ret
    exact ⟨rfl, hb2⟩
  have h3' : (ps.length : Int) ≤ 20 := by omega
  rw [((h.resolve_left h1).resolve_left h2).resolve_left h3] at htl
  have HTL := Lib.hid htl
  clear htl h
  go_enter Tryd.func4, Tryd.ntmps4
  go_wp2_with (first
    | (go_at_call 7; refine HTL.out.mono ?_; rintro e w1 ⟨rfl, hb1⟩)
    | (go_at_call 8; refine (HAL.out _ hb1).mono ?_; rintro e w2 ⟨rfl, hb2⟩))
  go_ret
  exact ⟨rfl, hb1.trans (hb2.mono hb1.size)⟩

theorem fit_elem {nm : Bytes} {ks : List Node} (h : Fit (kidsNode ks)) : Fit (elemNode nm ks) := by
  have := h.form
  exact Fit.of_form (by simp [elemNode, Node.attrs]) (Nat.le_trans (List.length_filter_le _ _) this.2.1) (fun k hk => this.2.2 k ((List.mem_filter.1 hk).1))
theorem fit_with {nm : Bytes} {ps : List Bytes} (h : ps.length ≤ 20) : Fit (withNode (base9 nm) ps) := by
  refine Fit.of_form ?_ (by simp [withNode, base9, Node.kids]) (fun k hk => by simp [withNode, base9, Node.kids] at hk)
  show ((base9 nm).attrs ++ pairsOf ps).length ≤ _
  rw [List.length_append, pairsOf_len]
  simp [base9, Node.attrs]; omega

abbrev zAtt : Obj := .cells #[.string ⟨#[]⟩, .string ⟨#[122]⟩, .string ⟨#[]⟩, .int .i64 3] 37
abbrev baseObj (nm : Bytes) (b : Nat) : Obj := .cells #[.int .i64 0, .string ⟨#[]⟩, .string (S nm), .slice (some ⟨b, 0, none⟩) 1 1, .slice none 0 0, .string ⟨#[116]⟩, .int .i64 7] 25
theorem base9_in {w : World} {b B : Nat} (nm : Bytes) (h : w.heap[b]? = some zAtt) (hB : b < B) : NodeV w B (base9 nm) (.agg #[.int .i64 0, .string ⟨#[]⟩, .string (S nm), .slice (some ⟨b, 0, none⟩) 1 1, .slice none 0 0, .string ⟨#[116]⟩, .int .i64 7]) := by
  refine NodeV.of_form (n := base9 nm) ⟨some ⟨b, 0, none⟩, 1, rfl, Nat.le_refl _, .inr ⟨b, 0, rfl, hB, fun i a hi => ?_⟩⟩ ⟨none, 0, rfl, Nat.le_refl _, .inl rfl⟩
  match i, hi with
  | 0, hi =>
    simp [base9, Node.attrs] at hi
    subst hi
    exact range_of_heap h
set_option maxHeartbeats 8000000 in
set_option maxRecDepth 100000 in
theorem law9builds_small (nm : Bytes) (ks : List Node) (ps : List Bytes) (vk vp : Value) (w : World) (hT : Tabs w) (hnl : nm.length ≤ 500) (hkl : ks.length ≤ 20) (hpl : ps.length ≤ 20) (ht : tooLarge (kidsNode ks) = 0) (hf : Fit (kidsNode ks)) (hk : NodesIn w w.heap.size vk ks) (hp : StrsIn w w.heap.size vp ps) :
    Calls Tryd.prog 4 #[.string (S nm), vk, vp] w fun e w' => e = .returned (.bool true) ∧ Below w.heap.size w w' := by
  have hal := fun W => fun (hW : Below w.heap.size w W) => alive9_any W (hT.next hW)
  have HAL := Lib.hid hal
  have htl := tooLarge_any (kidsNode ks) (.agg #[.int .i64 0, .string (S []), .string (S []), .slice none 0 0, vk, .string (S []), .int .i64 0]) w hf (NodeV.of_form (n := kidsNode ks) ⟨none, 0, rfl, Nat.le_refl _, .inl rfl⟩ hk)
  rw [ht] at htl
  have HTL := Lib.hid htl
  have hel := fun W => fun (hW : Below w.heap.size w W) => elem9_any nm ks vk W (by omega) (hk.keep hW.block hW.size)
  have hrel := fun W => fun (hW : Below w.heap.size w W) => refElem9_any nm ks vk W (by omega) (hk.keep hW.block hW.size)
  have HP := Lib.hid hp
  have HEL := Lib.hid hel
  have HREL := Lib.hid hrel
  have HF := Lib.hid (fit_elem (nm := nm) hf)
  have HFW := Lib.hid (fit_with (nm := nm) hpl)
  obtain ⟨KA, kc, rfl, hkc⟩ : ∃ A cap, vk = .slice A ks.length cap ∧ ks.length ≤ cap := by obtain ⟨A, cap, h, hc, _⟩ := hk; exact ⟨A, cap, h, hc⟩
  obtain ⟨PA, pc, rfl, hpc⟩ := hp.form
  have h1' : (nm.length : Int) ≤ 500 := by omega
  have h2' : (ks.length : Int) ≤ 20 := by omega
  have h3' : (ps.length : Int) ≤ 20 := by omega
  clear hal hT hf hk hp htl hel hrel ht
  go_enter Tryd.func4, Tryd.ntmps4
  go_wp2_with (go_at_call 7; refine HTL.out.mono ?_; rintro e w1 ⟨rfl, hb1⟩)
  have hs1 : w.heap.size ≤ w1.heap.size := hb1.size
  obtain ⟨W1, hW1⟩ : ∃ W1, W1 = (w1.alloc zAtt).alloc (baseObj nm w1.heap.size) := ⟨_, rfl⟩
  have hz1 : W1.heap[w1.heap.size]? = some zAtt := by rw [hW1]; exact (Below.heap_alloc _ _ _ (by simp)).trans (heap_alloc_new w1 _)
  have hx1 : W1.heap[w1.heap.size + 1]? = some (baseObj nm w1.heap.size) := by
    rw [hW1]
    have := heap_alloc_new (w1.alloc zAtt) (baseObj nm w1.heap.size)
    rw [World.size_alloc] at this
    exact this
  have hB1 : Below w.heap.size w W1 := by rw [hW1]; exact (hb1.alloc hb1.size _).alloc (by rw [World.size_alloc]; have := hb1.size; omega) _
  change Calls _ _ _ ((w1.alloc zAtt).alloc (baseObj nm w1.heap.size)) _
  rw [← hW1]
  clear hW1 hb1
  refine (HEL.out _ hB1).mono ?_
  rintro e w2 ⟨v2, rfl, hn2, hb2⟩
  have hz2 := (hb2.block _ (heap_lt hz1)).trans hz1
  have hx2 := (hb2.block _ (heap_lt hx1)).trans hx1
  have hB2 := hB1.trans (hb2.mono hB1.size)
  have hl2 : w1.heap.size + 1 < w2.heap.size := heap_lt hx2
  obtain ⟨k0, k1, k2, k3, k4, k5, k6⟩ := cells7 hx2
  obtain ⟨A2, c2, K2, d2, hv2, _, _, _, _⟩ := hn2.open_
  subst hv2
  have HN2 := Lib.hid hn2
  have HB2 := Lib.hid hB2
  have HZ2 := Lib.hid hz2
  have HX2 := Lib.hid hx2
  clear hz1 hx1 hB1 hb2 hz2 hx2 hB2 hn2
  go_wp2_with fail
  have hwi := with9_any (base9 nm) _ ps _ (w2.alloc (nodeBox (elemNode nm ks) A2 c2 K2 d2)) (by simp [base9, Node.attrs]) (by omega)
    (base9_in nm ((Below.heap_alloc w2 (nodeBox (elemNode nm ks) A2 c2 K2 d2) _ (by omega)).trans HZ2.out) (by rw [World.size_alloc]; omega)) (HP.out.keep (fun j hj => (HB2.out.alloc HB2.out.size (nodeBox (elemNode nm ks) A2 c2 K2 d2)).block j hj) (by rw [World.size_alloc]; have := HB2.out.size; omega))
  refine hwi.mono ?_
  clear hwi
  rintro e w3 ⟨v3, rfl, hn3, hb3⟩
  have hl3 : w2.heap.size + 1 ≤ w3.heap.size := by have := hb3.size; rw [World.size_alloc] at this; exact this
  have HA3 := Lib.hid ((hb3.block w2.heap.size (by rw [World.size_alloc]; omega)).trans (heap_alloc_new w2 (nodeBox (elemNode nm ks) A2 c2 K2 d2)))
  have HX3 := Lib.hid ((hb3.block (w1.heap.size + 1) (by rw [World.size_alloc]; omega)).trans ((Below.heap_alloc w2 _ _ hl2).trans HX2.out))
  have HZ3 := Lib.hid ((hb3.block w1.heap.size (by rw [World.size_alloc]; omega)).trans ((Below.heap_alloc w2 _ _ (by omega)).trans HZ2.out))
  have HB3 := Lib.hid ((HB2.out.alloc HB2.out.size (nodeBox (elemNode nm ks) A2 c2 K2 d2)).trans (hb3.mono (by rw [World.size_alloc]; have := HB2.out.size; omega)))
  have HN3 := Lib.hid (hn3.nodeV hb3.size)
  have HNN3 := Lib.hid (HN2.out.keep (w' := w3) (B' := w3.heap.size) (fun j hj => (hb3.block j (by rw [World.size_alloc]; omega)).trans (Below.heap_alloc w2 _ j hj)) (by omega))
  obtain ⟨va, K3, d3, hv3, har, _⟩ := hn3
  have hlen : 0 < ((base9 nm).attrs ++ pairsOf ps).length := by rw [List.length_append]; simp [base9, Node.attrs]; omega
  have hlen2 : ((base9 nm).attrs ++ pairsOf ps).length ≤ 11 := by rw [List.length_append, pairsOf_len]; simp [base9, Node.attrs]; omega
  obtain ⟨g, c3, hva, hg1, hg2⟩ := World.ownsRow.form har hlen
  have hcur : ∃ cur : Array Value, w3.heap[g]? = some (.cells cur 37 (0, 0)) ∧ ((base9 nm).attrs ++ pairsOf ps).length * 4 ≤ cur.size := by
    rcases har.2 with ⟨_, h0⟩ | ⟨g', cap', cur, hv', _, hh, hcap', _, hs', _⟩
    · omega
    · rw [hva] at hv'
      cases hv'
      exact ⟨cur, hh, by rw [hs']; exact Nat.mul_le_mul_right 4 hcap'⟩
  rw [World.size_alloc] at hg1
  subst hva
  rw [hv3] at HN3
  subst hv3
  generalize ((base9 nm).attrs ++ pairsOf ps).length = n3 at *
  have HCUR := Lib.hid hcur
  clear k0 k1 k2 k3 k4 k5 k6 hb3 har hcur HN2 HB2 HZ2 HX2
  obtain ⟨W3, hW3⟩ : ∃ W3, W3 = w3.alloc (.cells #[.int .i64 (base9 nm).kind, .string (S (base9 nm).space), .string (S (base9 nm).name), .slice (some ⟨g, 0, none⟩) n3 c3, .slice K3 (base9 nm).kids.length d3, .string (S (base9 nm).text), .int .i64 (base9 nm).pos] 25) := ⟨_, rfl⟩
  have hold : ∀ k, k < w3.heap.size → W3.heap[k]? = w3.heap[k]? := fun k hk => by rw [hW3]; exact Below.heap_alloc w3 _ k hk
  have hs3 : W3.heap.size = w3.heap.size + 1 := by rw [hW3, World.size_alloc]
  have HA := Lib.hid ((hold w2.heap.size (by omega)).trans HA3.out)
  have HX := Lib.hid ((hold (w1.heap.size + 1) (by omega)).trans HX3.out)
  have HZ := Lib.hid ((hold w1.heap.size (by omega)).trans HZ3.out)
  have HM := Lib.hid (show W3.heap[w3.heap.size]? = some (.cells #[.int .i64 (base9 nm).kind, .string (S (base9 nm).space), .string (S (base9 nm).name), .slice (some ⟨g, 0, none⟩) n3 c3, .slice K3 (base9 nm).kids.length d3, .string (S (base9 nm).text), .int .i64 (base9 nm).pos] 25) from by rw [hW3]; exact heap_alloc_new w3 _)
  have HC : Hid (∃ cur : Array Value, W3.heap[g]? = some (.cells cur 37 (0, 0)) ∧ n3 * 4 ≤ cur.size) := by
    obtain ⟨cur, h1, h2⟩ := HCUR.out
    exact ⟨cur, (hold g hg2).trans h1, h2⟩
  have HB := Lib.hid (show Below w.heap.size w W3 from by rw [hW3]; exact HB3.out.alloc HB3.out.size _)
  have HN := Lib.hid (HN3.out.keep (w' := W3) (B' := W3.heap.size) hold (by omega))
  have HNN := Lib.hid (HNN3.out.keep (w' := W3) (B' := W3.heap.size) hold (by omega))
  have hW3s := Lib.hid hW3
  have hs3' := Lib.hid hs3
  have HOLD := Lib.hid hold
  clear hs3 hold HA3 HX3 HZ3 HCUR HB3 HN3 HNN3
  go_wp2_with fail
  rw [← hW3]
  clear hW3 hW3s
  have hs3 := hs3'.out
  have CE : Hid (∀ W, Below W3.heap.size W3 W → Calls Tryd.prog 15 #[.string (S nm), .slice KA ks.length kc] W fun e w' => ∃ v, e = .returned v ∧ NodeV w' w'.heap.size (elemNode nm ks) v ∧ Below W.heap.size W w') :=
    fun W hW => HREL.out W (HB.out.trans (hW.mono HB.out.size))
  have CQ1 : Hid (∀ W u, Below W3.heap.size W3 W → NodeV W W.heap.size (elemNode nm ks) u → Calls Tryd.prog 14 #[.agg #[.int .i64 (elemNode nm ks).kind, .string (S (elemNode nm ks).space), .string (S (elemNode nm ks).name), .slice A2 (elemNode nm ks).attrs.length c2, .slice K2 (elemNode nm ks).kids.length d2, .string (S (elemNode nm ks).text), .int .i64 (elemNode nm ks).pos], u, .bool true] W fun e w' => e = .returned (.bool true) ∧ Below W.heap.size W w') := fun W u hW hu => by
    have := refEqual_any true (elemNode nm ks) (elemNode nm ks) _ u W (HNN.out.keep hW.block hW.size) hu HF.out HF.out
    rw [eqv_refl] at this
    exact this
  have CW : Hid (∀ W, Below W3.heap.size W3 W → Calls Tryd.prog 16 #[.agg #[.int .i64 0, .string ⟨#[]⟩, .string (S nm), .slice (some ⟨w1.heap.size, 0, none⟩) 1 1, .slice none 0 0, .string ⟨#[116]⟩, .int .i64 7], .slice PA ps.length pc] W fun e w' => ∃ v, e = .returned v ∧ NodeV w' w'.heap.size (withNode (base9 nm) ps) v ∧ Below W.heap.size W w') := fun W hW => by
    refine (refWith9_any (base9 nm) _ ps _ W (by simp [base9, Node.attrs]) (by omega) (base9_in nm ((hW.block _ (heap_lt HZ.out)).trans HZ.out) (Nat.lt_of_lt_of_le (heap_lt HZ.out) hW.size)) (HP.out.keep (HB.out.trans (hW.mono HB.out.size)).block (Nat.le_trans HB.out.size hW.size))).mono ?_
    rintro e w' ⟨v, rfl, h1, h2⟩
    exact ⟨v, rfl, h1.nodeV h2.size, h2⟩
  have CQ2 : Hid (∀ W u, Below W3.heap.size W3 W → NodeV W W.heap.size (withNode (base9 nm) ps) u → Calls Tryd.prog 14 #[.agg #[.int .i64 (base9 nm).kind, .string (S (base9 nm).space), .string (S (base9 nm).name), .slice (some ⟨g, 0, none⟩) n3 c3, .slice K3 (base9 nm).kids.length d3, .string (S (base9 nm).text), .int .i64 (base9 nm).pos], u, .bool true] W fun e w' => e = .returned (.bool true) ∧ Below W.heap.size W w') := fun W u hW hu => by
    have := refEqual_any true (withNode (base9 nm) ps) (withNode (base9 nm) ps) _ u W (HN.out.keep hW.block hW.size) hu HFW.out HFW.out
    rw [eqv_refl] at this
    exact this
  have KEEP : Hid (∀ x, Below W3.heap.size W3 x → (x.cell? ⟨w2.heap.size, 0, none⟩ = some (.int .i64 (elemNode nm ks).kind) ∧ x.cell? ⟨w2.heap.size, 1, none⟩ = some (.string (S (elemNode nm ks).space)) ∧ x.cell? ⟨w2.heap.size, 2, none⟩ = some (.string (S (elemNode nm ks).name)) ∧ x.cell? ⟨w2.heap.size, 3, none⟩ = some (.slice A2 (elemNode nm ks).attrs.length c2) ∧ x.cell? ⟨w2.heap.size, 4, none⟩ = some (.slice K2 (elemNode nm ks).kids.length d2) ∧ x.cell? ⟨w2.heap.size, 5, none⟩ = some (.string (S (elemNode nm ks).text)) ∧ x.cell? ⟨w2.heap.size, 6, none⟩ = some (.int .i64 (elemNode nm ks).pos)) ∧ (x.cell? ⟨w1.heap.size + 1, 0, none⟩ = some (.int .i64 0) ∧ x.cell? ⟨w1.heap.size + 1, 1, none⟩ = some (.string ⟨#[]⟩) ∧ x.cell? ⟨w1.heap.size + 1, 2, none⟩ = some (.string (S nm)) ∧ x.cell? ⟨w1.heap.size + 1, 3, none⟩ = some (.slice (some ⟨w1.heap.size, 0, none⟩) 1 1) ∧ x.cell? ⟨w1.heap.size + 1, 4, none⟩ = some (.slice none 0 0) ∧ x.cell? ⟨w1.heap.size + 1, 5, none⟩ = some (.string ⟨#[116]⟩) ∧ x.cell? ⟨w1.heap.size + 1, 6, none⟩ = some (.int .i64 7)) ∧ (x.cell? ⟨w3.heap.size, 0, none⟩ = some (.int .i64 (base9 nm).kind) ∧ x.cell? ⟨w3.heap.size, 1, none⟩ = some (.string (S (base9 nm).space)) ∧ x.cell? ⟨w3.heap.size, 2, none⟩ = some (.string (S (base9 nm).name)) ∧ x.cell? ⟨w3.heap.size, 3, none⟩ = some (.slice (some ⟨g, 0, none⟩) n3 c3) ∧ x.cell? ⟨w3.heap.size, 4, none⟩ = some (.slice K3 (base9 nm).kids.length d3) ∧ x.cell? ⟨w3.heap.size, 5, none⟩ = some (.string (S (base9 nm).text)) ∧ x.cell? ⟨w3.heap.size, 6, none⟩ = some (.int .i64 (base9 nm).pos))) := fun x hx =>
    ⟨cells7 ((hx.block _ (heap_lt HA.out)).trans HA.out), cells7 ((hx.block _ (heap_lt HX.out)).trans HX.out), cells7 ((hx.block _ (heap_lt HM.out)).trans HM.out)⟩
  clear HREL HNN HN HP HF HFW HEL HTL HOLD hs3'
  go_region_held3 (fun x => (x.cell? ⟨w2.heap.size, 0, none⟩ = some (.int .i64 (elemNode nm ks).kind) ∧ x.cell? ⟨w2.heap.size, 1, none⟩ = some (.string (S (elemNode nm ks).space)) ∧ x.cell? ⟨w2.heap.size, 2, none⟩ = some (.string (S (elemNode nm ks).name)) ∧ x.cell? ⟨w2.heap.size, 3, none⟩ = some (.slice A2 (elemNode nm ks).attrs.length c2) ∧ x.cell? ⟨w2.heap.size, 4, none⟩ = some (.slice K2 (elemNode nm ks).kids.length d2) ∧ x.cell? ⟨w2.heap.size, 5, none⟩ = some (.string (S (elemNode nm ks).text)) ∧ x.cell? ⟨w2.heap.size, 6, none⟩ = some (.int .i64 (elemNode nm ks).pos)) ∧ (x.cell? ⟨w1.heap.size + 1, 0, none⟩ = some (.int .i64 0) ∧ x.cell? ⟨w1.heap.size + 1, 1, none⟩ = some (.string ⟨#[]⟩) ∧ x.cell? ⟨w1.heap.size + 1, 2, none⟩ = some (.string (S nm)) ∧ x.cell? ⟨w1.heap.size + 1, 3, none⟩ = some (.slice (some ⟨w1.heap.size, 0, none⟩) 1 1) ∧ x.cell? ⟨w1.heap.size + 1, 4, none⟩ = some (.slice none 0 0) ∧ x.cell? ⟨w1.heap.size + 1, 5, none⟩ = some (.string ⟨#[116]⟩) ∧ x.cell? ⟨w1.heap.size + 1, 6, none⟩ = some (.int .i64 7)) ∧ (x.cell? ⟨w3.heap.size, 0, none⟩ = some (.int .i64 (base9 nm).kind) ∧ x.cell? ⟨w3.heap.size, 1, none⟩ = some (.string (S (base9 nm).space)) ∧ x.cell? ⟨w3.heap.size, 2, none⟩ = some (.string (S (base9 nm).name)) ∧ x.cell? ⟨w3.heap.size, 3, none⟩ = some (.slice (some ⟨g, 0, none⟩) n3 c3) ∧ x.cell? ⟨w3.heap.size, 4, none⟩ = some (.slice K3 (base9 nm).kids.length d3) ∧ x.cell? ⟨w3.heap.size, 5, none⟩ = some (.string (S (base9 nm).text)) ∧ x.cell? ⟨w3.heap.size, 6, none⟩ = some (.int .i64 (base9 nm).pos)))
    (first | exact KEEP.out _ (Below.refl _ _).drew | exact KEEP.out _ r4 | exact KEEP.out _ r5 | exact KEEP.out _ r6 | exact KEEP.out _ r7)
    (first
      | ((go_at_call 15; (with_reducible refine (CE.out _ (Below.refl _ _).drew).mono ?_); rintro e w4 ⟨v4, rfl, hn4, hb4⟩; have r4 := (Below.refl W3.heap.size W3).drew.trans hb4))
      | ((go_at_call 14; (with_reducible refine (CQ1.out _ v4 r4 hn4).mono ?_); rintro e w5 ⟨rfl, hb5⟩; have r5 := r4.trans (hb5.mono r4.size)))
      | ((go_at_call 16; (with_reducible refine (CW.out _ r5).mono ?_); rintro e w6 ⟨v6, rfl, hn6, hb6⟩; have r6 := r5.trans (hb6.mono r5.size)))
      | ((go_at_call 14; (with_reducible refine (CQ2.out _ v6 r6 hn6).mono ?_); rintro e w7 ⟨rfl, hb7⟩; have r7 := r6.trans (hb7.mono r6.size))))
  have R7 := Lib.hid r7
  have HM7 := Lib.hid ((r7.block _ (heap_lt HM.out)).trans HM.out)
  have hm3 := (cells7 HM7.out).2.2.2.1
  have HC7 : Hid (∃ cur : Array Value, w7.heap[g]? = some (.cells cur 37 (0, 0)) ∧ n3 * 4 ≤ cur.size) := by
    obtain ⟨cur, h1, h2⟩ := HC.out
    exact ⟨cur, (r7.block g (heap_lt h1)).trans h1, h2⟩
  clear r4 r5 r6 r7 hn4 hn6 hb4 hb5 hb6 hb7 KEEP CE CQ1 CW CQ2
  go_wp2_with fail
  go_loopw [59] (fun i59 wr => ∃ i : Nat, i ≤ n3 ∧ i59 = .int .i64 i ∧ Upd g w7 wr ∧ ∃ cur : Array Value, wr.heap[g]? = some (.cells cur 37 (0, 0)) ∧ n3 * 4 ≤ cur.size) (fun i59 _ => n3 - (intOf i59).toNat)
  case atStart => exact ⟨0, Nat.zero_le _, rfl, Upd.refl _ _, HC7.out⟩
  case round =>
    obtain ⟨i, hi, rfl, hu, cur, hcur, hcs⟩ := hrel
    have hm3' : wr.cell? ⟨w3.heap.size, 3, none⟩ = some (.slice (some ⟨g, 0, none⟩) n3 c3) := (World.cell?_of_block (w := w7) (a := ⟨w3.heap.size, 3, none⟩) (hu.block _ (heap_lt HM7.out) (by simp; omega))).trans hm3
    clear HC7
    by_cases hlt : i < n3
    · have hc2 : ∃ z, wr.cell? ⟨g, i * 4 + 2, none⟩ = some z := by
        rw [Lib.cell_of_heap hcur]
        exact ⟨_, Array.getElem?_eq_getElem (by omega)⟩
      obtain ⟨z, hz⟩ := hc2
      have hf2 : wr.frozen? ⟨g, i * 4 + 2, none⟩ = false := Lib.frozen_of_heap hcur _
      have hnew : (wr.setCell ⟨g, i * 4 + 2, none⟩ (.string ⟨#[63]⟩)).heap[g]? = some (.cells (cur.setIfInBounds (i * 4 + 2) (.string ⟨#[63]⟩)) 37 (0, 0)) := by
        simp [World.setCell, Array.getElem?_modify, hcur]
      have HNW := Lib.hid hnew
      have HU := Lib.hid hu
      have hlt' : (i : Int) < n3 := by omega
      clear hnew hcur hm3 hu
      go_wp2_with fail
      go_roundw
      case rel => exact ⟨i + 1, by omega, by go_num, HU.out.trans (Upd.set_ _ _ _ _), _, HNW.out, by rw [Array.size_setIfInBounds]; exact hcs⟩
      case measure => simp [intOf]; omega
    · obtain rfl : i = n3 := by omega
      have HU := Lib.hid hu
      clear hu hcur hcs hm3
      go_wp2_with fail
      have hwB := HB.out.size
      have hx0 := (HU.out.block _ (heap_lt ((R7.out.block _ (heap_lt HX.out)).trans HX.out)) (by omega)).trans ((R7.out.block _ (heap_lt HX.out)).trans HX.out)
      have hz0 := (HU.out.block _ (heap_lt ((R7.out.block _ (heap_lt HZ.out)).trans HZ.out)) (by omega)).trans ((R7.out.block _ (heap_lt HZ.out)).trans HZ.out)
      have hb0 : Below w.heap.size w wr := (HB.out.trans (R7.out.mono hwB)).trans (HU.out.below (by omega) (by have := R7.out.size; omega))
      have HX0 := Lib.hid hx0
      have HZ0 := Lib.hid hz0
      have HB0 := Lib.hid hb0
      clear hx0 hz0 hb0 HU HM7 HM R7 HA HX HZ HC HB
      refine (text9_any nm wr).mono ?_
      rintro e w8 ⟨v8, rfl, hn8, hb8⟩
      have HX8 := Lib.hid ((hb8.block _ (heap_lt HX0.out)).trans HX0.out)
      have HZ8 := Lib.hid ((hb8.block _ (heap_lt HZ0.out)).trans HZ0.out)
      have HB8 := Lib.hid (HB0.out.trans (hb8.mono HB0.out.size))
      obtain ⟨A8, c8, K8, d8, hv8, _, _, _, _⟩ := hn8.open_
      subst hv8
      have HN8 := Lib.hid hn8
      clear HX0 HZ0 HB0 hb8 hn8
      go_wp2_with fail
      refine (HAL.out _ (HB8.out.alloc HB8.out.size (nodeBox (textNode nm) A8 c8 K8 d8))).mono ?_
      rintro e w9 ⟨rfl, hb9⟩
      have hs9 : w8.heap.size + 1 ≤ w9.heap.size := by have := hb9.size; rw [World.size_alloc] at this; exact this
      have hold : ∀ k, k < w8.heap.size → w9.heap[k]? = w8.heap[k]? := fun k hk => (hb9.block k (by rw [World.size_alloc]; omega)).trans (Below.heap_alloc w8 _ k hk)
      obtain ⟨x0, x1, x2, x3, x4, x5, x6⟩ := cells7 ((hold _ (heap_lt HX8.out)).trans HX8.out)
      have z2 : w9.cell? ⟨w1.heap.size, 2, none⟩ = some (.string ⟨#[]⟩) := by rw [Lib.cell_of_heap ((hold _ (heap_lt HZ8.out)).trans HZ8.out)]; rfl
      obtain ⟨t0, t1, t2, t3, t4, t5, t6⟩ := cells7 ((hb9.block w8.heap.size (by rw [World.size_alloc]; omega)).trans (heap_alloc_new w8 (nodeBox (textNode nm) A8 c8 K8 d8)))
      have hq := refEqual_any true (textNode nm) (textNode nm) _ (.agg #[.int .i64 1, .string ⟨#[]⟩, .string ⟨#[]⟩, .slice none 0 0, .slice none 0 0, .string (S nm), .int .i64 0]) w9 (HN8.out.keep hold (by omega)) (NodeV.bare w9 w9.heap.size 1 [] nm 0) (Fit.of_form (Nat.zero_le _) (Nat.zero_le _) (fun k hk => by simp [textNode, Node.kids] at hk)) (Fit.of_form (Nat.zero_le _) (Nat.zero_le _) (fun k hk => by simp [textNode, Node.kids] at hk))
      rw [eqv_refl] at hq
      have HQ := Lib.hid hq
      have HB9 := Lib.hid ((HB8.out.alloc HB8.out.size (nodeBox (textNode nm) A8 c8 K8 d8)).trans (hb9.mono (by rw [World.size_alloc]; have := HB8.out.size; omega)))
      clear hq hb9 hold HX8 HZ8 HN8 HB8
      go_wp2_with (go_at_call 14; refine HQ.out.mono ?_; rintro e w10 ⟨rfl, hb10⟩)
      go_ret
      exact ⟨rfl, HB9.out.trans (hb10.mono HB9.out.size)⟩
end Go.Proofs.YthilaolkkamedaaDoor
set_option linter.unusedVariables false
namespace Go.Proofs.YthilaolkkamedaaDoor
open Go.RowKit Go.ChangeShapes Go.WideShapes

theorem cellsNode : Tryd.prog.cellsOf 25 = 7 := by kernel_rfl
theorem cellsAtt : Tryd.prog.cellsOf 37 = 4 := by kernel_rfl
theorem cellsStr : Tryd.prog.cellsOf 9 = 1 := by kernel_rfl
theorem cellsInt : Tryd.prog.cellsOf 3 = 1 := by kernel_rfl
theorem cellsAtts : Tryd.prog.cellsOf 22 = 1 := by kernel_rfl
theorem cellsNodes : Tryd.prog.cellsOf 23 = 1 := by kernel_rfl
theorem bytesNode : Tryd.prog.bytesOf 25 = 112 := by kernel_rfl
theorem bytesAtt : Tryd.prog.bytesOf 37 = 56 := by kernel_rfl

theorem weightsAll_of {H : Type} {P : Program} {e : TypeId} : ∀ {l : List (DataW H)} {d : DataW H}, d ∈ l → ∀ n ∈ d.weights P e, n ∈ DataW.weightsAll P e l
  | x :: l, d, hd, n, hn => by
    rw [DataW.weightsAll, List.mem_append]
    rcases List.mem_cons.1 hd with rfl | hd
    · exact .inl hn
    · exact .inr (weightsAll_of hd n hn)
theorem drop_one {cs : List Value} {i : Nat} (h : i < cs.length) : (cs.drop i).take 1 = [cs[i]] := by rw [List.drop_eq_getElem_cons h]; rfl
theorem addr_plain {w : World} {a : Addr} {i : Nat} {v : Value} (h : w.cell? (a.add i) = some v) (h0 : i = 0) : ∃ b off, a = ⟨b, off, none⟩ ∧ b < w.heap.size := by
  obtain ⟨b, off, spot⟩ := a
  subst h0
  have h' : w.cell? ⟨b, off, spot⟩ = some v := by simpa [Addr.add] using h
  have hspot : spot = none := World.cell?_spot h'
  subst hspot
  refine ⟨b, off, rfl, ?_⟩
  rcases Nat.lt_or_ge b w.heap.size with hb | hb
  · exact hb
  · simp [World.cell?, Array.getElem?_eq_none hb] at h'
theorem add_none (b off i : Nat) : (⟨b, off, none⟩ : Addr).add i = ⟨b, off + i, none⟩ := by unfold Addr.add; split <;> simp_all

section
variable {H : Type} {enc : TypeId × Value → H} {w : World}
theorem open_att {fuel : Nat} {cs : List Value} {x : DataW H × List MemPlace} (h : DataW.trod enc Tryd.prog w 0 (fun _ => true) true fuel 37 cs = some x) : ∃ a : Att, cs = attCells a := by
  obtain ⟨xs, n, _, hx, hl, hlen, hg⟩ := DataW.trod_struct Tryd.underlying37 h
  rw [cellsAtt] at hl
  match cs, hl, xs, hlen with
  | [c0, c1, c2, c3], _, [y0, y1, y2, y3], _ =>
    have g0 : DataW.trod enc Tryd.prog w 0 (fun _ => true) true n 9 ((([c0, c1, c2, c3] : List Value).drop 0).take (Tryd.prog.cellsOf 9)) = some y0 := hg 0 _ rfl
    rw [cellsStr] at g0
    have g1 : DataW.trod enc Tryd.prog w 0 (fun _ => true) true n 9 ((([c0, c1, c2, c3] : List Value).drop 1).take (Tryd.prog.cellsOf 9)) = some y1 := hg 1 _ rfl
    rw [cellsStr] at g1
    have g2 : DataW.trod enc Tryd.prog w 0 (fun _ => true) true n 9 ((([c0, c1, c2, c3] : List Value).drop 2).take (Tryd.prog.cellsOf 9)) = some y2 := hg 2 _ rfl
    rw [cellsStr] at g2
    have g3 : DataW.trod enc Tryd.prog w 0 (fun _ => true) true n 3 ((([c0, c1, c2, c3] : List Value).drop 3).take (Tryd.prog.cellsOf 3)) = some y3 := hg 3 _ rfl
    rw [cellsInt] at g3
    obtain ⟨s0, e0, _⟩ := DataW.trod_string Tryd.underlying9 g0
    obtain ⟨s1, e1, _⟩ := DataW.trod_string Tryd.underlying9 g1
    obtain ⟨s2, e2, _⟩ := DataW.trod_string Tryd.underlying9 g2
    obtain ⟨s3, e3, _⟩ := DataW.trod_int Tryd.underlying3 g3
    simp only [List.drop_zero, List.drop_succ_cons, List.take_succ_cons, List.take_zero, List.cons.injEq, and_true] at e0 e1 e2 e3
    subst e0 e1 e2 e3
    exact ⟨⟨s0.data.toList, s1.data.toList, s2.data.toList, s3⟩, by simp [attCells, S]⟩
theorem open_atts {fuel : Nat} {cs : List Value} {x : DataW H × List MemPlace} (h : DataW.trod enc Tryd.prog w 0 (fun _ => true) true fuel 22 cs = some x) (hs : ∀ q ∈ x.1.weights Tryd.prog 22, q ≤ reachBytes) :
    ∃ v ats, cs = [v] ∧ AttsIn w w.heap.size v ats ∧ ats.length ≤ 2600000000000 := by
  rcases DataW.trod_slice Tryd.underlying22 h with ⟨rfl, _⟩ | ⟨a, len, cap, elems, rest, n, _, rfl, rfl, _, hlc, _, hel, hat, _⟩
  · exact ⟨_, [], rfl, ⟨none, 0, rfl, Nat.le_refl _, .inl rfl⟩, by simp⟩
  · have hw := hs ((elems.length + rest.length) * 56) (by simp [DataW.weights, Tryd.underlying22, bytesAtt])
    have hreach : reachBytes = 140737488351232 := rfl
    rw [cellsAtt] at hat
    have hi : ∀ i, i < len → ∃ at_ : Att, ∀ j v, (attCells at_)[j]? = some v → w.cell? (a.add (i * 4 + j)) = some v := by
      intro i hi
      have h1 := hat i hi
      rw [List.getElem?_eq_getElem (by omega)] at h1
      obtain ⟨cs', h2, h3⟩ := Option.bind_eq_some_iff.1 h1
      obtain ⟨_, hl, hc⟩ := World.cells?_some h2
      obtain ⟨at_, rfl⟩ := open_att h3
      refine ⟨at_, fun j v hj => ?_⟩
      have hj4 : j < 4 := by rw [← hl]; exact (List.getElem?_eq_some_iff.1 hj).1
      have := hc j hj4
      rw [Go.Deep.add_add] at this
      rw [this, hj]
    by_cases h0 : len = 0
    · subst h0
      exact ⟨_, [], rfl, ⟨_, cap, rfl, Nat.zero_le _, .inl rfl⟩, by simp⟩
    · obtain ⟨at0, h00⟩ := hi 0 (by omega)
      obtain ⟨b, off, rfl, hb⟩ := addr_plain (h00 0 _ rfl) (by simp)
      have : Inhabited Att := ⟨at0⟩
      obtain ⟨f, hf⟩ := Go.Deep.choose_lt hi
      refine ⟨_, (List.range len).map f, rfl, ⟨_, cap, by simp, by simpa using hlc, .inr ⟨b, off, rfl, hb, fun i at_ hat_ j v hj => ?_⟩⟩, by simp; omega⟩
      have hil : i < len := by have := (List.getElem?_eq_some_iff.1 hat_).1; simpa using this
      simp [hil] at hat_
      subst hat_
      have := hf i hil j v hj
      rw [add_none] at this
      rw [show off + i * 4 + j = off + (i * 4 + j) by omega]
      exact this
theorem open_node (fuel : Nat) : ∀ {cs : List Value} {x : DataW H × List MemPlace}, DataW.trod enc Tryd.prog w 0 (fun _ => true) true fuel 25 cs = some x → (∀ q ∈ x.1.weights Tryd.prog 25, q ≤ reachBytes) →
    ∃ n : Node, NodeIn w w.heap.size n cs ∧ Fit n := by
  induction fuel using Nat.strongRecOn with
  | ind fuel ih =>
    intro cs x h hs
    obtain ⟨xs, n, hn, hx, hl, hlen, hg⟩ := DataW.trod_struct Tryd.underlying25 h
    rw [cellsNode] at hl
    match cs, hl, xs, hlen with
    | [c0, c1, c2, c3, c4, c5, c6], _, [y0, y1, y2, y3, y4, y5, y6], _ =>
      have g0 : DataW.trod enc Tryd.prog w 0 (fun _ => true) true n 3 ((([c0, c1, c2, c3, c4, c5, c6] : List Value).drop 0).take (Tryd.prog.cellsOf 3)) = some y0 := hg 0 _ rfl
      rw [cellsInt] at g0
      have g1 : DataW.trod enc Tryd.prog w 0 (fun _ => true) true n 9 ((([c0, c1, c2, c3, c4, c5, c6] : List Value).drop 1).take (Tryd.prog.cellsOf 9)) = some y1 := hg 1 _ rfl
      rw [cellsStr] at g1
      have g2 : DataW.trod enc Tryd.prog w 0 (fun _ => true) true n 9 ((([c0, c1, c2, c3, c4, c5, c6] : List Value).drop 2).take (Tryd.prog.cellsOf 9)) = some y2 := hg 2 _ rfl
      rw [cellsStr] at g2
      have g3 : DataW.trod enc Tryd.prog w 0 (fun _ => true) true n 22 ((([c0, c1, c2, c3, c4, c5, c6] : List Value).drop 3).take (Tryd.prog.cellsOf 22)) = some y3 := hg 3 _ rfl
      rw [cellsAtts] at g3
      have g4 : DataW.trod enc Tryd.prog w 0 (fun _ => true) true n 23 ((([c0, c1, c2, c3, c4, c5, c6] : List Value).drop 4).take (Tryd.prog.cellsOf 23)) = some y4 := hg 4 _ rfl
      rw [cellsNodes] at g4
      have g5 : DataW.trod enc Tryd.prog w 0 (fun _ => true) true n 9 ((([c0, c1, c2, c3, c4, c5, c6] : List Value).drop 5).take (Tryd.prog.cellsOf 9)) = some y5 := hg 5 _ rfl
      rw [cellsStr] at g5
      have g6 : DataW.trod enc Tryd.prog w 0 (fun _ => true) true n 3 ((([c0, c1, c2, c3, c4, c5, c6] : List Value).drop 6).take (Tryd.prog.cellsOf 3)) = some y6 := hg 6 _ rfl
      rw [cellsInt] at g6
      subst hx
      have hw : ∀ (j : Nat) (t : TypeId) (d : DataW H), ([3, 9, 9, 22, 23, 9, 3] : List TypeId)[j]? = some t → ([y0.1, y1.1, y2.1, y3.1, y4.1, y5.1, y6.1])[j]? = some d → ∀ q ∈ d.weights Tryd.prog t, q ≤ reachBytes := by
        intro j t d ht hd q hq
        refine hs q ?_
        simp only [List.map_cons, List.map_nil, DataW.weights, Tryd.underlying25]
        exact DataW.weights_mem_each ht hd q hq
      obtain ⟨k0, e0, _⟩ := DataW.trod_int Tryd.underlying3 g0
      obtain ⟨s1, e1, _⟩ := DataW.trod_string Tryd.underlying9 g1
      obtain ⟨s2, e2, _⟩ := DataW.trod_string Tryd.underlying9 g2
      obtain ⟨va, ats, e3, ha, hal⟩ := open_atts g3 (hw 3 _ _ rfl rfl)
      obtain ⟨s5, e5, _⟩ := DataW.trod_string Tryd.underlying9 g5
      obtain ⟨k6, e6, _⟩ := DataW.trod_int Tryd.underlying3 g6
      have hkids : ∃ ks : List Node, NodesIn w w.heap.size c4 ks ∧ ks.length ≤ 2600000000000 ∧ ∀ k ∈ ks, Fit k := by
        have hw4 := hw 4 _ _ rfl rfl
        rcases DataW.trod_slice Tryd.underlying23 g4 with ⟨e4, _⟩ | ⟨a, len, cap, elems, rest, n', hn', e4, rfl, _, hlc, _, hel, hat, _⟩
        · simp only [List.drop_zero, List.drop_succ_cons, List.take_succ_cons, List.take_zero, List.cons.injEq, and_true] at e4
          subst e4
          exact ⟨[], ⟨none, 0, rfl, Nat.le_refl _, .inl rfl⟩, by simp, by simp⟩
        · simp only [List.drop_zero, List.drop_succ_cons, List.take_succ_cons, List.take_zero, List.cons.injEq, and_true] at e4
          subst e4
          have hw0 := hw4 ((elems.length + rest.length) * 112) (by simp [DataW.weights, Tryd.underlying23, bytesNode])
          have hreach : reachBytes = 140737488351232 := rfl
          rw [cellsNode] at hat
          have hi : ∀ i, i < len → ∃ kc : Node × List Value, NodeIn w w.heap.size kc.1 kc.2 ∧ Fit kc.1 ∧ ∀ j v, kc.2[j]? = some v → w.cell? (a.add (i * 7 + j)) = some v := by
            intro i hi
            have h1 := hat i hi
            rw [List.getElem?_eq_getElem (by omega)] at h1
            obtain ⟨cs', h2, h3⟩ := Option.bind_eq_some_iff.1 h1
            obtain ⟨_, hl', hc⟩ := World.cells?_some h2
            obtain ⟨k, hk1, hk2⟩ := ih n' (by omega) h3 (fun q hq => hw4 q (by
              simp only [DataW.weights, Tryd.underlying23, List.mem_cons, List.mem_append]
              exact .inr (.inl (weightsAll_of (List.mem_map_of_mem (List.getElem_mem (show i < elems.length by omega))) q hq))))
            refine ⟨(k, cs'), hk1, hk2, fun j v hj => ?_⟩
            have hj7 : j < 7 := by rw [← hl']; exact (List.getElem?_eq_some_iff.1 hj).1
            have := hc j hj7
            rw [Go.Deep.add_add] at this
            rw [this, hj]
          by_cases h0 : len = 0
          · subst h0
            exact ⟨[], ⟨_, cap, rfl, Nat.zero_le _, .inl rfl⟩, by simp, by simp⟩
          · obtain ⟨kc0, h01, _, h00⟩ := hi 0 (by omega)
            obtain ⟨va0, vk0, hcs0, _⟩ := h01.form
            obtain ⟨b, off, rfl, hb⟩ := addr_plain (h00 0 _ (by rw [hcs0]; rfl)) (by simp)
            have : Inhabited (Node × List Value) := ⟨kc0⟩
            obtain ⟨f, hf⟩ := Go.Deep.choose_lt hi
            refine ⟨(List.range len).map fun i => (f i).1, ⟨_, cap, by simp, by simpa using hlc, .inr ⟨b, off, rfl, hb, KidsIn.of_at fun i k hk => ?_⟩⟩, by simp; omega, fun k hk => ?_⟩
            · have hil : i < len := by have := (List.getElem?_eq_some_iff.1 hk).1; simpa using this
              simp [hil] at hk
              subst hk
              refine ⟨(f i).2, (hf i hil).1, fun j v hj => ?_⟩
              have := (hf i hil).2.2 j v hj
              rw [add_none] at this
              rw [show off + i * 7 + j = off + (i * 7 + j) by omega]
              exact this
            · simp only [List.mem_map, List.mem_range] at hk
              obtain ⟨i, hil, rfl⟩ := hk
              exact (hf i hil).2.1
      obtain ⟨ks, hk, hkl, hkf⟩ := hkids
      simp only [List.drop_zero, List.drop_succ_cons, List.take_succ_cons, List.take_zero, List.cons.injEq, and_true] at e0 e1 e2 e3 e5 e6
      subst e0 e1 e2 e3 e5 e6
      refine ⟨.mk k0 s1.data.toList s2.data.toList ats ks s5.data.toList k6, ?_, Fit.of_form hal hkl hkf⟩
      have := NodeIn.of_form (n := .mk k0 s1.data.toList s2.data.toList ats ks s5.data.toList k6) ha hk
      simpa [Node.kind, Node.space, Node.name, Node.text, Node.pos, S] using this
theorem open_nodes {fuel : Nat} {cs : List Value} {x : DataW H × List MemPlace} (h : DataW.trod enc Tryd.prog w 0 (fun _ => true) true fuel 23 cs = some x) (hs : ∀ q ∈ x.1.weights Tryd.prog 23, q ≤ reachBytes) :
    ∃ v ks, cs = [v] ∧ NodesIn w w.heap.size v ks ∧ ks.length ≤ 2600000000000 ∧ ∀ k ∈ ks, Fit k := by
  rcases DataW.trod_slice Tryd.underlying23 h with ⟨rfl, _⟩ | ⟨a, len, cap, elems, rest, n', hn', rfl, rfl, _, hlc, _, hel, hat, _⟩
  · exact ⟨_, [], rfl, ⟨none, 0, rfl, Nat.le_refl _, .inl rfl⟩, by simp, by simp⟩
  · have hw0 := hs ((elems.length + rest.length) * 112) (by simp [DataW.weights, Tryd.underlying23, bytesNode])
    have hreach : reachBytes = 140737488351232 := rfl
    rw [cellsNode] at hat
    have hi : ∀ i, i < len → ∃ kc : Node × List Value, NodeIn w w.heap.size kc.1 kc.2 ∧ Fit kc.1 ∧ ∀ j v, kc.2[j]? = some v → w.cell? (a.add (i * 7 + j)) = some v := by
      intro i hi
      have h1 := hat i hi
      rw [List.getElem?_eq_getElem (by omega)] at h1
      obtain ⟨cs', h2, h3⟩ := Option.bind_eq_some_iff.1 h1
      obtain ⟨_, hl', hc⟩ := World.cells?_some h2
      obtain ⟨k, hk1, hk2⟩ := open_node n' h3 (fun q hq => hs q (by
        simp only [DataW.weights, Tryd.underlying23, List.mem_cons, List.mem_append]
        exact .inr (.inl (weightsAll_of (List.mem_map_of_mem (List.getElem_mem (show i < elems.length by omega))) q hq))))
      refine ⟨(k, cs'), hk1, hk2, fun j v hj => ?_⟩
      have hj7 : j < 7 := by rw [← hl']; exact (List.getElem?_eq_some_iff.1 hj).1
      have := hc j hj7
      rw [Go.Deep.add_add] at this
      rw [this, hj]
    by_cases h0 : len = 0
    · subst h0
      exact ⟨_, [], rfl, ⟨_, cap, rfl, Nat.zero_le _, .inl rfl⟩, by simp, by simp⟩
    · obtain ⟨kc0, h01, _, h00⟩ := hi 0 (by omega)
      obtain ⟨va0, vk0, hcs0, _⟩ := h01.form
      obtain ⟨b, off, rfl, hb⟩ := addr_plain (h00 0 _ (by rw [hcs0]; rfl)) (by simp)
      have : Inhabited (Node × List Value) := ⟨kc0⟩
      obtain ⟨f, hf⟩ := Go.Deep.choose_lt hi
      refine ⟨_, (List.range len).map fun i => (f i).1, rfl, ⟨_, cap, by simp, by simpa using hlc, .inr ⟨b, off, rfl, hb, KidsIn.of_at fun i k hk => ?_⟩⟩, by simp; omega, fun k hk => ?_⟩
      · have hil : i < len := by have := (List.getElem?_eq_some_iff.1 hk).1; simpa using this
        simp [hil] at hk
        subst hk
        refine ⟨(f i).2, (hf i hil).1, fun j v hj => ?_⟩
        have := (hf i hil).2.2 j v hj
        rw [add_none] at this
        rw [show off + i * 7 + j = off + (i * 7 + j) by omega]
        exact this
      · simp only [List.mem_map, List.mem_range] at hk
        obtain ⟨i, hil, rfl⟩ := hk
        exact (hf i hil).2.1
end
/-- A struct argument opened. -/
theorem open_nodeV {H : Type} {enc : TypeId × Value → H} {w : World} {v : Value} {d : DataW H} {ps : List MemPlace} {r : Reach} {base : Nat} (hv : Value.okWide Tryd.prog w r base 25 v) (h : DataW.Trod enc Tryd.prog w 0 (fun _ => true) true 25 v d ps)
    (hs : ∀ q ∈ d.weights Tryd.prog 25, q ≤ reachBytes) : ∃ n : Node, NodeV w w.heap.size n v ∧ Fit n := by
  obtain ⟨cs, rfl, hsz⟩ := okWide_struct Tryd.underlying25 hv
  obtain ⟨fuel, hf⟩ := h
  obtain ⟨n, h1, h2⟩ := open_node fuel hf hs
  exact ⟨n, ⟨_, by simp [Value.cells], h1⟩, h2⟩
end Go.Proofs.YthilaolkkamedaaDoor
set_option linter.unusedVariables false
namespace Go.Proofs.YthilaolkkamedaaDoor
open Go.RowKit Go.ChangeShapes Go.WideShapes

theorem open_strs {H : Type} {enc : TypeId × Value → H} {w : World} {fuel : Nat} {cs : List Value} {x : DataW H × List MemPlace} (h : DataW.trod enc Tryd.prog w 0 (fun _ => true) true fuel 35 cs = some x) :
    ∃ v l, cs = [v] ∧ StrsIn w w.heap.size v l := by
  rcases DataW.trod_slice Tryd.underlying35 h with ⟨rfl, _⟩ | ⟨a, len, cap, elems, rest, n', hn', rfl, rfl, _, hlc, hcm, hel, hat, _⟩
  · exact ⟨_, [], rfl, StrsIn.nil _ _⟩
  · rw [cellsStr] at hat
    unfold maxLen at hcm
    have hi : ∀ i, i < len → ∃ s : Bytes, w.cell? (a.add i) = some (.string (S s)) := by
      intro i hi
      have h1 := hat i hi
      rw [List.getElem?_eq_getElem (by omega)] at h1
      obtain ⟨cs', h2, h3⟩ := Option.bind_eq_some_iff.1 h1
      obtain ⟨_, hl', hc⟩ := World.cells?_some h2
      obtain ⟨s, rfl, _⟩ := DataW.trod_string Tryd.underlying9 h3
      have := hc 0 (by omega)
      rw [Go.Deep.add_add, Nat.mul_one, Nat.add_zero] at this
      exact ⟨s.data.toList, by rw [this]; simp [S]⟩
    by_cases h0 : len = 0
    · subst h0
      exact ⟨_, [], rfl, ⟨_, cap, rfl, Nat.zero_le _, hcm, .inl rfl⟩⟩
    · obtain ⟨s0, h00⟩ := hi 0 (by omega)
      obtain ⟨b, off, rfl, hb⟩ := addr_plain h00 rfl
      obtain ⟨f, hf⟩ := Go.Deep.choose_lt hi
      refine ⟨_, (List.range len).map f, rfl, ⟨_, cap, by simp, by simpa using hlc, hcm, .inr ⟨b, off, rfl, hb, fun i s hs => ?_⟩⟩⟩
      have hil : i < len := by have := (List.getElem?_eq_some_iff.1 hs).1; simpa using this
      simp [hil] at hs
      subst hs
      have := hf i hil
      rw [add_none] at this
      exact this
end Go.Proofs.YthilaolkkamedaaDoor
set_option linter.unusedVariables false
namespace Go.Proofs.YthilaolkkamedaaDoor
open Go.RowKit Go.ChangeShapes Go.WideShapes

theorem laidOut : laidOutB Tryd.prog = true := by kernel_rfl
theorem args_stay {H : Type} {enc : TypeId × Value → H} {W W' : World} (hb : Below W.heap.size W W') : ∀ {ts : List TypeId} {vs : List Value} {ds : List (DataW H)} {ps : List MemPlace}, (∀ t ∈ ts, Tryd.prog.readableRec t = true ∧ t < Tryd.prog.types.size) →
    DataW.TrodAll enc Tryd.prog W 0 (fun _ => true) true ts vs ds ps → (∀ x ∈ ps, x.block < W.heap.size) → DataW.TrodAll enc Tryd.prog W' 0 (fun b => decide (b < W.heap.size)) true ts vs ds ps
  | [], [], [], _, _, h, _ => h
  | _ :: _, _ :: _, _ :: _, _, ht, ⟨p, q, h1, h2, e⟩, hp =>
    ⟨p, q, Below.trod laidOut (ht _ (by simp)).1 (ht _ (by simp)).2 h1 hb (fun x hx => hp x (by rw [e]; exact List.mem_append_left _ hx)),
      args_stay hb (fun t h => ht t (by simp [h])) h2 (fun x hx => hp x (by rw [e]; exact List.mem_append_right _ hx)), e⟩
  | [], [], _ :: _, _, _, h, _ => h.elim
  | [], _ :: _, _, _, _, h, _ => h.elim
  | _ :: _, [], _, _, _, h, _ => h.elim
  | _ :: _, _ :: _, [], _, _, h, _ => h.elim
theorem law_post {H : Type} {enc : TypeId × Value → H} {f : Func} {s : ChangeSpec} {apart : Bool} {W W' : World} {args : Array Value} {ds gs : List (DataW H)} {before : List MemPlace}
    (hW : DataW.Whole enc Tryd.prog f.params.toList s.vars apart W args.toList ds gs before) (hv : s.vars = []) (hr : f.resultTypes = #[4]) (hs : s.fn H ds = { results := [.lit (.bool true)], args := ds })
    (ht : ∀ t ∈ f.params.toList, Tryd.prog.readableRec t = true ∧ t < Tryd.prog.types.size) (hb : Below W.heap.size W W') :
    s.post enc Tryd.prog f apart true false false W args (.bool true) W' := by
  have hlt : ∀ p ∈ before, p.block < W.heap.size := fun p hp => hW.lt p hp
  have hW' := hW
  obtain ⟨p, q, hA, hV, rfl, _, _⟩ := hW
  have hg : gs = [] ∧ q = [] := by
    rw [hv] at hV
    cases gs with
    | nil => exact ⟨rfl, hV⟩
    | cons d ds => exact hV.elim
  obtain ⟨rfl, rfl⟩ := hg
  refine ⟨ds, [], _, [], p, [], hW', ?_, ?_, ?_, World.keptBut_mono (fun x hx => ⟨hx, ?_⟩) (hb.frame (· ∈ p ++ [])), fun h => by cases h⟩
  · rw [List.append_nil, hs, hr]
    exact ⟨[], [], ⟨1, by simp [DataW.trod, Tryd.underlying4, Value.cells]⟩, rfl, rfl⟩
  · rw [List.append_nil, hs]
    exact args_stay hb ht hA (fun x hx => hlt x (List.mem_append_left _ hx))
  · rw [List.append_nil, hs, hv]
    exact rfl
  · exact .inr (.inl (by simpa using hx))
end Go.Proofs.YthilaolkkamedaaDoor
set_option linter.unusedVariables false
namespace Go.Proofs.YthilaolkkamedaaDoor
open Go.RowKit Go.ChangeShapes Go.WideShapes

/-- An array of pairs of integers that reads as these rows holds their numbers, cell for cell. -/
theorem cells_of_pairs {H : Type} {enc : TypeId × Value → H} {P : Program} {w : World} {base : Nat} {sp : Nat → Bool} {held : Bool} {fuel : Nat} {t e i : TypeId} {n : Nat} {k : IntKind} {cs : List Value} {rows : List (Int × Int)} {p : List MemPlace}
    (ht : P.underlying t = some (.array n e)) (he : P.underlying e = some (.array 2 i)) (hi : P.underlying i = some (.int k)) (hci : P.cellsOf i = 1) (hce : P.cellsOf e = 2) (hct : P.cellsOf t = n * 2)
    (h : DataW.trod enc P w base sp held fuel t cs = some (.agg (rows.map fun r => Lib.tabData k [r.1, r.2]), p)) (hn : rows.length = n) : cs = rows.flatMap fun r => [.int k r.1, .int k r.2] := by
  have hl : cs.length = n * 2 := by
    cases fuel with
    | zero => simp [DataW.trod] at h
    | succ fuel =>
      simp only [DataW.trod, ht] at h
      split at h
      · rename_i hl; rw [hl, hct]
      · cases h
  have hrow : ∀ j (hj : j < n), (cs.drop (j * 2)).take 2 = [.int k (rows[j]'(by omega)).1, .int k (rows[j]'(by omega)).2] := by
    intro j hj
    obtain ⟨fuel', d, q, hd, ht'⟩ := Lib.array_elem ht h j hj
    rw [List.getElem?_map, List.getElem?_eq_getElem (by omega)] at hd
    simp only [Option.map_some, Option.some.injEq] at hd
    subst hd
    rw [hce] at ht'
    exact Lib.cells_of_tab he hi hci hce ht'
  clear h ht hct
  subst hn
  induction rows generalizing cs with
  | nil => simpa using hl
  | cons r rows ih =>
    have h0 := hrow 0 (by simp)
    simp only [Nat.zero_mul, List.drop_zero, List.getElem_cons_zero] at h0
    have h1 := ih (cs := cs.drop 2) (by simp only [List.length_drop, List.length_cons] at hl ⊢; omega) (fun j hj => by
      have := hrow (j + 1) (by simpa using hj)
      rw [List.drop_drop, show 2 + j * 2 = (j + 1) * 2 by omega, this]
      simp)
    rw [List.flatMap_cons, ← h1, ← h0, List.take_append_drop]
theorem heap_of_var {P : Program} {w : World} {name : String} {g : Nat} {cs : Array Value} (hg : P.globalNamed name = some g) (h : w.var? P name = some cs) : ∃ t fr, w.heap[g]? = some (.cells cs t fr) := by
  unfold World.var? at h
  rw [hg] at h
  simp only [Option.bind_some] at h
  split at h
  · rename_i cs' t fr hh
    cases h
    exact ⟨t, fr, hh⟩
  · cases h

theorem tabsExtra : U8Extra Tryd.prog Tryd.lays260_ren :=
  ⟨by kernel_rfl, by kernel_rfl, by kernel_rfl, by kernel_rfl, by kernel_rfl, by kernel_rfl, by kernel_rfl⟩
theorem first_eq : Rows.laid_unicode_utf8_first = Lib.firstData := by kernel_rfl
theorem accept_eq : (Rows.laid_unicode_utf8_acceptRanges : DataW Unit) = Lib.acceptData := by kernel_rfl
theorem start_eq : (Rows.laid_feedvault_text_startRanges : DataW Unit) = .agg (startRanges.map fun r => Lib.tabData .i32 [r.1, r.2]) := by kernel_rfl
theorem more_eq : (Rows.laid_feedvault_text_moreRanges : DataW Unit) = .agg (moreRanges.map fun r => Lib.tabData .i32 [r.1, r.2]) := by kernel_rfl
theorem gStart : Tryd.prog.globalNamed "feedvault/text.startRanges" = some 1 := by kernel_rfl
theorem gMore : Tryd.prog.globalNamed "feedvault/text.moreRanges" = some 0 := by kernel_rfl
theorem tStart : (Tryd.prog.globals[(1 : Nat)]?).map (·.type) = some 89 := by kernel_rfl
theorem tMore : (Tryd.prog.globals[(0 : Nat)]?).map (·.type) = some 88 := by kernel_rfl
theorem cellsStart : Tryd.prog.cellsOf 89 = 30 := by kernel_rfl
theorem cellsMore : Tryd.prog.cellsOf 88 = 10 := by kernel_rfl
theorem cellsPair : Tryd.prog.cellsOf 87 = 2 := by kernel_rfl
theorem cellsRune : Tryd.prog.cellsOf 21 = 1 := by kernel_rfl

/-- The four variables as the rows list them. -/
def laid4 : List (String × DataW Unit) := [("unicode/utf8.acceptRanges", Rows.laid_unicode_utf8_acceptRanges), ("feedvault/text.startRanges", Rows.laid_feedvault_text_startRanges), ("feedvault/text.moreRanges", Rows.laid_feedvault_text_moreRanges), ("unicode/utf8.first", Rows.laid_unicode_utf8_first)]
theorem laid4_plain : laid4.filter (fun x => x.2.handleName?.isSome) = [] := by kernel_rfl
theorem tabs_of_laid {W : World} (h : laidMetH Tryd.prog laid4 W) : Tabs W := by
  unfold laidMetH at h
  rw [laid4_plain] at h
  have r1 := Lib.laidMet.reads h (n := "unicode/utf8.first") (d := Rows.laid_unicode_utf8_first) (by simp [laid4])
  have r2 := Lib.laidMet.reads h (n := "unicode/utf8.acceptRanges") (d := Rows.laid_unicode_utf8_acceptRanges) (by simp [laid4])
  have r3 := Lib.laidMet.reads h (n := "feedvault/text.startRanges") (d := Rows.laid_feedvault_text_startRanges) (by simp [laid4])
  have r4 := Lib.laidMet.reads h (n := "feedvault/text.moreRanges") (d := Rows.laid_feedvault_text_moreRanges) (by simp [laid4])
  rw [first_eq] at r1
  rw [accept_eq] at r2
  rw [start_eq] at r3
  rw [more_eq] at r4
  refine ⟨utf8Tabs_of_reads Tryd.lays260 tabsExtra r1 r2, ?_, ?_⟩
  · obtain ⟨g, t, cs, fuel, p, hg, hty, hvar, hd⟩ := r3
    obtain rfl := Option.some.inj (gStart.symm.trans hg)
    obtain rfl := Option.some.inj (tStart.symm.trans hty)
    have hcs := cells_of_pairs Tryd.underlying89 Tryd.underlying87 Tryd.underlying21 cellsRune cellsPair cellsStart hd rfl
    obtain ⟨t, fr, hh⟩ := heap_of_var hg hvar
    refine ⟨t, fr, ?_⟩
    rw [hh]
    congr 2
    apply Array.ext'
    rw [hcs]
    rfl
  · obtain ⟨g, t, cs, fuel, p, hg, hty, hvar, hd⟩ := r4
    obtain rfl := Option.some.inj (gMore.symm.trans hg)
    obtain rfl := Option.some.inj (tMore.symm.trans hty)
    have hcs := cells_of_pairs Tryd.underlying88 Tryd.underlying87 Tryd.underlying21 cellsRune cellsPair cellsMore hd rfl
    obtain ⟨t, fr, hh⟩ := heap_of_var hg hvar
    refine ⟨t, fr, ?_⟩
    rw [hh]
    congr 2
    apply Array.ext'
    rw [hcs]
    rfl
end Go.Proofs.YthilaolkkamedaaDoor
set_option linter.unusedVariables false
namespace Go.Proofs.YthilaolkkamedaaDoor
open Go.RowKit Go.ChangeShapes Go.WideShapes

def withCells (cs : Array Value) : Obj → Obj
  | .cells _ t fr => .cells cs t fr
  | o => o
def firstCells : Array Value := (Lib.firstTab.map fun z => Value.int .u8 z).toArray
def acceptCells : Array Value := ((List.range 16).flatMap fun i => [.int .u8 (Lib.accLo i), .int .u8 (Lib.accHi i)]).toArray
noncomputable def laidWorld (os : Os) : World :=
  { World.holding Tryd.prog os ⟨#[], #[], []⟩ with
    heap := ((((World.holding Tryd.prog os ⟨#[], #[], []⟩).heap.modify 2 (withCells firstCells)).modify 3 (withCells acceptCells)).modify 1 (withCells startCells)).modify 0 (withCells moreCells) }
theorem laid_met (os : Os) (args : Array Value) : laidMet Tryd.prog laid4 ((laidWorld os).forCall (fun _ _ => 0) ⟨#[], args, []⟩).memory :=
  laidMet_of_run' 8 (by kernel_rfl) (by kernel_rfl)
theorem laid_metH (os : Os) (args : Array Value) : laidMetH Tryd.prog laid4 ((laidWorld os).forCall (fun _ _ => 0) ⟨#[], args, []⟩).memory := by
  unfold laidMetH
  rw [laid4_plain]
  exact laid_met os args
theorem own : ownKnob Tryd.prog.godebug = none := by kernel_rfl
end Go.Proofs.YthilaolkkamedaaDoor
