/-
  Walk of chapter 8's statement Duplicates.
-/
import Derived.Test.YtaghipnheomggaaDoorG1
set_option linter.unusedVariables false
namespace Go.Proofs.YtaghipnheomggaaDoor
open Go.RowKit

def dPre : Bytes := [32, 120, 109, 108, 110, 115, 58, 112, 61, 39]
def dMid : Bytes := [39, 32, 120, 109, 108, 110, 115, 58, 113, 61, 39]
def dDecl (u v : UInt8) : Bytes := dPre ++ [u] ++ dMid ++ [v] ++ [39]
def dAttrs : Bytes := [32, 112, 58, 99, 61, 39, 49, 39, 32, 113, 58, 99, 61, 39, 50, 39, 32, 99, 61, 39, 51, 39]
def dDoc (u v : UInt8) : Bool → Bytes
  | false => [60, 97] ++ dDecl u v ++ dAttrs ++ [47, 62]
  | true => [60, 97] ++ dAttrs ++ dDecl u v ++ [47, 62]
def dWant : Bool → Int | false => 35 | true => 11
/-- What is to be shown of a document: it is accepted; what resolving gives. -/
def dupOk (u v : UInt8) (r : Bool) : Bool :=
  match parsed8 (dDoc u v r) with
  | none => false
  | some n => match resolveF n with
    | .error q => u == v && decide (q.1 = dWant r) && decide (q.2 = 10)
    | .ok m => u != v && m.attrs.length == 3
theorem dupOk_all : ∀ i < 3, ∀ j < 3, ∀ r : Bool, dupOk (UInt8.ofNat (117 + i)) (UInt8.ofNat (117 + j)) r = true := by decide +kernel

set_option maxHeartbeats 4000000 in
set_option maxRecDepth 100000 in
theorem law8duplicates_any (a b : Nat) (r : Bool) (w : World) (hT : Tabs w) (ha : a < 256) (hb : b < 256) :
    Calls Tryd.prog 5 #[.int .u8 a, .int .u8 b, .bool r] w fun e w' => e = .returned (.bool true) ∧ Below w.heap.size w w' := by
  have hall := dupOk_all (a % 3) (by omega) (b % 3) (by omega) r
  have z1 : IntKind.u8.wrap (117 + (a : Int).tmod 3) = ((117 + a % 3 : Nat) : Int) := by
    rw [IntKind.wrap_u8, Int.tmod_eq_emod_of_nonneg (by omega)]; omega
  have z2 : IntKind.u8.wrap (117 + (b : Int).tmod 3) = ((117 + b % 3 : Nat) : Int) := by
    rw [IntKind.wrap_u8, Int.tmod_eq_emod_of_nonneg (by omega)]; omega
  have hl1 : 117 + a % 3 < 256 := by omega
  have hl2 : 117 + b % 3 < 256 := by omega
  generalize 117 + a % 3 = x at *
  generalize 117 + b % 3 = y at *
  have hconv : ∀ (W : World) (g z : Nat), z < 256 → W.cell? ⟨g, 0, none⟩ = some (.int .u8 z) → (convert 38 9 (.slice (some ⟨g, 0, none⟩) 1 1)).run Tryd.prog W = .ok (.string (S [UInt8.ofNat z])) W := fun W g z hz h => by
    refine run_bytes_string W ⟨g, 0, none⟩ [UInt8.ofNat z] 1 (fun j q hj => ?_)
    match j, hj with
    | 0, hj =>
      have hq : UInt8.ofNat z = q := by simpa using hj
      subst hq
      rw [add_zero_block, h]
      congr 2
      simp
      omega
  have hc1 := fun W g => hconv W g x hl1
  have hc2 := fun W g => hconv W g y hl2
  clear hconv
  have hu : UInt8.ofNat x = UInt8.ofNat y ↔ x = y := by
    constructor
    · intro h
      have := congrArg UInt8.toNat h
      simp at this
      omega
    · intro h; rw [h]
  have hal := fun W => fun (hW : Below w.heap.size w W) => alive8_any W (hT.next hW)
  have HAL := Lib.hid hal
  have HT := Lib.hid hT
  have B1 := Lib.hid ((((Below.refl _ w).alloc (Nat.le_refl _) (.cells #[.int .u8 x] 5)).alloc (by simp) (.cells #[.int .u8 y] 5)).drew)
  have B2 := Lib.hid ((((Below.refl _ w).alloc (Nat.le_refl _) (.cells #[.int .u8 y] 5)).alloc (by simp) (.cells #[.int .u8 x] 5)).drew)
  generalize hgu : UInt8.ofNat x = u at *
  generalize hgv : UInt8.ofNat y = v at *
  clear hgu hgv hu hal hT
  unfold dupOk at hall
  have hlen : (dDoc u v r).length ≤ 9223372036854775807 := by cases r <;> (simp [dDoc, dDecl, dPre, dMid, dAttrs])
  have hpd := fun W => parsed8_any (dDoc u v r) W hlen
  cases hp : parsed8 (dDoc u v r) with
  | none => rw [hp] at hall; cases hall
  | some n =>
    rw [hp] at hall hpd
    simp only at hall
    obtain ⟨hfull, hcl⟩ := parsed8_small hp
    have HPD : Hid (∀ W, Below w.heap.size w W → Calls Tryd.prog 12 #[.string (S (dDoc u v r))] W fun e w' => (∃ v1, e = .returned (.tuple #[v1, .int .i64 1]) ∧ NodeV w' w'.heap.size n v1) ∧ Below w.heap.size w w') := fun W hW => (hpd W).mono fun e w' h => ⟨by
      obtain ⟨⟨v1, h1, h2⟩, _⟩ := h
      exact ⟨v1, h1, h2.toV (fun _ hk => hk.2)⟩, hW.trans (h.2.mono hW.size)⟩
    have HRT : Hid (∀ W v1, Below w.heap.size w W → NodeV W W.heap.size n v1 → Calls Tryd.prog 13 #[v1] W fun e w' => ResT W w' (resolveF n) e ∧ Below w.heap.size w w') := fun W v1 hW hv => (resolveTop_any n v1 W hcl (by omega) (HT.out.next hW) hv).mono fun e w' h => ⟨h.1, hW.trans (h.2.mono hW.size)⟩
    generalize resolveF n = R at *
    clear hpd hcl hfull hp hlen
    rcases R with ⟨q1, q2⟩ | m
    · simp only [Bool.and_eq_true, decide_eq_true_eq, beq_iff_eq] at hall
      obtain ⟨⟨rfl, h1⟩, h2⟩ := hall
      subst h1 h2
      have t1 : (u == u) = true := by simp
      cases r
      all_goals
        go_enter Tryd.func5, Tryd.ntmps5
        go_wp2_with fail
        go_region
        all_goals
          go_wp2_with fail
          first | refine (HPD.out _ B1.out).mono ?_ | refine (HPD.out _ B2.out).mono ?_
          rintro e w1 ⟨⟨v1, rfl, hv1⟩, hb1⟩
          obtain ⟨cs1, rfl, hn1⟩ := hv1
          obtain ⟨A1, c1, K1, d1, rfl, _, _, _, _⟩ := hn1.open_
          have N1 := Lib.hid (NodeIn.keep (w' := w1.alloc (nodeBox n A1 c1 K1 d1)) (B' := (w1.alloc (nodeBox n A1 c1 K1 d1)).heap.size) (fun b hb => Below.heap_alloc _ _ _ hb) (by simp) _ _ hn1)
          have r1 := Lib.hid (range_of_heap (cs := [.int .i64 n.kind, .string (S n.space), .string (S n.name), .slice A1 n.attrs.length c1, .slice K1 n.kids.length d1, .string (S n.text), .int .i64 n.pos]) (heap_alloc_new w1 (nodeBox n A1 c1 K1 d1)))
          have BB1 := Lib.hid (hb1.alloc hb1.size (nodeBox n A1 c1 K1 d1))
          clear hn1 hb1
          go_wp2_with (with_reducible refine gate ?_; refine wp_load_node rfl _ rfl w1.heap.size 0 rfl _ rfl r1.out ?_)
          refine (HRT.out _ _ BB1.out ⟨_, rfl, N1.out⟩).mono ?_
          rintro e w2 ⟨rfl, hb2⟩
          have BB2 := Lib.hid (hb2.alloc hb2.size (.cells zNodC 29))
          clear hb2
          go_wp2_with (go_at_call 9; refine (HAL.out _ BB2.out).mono ?_; rintro e w3 ⟨rfl, hb3⟩)
          go_ret
          exact ⟨by simp, BB2.out.trans (hb3.mono BB2.out.size)⟩
    · simp only [Bool.and_eq_true, bne_iff_ne, beq_iff_eq] at hall
      obtain ⟨huv, h3⟩ := hall
      have t1 : (u == v) = false := by rw [beq_eq_false_iff_ne]; exact huv
      have t3 : ((m.attrs.length : Int) == 3) = true := by rw [h3]; rfl
      clear h3 huv
      cases r
      all_goals
        go_enter Tryd.func5, Tryd.ntmps5
        go_wp2_with fail
        go_region
        all_goals
          go_wp2_with fail
          first | refine (HPD.out _ B1.out).mono ?_ | refine (HPD.out _ B2.out).mono ?_
          rintro e w1 ⟨⟨v1, rfl, hv1⟩, hb1⟩
          obtain ⟨cs1, rfl, hn1⟩ := hv1
          obtain ⟨A1, c1, K1, d1, rfl, _, _, _, _⟩ := hn1.open_
          have N1 := Lib.hid (NodeIn.keep (w' := w1.alloc (nodeBox n A1 c1 K1 d1)) (B' := (w1.alloc (nodeBox n A1 c1 K1 d1)).heap.size) (fun b hb => Below.heap_alloc _ _ _ hb) (by simp) _ _ hn1)
          have r1 := Lib.hid (range_of_heap (cs := [.int .i64 n.kind, .string (S n.space), .string (S n.name), .slice A1 n.attrs.length c1, .slice K1 n.kids.length d1, .string (S n.text), .int .i64 n.pos]) (heap_alloc_new w1 (nodeBox n A1 c1 K1 d1)))
          have BB1 := Lib.hid (hb1.alloc hb1.size (nodeBox n A1 c1 K1 d1))
          clear hn1 hb1
          go_wp2_with (with_reducible refine gate ?_; refine wp_load_node rfl _ rfl w1.heap.size 0 rfl _ rfl r1.out ?_)
          refine (HRT.out _ _ BB1.out ⟨_, rfl, N1.out⟩).mono ?_
          rintro e w2 ⟨⟨v2, rfl, hv2⟩, hb2⟩
          obtain ⟨cs2, rfl, hn2⟩ := hv2
          obtain ⟨A2, c2, K2, d2, rfl, _, _, _, _⟩ := hn2.open_
          have BB2 := Lib.hid (hb2.alloc hb2.size (nodeBox m A2 c2 K2 d2))
          have X2 := Lib.hid (heap_alloc_new w2 (nodeBox m A2 c2 K2 d2))
          clear hb2 hn2
          go_wp2_with (go_at_call 9; refine (HAL.out _ BB2.out).mono ?_; rintro e w3 ⟨rfl, hb3⟩; have X3 := (hb3.block w2.heap.size (by simp)).trans X2.out; obtain ⟨k0, k1, k2, k3, k4, k5, k6⟩ := cells7 X3)
          go_ret
          exact ⟨rfl, BB2.out.trans (hb3.mono BB2.out.size)⟩
end Go.Proofs.YtaghipnheomggaaDoor
