/-
  Walk of chapter 8's statement Scopes.
-/
import Derived.Test.YtaghipnheomggaaDoorG1
set_option linter.unusedVariables false
namespace Go.Proofs.YtaghipnheomggaaDoor
open Go.RowKit

/-- The start of the document, i elements deep: the k-th bears the declaration. -/
def scStart (k : Nat) : Nat → Bytes
  | 0 => []
  | i + 1 => scStart k i ++ [60, 97] ++ (if i = k then [32, 120, 109, 108, 110, 115, 58, 112, 61, 39, 117, 39] else []) ++ [62, 60, 112, 58, 98, 47, 62]
def scEnd : Nat → Bytes | 0 => [] | i + 1 => [60, 47, 97, 62] ++ scEnd i
def scDoc (d k : Nat) : Bytes := scStart k d ++ scEnd d
/-- What is to be shown of a document. -/
def scOk (d k : Nat) : Bool :=
  match parsed8 (scDoc d k) with
  | none => false
  | some n => match resolveF n with
    | .error q => k != 0 && decide (q.1 = 3) && decide (q.2 = 13)
    | .ok m => k == 0 && (match m.kids with | x :: _ => x.space == [117] && x.name == [98] | [] => false)
theorem scOk_all : ∀ d < 8, ∀ k < 10, scOk (d + 1) k = true := by decide +kernel

theorem scStart_len (k : Nat) : ∀ i, (scStart k i).length ≤ 21 * i
  | 0 => by simp [scStart]
  | i + 1 => by
    have := scStart_len k i
    rw [scStart]
    split <;> simp <;> omega
theorem repeat8 (d : Nat) (w : World) (h1 : 1 ≤ d) (h2 : d ≤ 8) :
    Calls Tryd.prog 21 #[.string ⟨#[60, 47, 97, 62]⟩, .int .i64 d] w fun e w' => e = .returned (.string (S (scEnd d))) ∧ Below w.heap.size w w' := by
  by_cases h : d = 1
  · subst h
    refine (Tryd.strings_Repeat_one ⟨#[60, 47, 97, 62]⟩ w).mono ?_
    rintro e w' ⟨rfl, rfl⟩
    exact ⟨rfl, Below.refl _ _⟩
  · refine (Tryd.strings_Repeat_main ⟨#[60, 47, 97, 62]⟩ d w (by omega) (by omega) (by show 4 * d ≤ _; omega) (by decide)).mono ?_
    rintro e w' ⟨rfl, hb⟩
    refine ⟨?_, hb⟩
    match d, h1, h2, h with
    | 2, _, _, _ => rfl
    | 3, _, _, _ => rfl
    | 4, _, _, _ => rfl
    | 5, _, _, _ => rfl
    | 6, _, _, _ => rfl
    | 7, _, _, _ => rfl
    | 8, _, _, _ => rfl

theorem scEnd_len : ∀ d, d < 8 → (scEnd (d + 1)).length ≤ 40 := by decide
/-- What is to be shown of a document, told of its tree. -/
def ScoOk (k : Nat) (R : Except (Int × Nat) Node) : Prop :=
  match R with
  | .error q => k ≠ 0 ∧ q.1 = 3 ∧ q.2 = 13
  | .ok m => k = 0 ∧ ∃ (h : 0 < m.kids.length), (m.kids[0].space == [117]) = true ∧ (m.kids[0].name == [98]) = true
/-- What the walk wants to know of a document. -/
structure Sco (d k : Nat) (w : World) (X Y : Bytes) (n : Node) (R : Except (Int × Nat) Node) : Prop where
  st : scStart k (d + 1) = X
  lx : X.length ≤ 200
  ly : Y.length ≤ 40
  rep : ∀ W, Calls Tryd.prog 21 #[.string ⟨#[60, 47, 97, 62]⟩, .int .i64 ((d : Int) + 1)] W fun e w' => e = .returned (.string (S Y)) ∧ Below W.heap.size W w'
  pd : ∀ W, Below w.heap.size w W → Calls Tryd.prog 12 #[.string (S (X ++ Y))] W fun e w' => (∃ v1, e = .returned (.tuple #[v1, .int .i64 1]) ∧ NodeV w' w'.heap.size n v1) ∧ Below w.heap.size w w'
  rt : ∀ W v1, Below w.heap.size w W → NodeV W W.heap.size n v1 → Calls Tryd.prog 13 #[v1] W fun e w' => ResT W w' R e ∧ Below w.heap.size w w'
  ok : ScoOk k R
theorem scopes_facts (d k : Nat) (hd : d < 8) (hk : k < 10) (w : World) (hT : Tabs w) : ∃ X Y n R, Sco d k w X Y n R := by
  have hall := scOk_all d hd k hk
  have hx := scStart_len k (d + 1)
  have hy := scEnd_len d hd
  have hlen : (scDoc (d + 1) k).length ≤ 9223372036854775807 := by unfold scDoc; rw [List.length_append]; omega
  have hpd := fun W => parsed8_any (scDoc (d + 1) k) W hlen
  unfold scOk at hall
  cases hp : parsed8 (scDoc (d + 1) k) with
  | none => rw [hp] at hall; cases hall
  | some n =>
    rw [hp] at hall hpd
    simp only at hall
    obtain ⟨hfull, hcl⟩ := parsed8_small hp
    refine ⟨scStart k (d + 1), scEnd (d + 1), n, resolveF n, rfl, by omega, hy, fun W => by have := repeat8 (d + 1) W (by omega) (by omega); rwa [Int.natCast_add] at this, fun W hW => (hpd W).mono fun e w' h => ⟨?_, hW.trans (h.2.mono hW.size)⟩, fun W v1 hW hv => (resolveTop_any n v1 W hcl (by omega) (hT.next hW) hv).mono fun e w' h => ⟨h.1, hW.trans (h.2.mono hW.size)⟩, ?_⟩
    · obtain ⟨⟨v1, h1, h2⟩, _⟩ := h
      exact ⟨v1, h1, h2.toV (fun _ hk => hk.2)⟩
    · clear hpd hp
      unfold ScoOk
      generalize resolveF n = R at *
      cases R with
      | error q =>
        simp only [Bool.and_eq_true, decide_eq_true_eq, bne_iff_ne] at hall
        exact ⟨hall.1.1, hall.1.2, hall.2⟩
      | ok m =>
        simp only [Bool.and_eq_true, beq_iff_eq] at hall
        refine ⟨hall.1, ?_⟩
        cases hm : m.kids with
        | nil => rw [hm] at hall; cases hall.2
        | cons x l =>
          rw [hm] at hall
          exact ⟨by simp, by simpa using hall.2⟩

set_option maxHeartbeats 4000000 in
set_option maxRecDepth 100000 in
theorem law8scopes_any (a b : Nat) (w : World) (hT : Tabs w) (ha : a < 256) (hb : b < 256) :
    Calls Tryd.prog 8 #[.int .u8 a, .int .u8 b] w fun e w' => e = .returned (.bool true) ∧ Below w.heap.size w w' := by
  obtain ⟨X, Y, n, R, F⟩ := scopes_facts (a % 8) (b % 10) (by omega) (by omega) w hT
  have z1 : (a : Int).tmod 8 = ((a % 8 : Nat) : Int) := by rw [Int.tmod_eq_emod_of_nonneg (by omega)]; omega
  have z2 : (b : Int).tmod 10 = ((b % 10 : Nat) : Int) := by rw [Int.tmod_eq_emod_of_nonneg (by omega)]; omega
  have hd8 : a % 8 < 8 := by omega
  have hk10 : b % 10 < 10 := by omega
  generalize a % 8 = d at *
  generalize b % 10 = k at *
  have HF := Lib.hid F
  have hal := fun W => fun (hW : Below w.heap.size w W) => alive8_any W (hT.next hW)
  have HAL := Lib.hid hal
  clear hal hT F
  go_enter Tryd.func8, Tryd.ntmps8
  go_wp2_with fail
  go_loopw [7, 27] (fun s7 i27 wr => ∃ i : Nat, i ≤ d + 1 ∧ i27 = .int .i64 i ∧ s7 = .string (S (scStart k i)) ∧ w = wr) (fun _ i27 _ => d + 1 - (intOf i27).toNat)
  case atStart => exact ⟨0, by omega, rfl, rfl, rfl⟩
  case round =>
    obtain ⟨i, hi, rfl, rfl, rfl⟩ := hrel
    by_cases hlt : i < d + 1
    · have hlt' : (i : Int) < (d : Int) + 1 := by omega
      have hsl : (scStart k i).length ≤ 200 := by have := scStart_len k i; omega
      have hst : scStart k (i + 1) = scStart k i ++ [60, 97] ++ (if i = k then [32, 120, 109, 108, 110, 115, 58, 112, 61, 39, 117, 39] else []) ++ [62, 60, 112, 58, 98, 47, 62] := rfl
      by_cases hik : i = k
      · rw [if_pos hik] at hst
        have t1 : ((i : Int) == (k : Int)) = true := by rw [hik]; simp
        have t2 : (i == k) = true := by rw [hik]; simp
        have t3 : decide ((i : Int) = (k : Int)) = true := by rw [hik]; simp
        have HST := Lib.hid hst
        clear hst hik
        go_wp2
        go_roundw
        case rel => exact ⟨i + 1, by omega, by go_num, by rw [HST.out]; simp, by first | rfl | trivial⟩
        case measure => simp [intOf]; omega
      · rw [if_neg hik] at hst
        have t1 : ((i : Int) == (k : Int)) = false := by rw [beq_eq_false_iff_ne]; omega
        have t2 : (i == k) = false := by rw [beq_eq_false_iff_ne]; exact hik
        have HST := Lib.hid hst
        clear hst
        go_wp2
        go_roundw
        case rel => exact ⟨i + 1, by omega, by go_num, by rw [HST.out]; simp, by first | rfl | trivial⟩
        case measure => simp [intOf]; omega
    · have hid : i = d + 1 := by omega
      subst hid
      rw [HF.out.st]
      have hlt' : ¬ (((d + 1 : Nat) : Int) < (d : Int) + 1) := by omega
      have hlx := HF.out.lx
      have hly := HF.out.ly
      clear hlt hi
      go_wp2_with fail
      refine (HF.out.rep _).mono ?_
      rintro e w0 ⟨rfl, hb0⟩
      have hok : ScoOk k R := HF.out.ok
      unfold ScoOk at hok
      have HRT : Hid (∀ W v1, Below w.heap.size w W → NodeV W W.heap.size n v1 → Calls Tryd.prog 13 #[v1] W fun e w' => ResT W w' R e ∧ Below w.heap.size w w') := HF.out.rt
      have HPD : Hid (∀ W, Below w.heap.size w W → Calls Tryd.prog 12 #[.string (S (X ++ Y))] W fun e w' => (∃ v1, e = .returned (.tuple #[v1, .int .i64 1]) ∧ NodeV w' w'.heap.size n v1) ∧ Below w.heap.size w w') := HF.out.pd
      clear HF
      rcases R with ⟨q1, q2⟩ | m
      · obtain ⟨hk0, h1, h2⟩ := hok
        simp only at h1 h2
        subst h1 h2
        have t1 : ((k : Int) == 0) = false := by rw [beq_eq_false_iff_ne]; omega
        go_wp2_with fail
        refine (HPD.out _ hb0).mono ?_
        rintro e w1 ⟨⟨v1, rfl, hv1⟩, hb1⟩
        obtain ⟨cs1, rfl, hn1⟩ := hv1
        obtain ⟨A1, c1, K1, d1, rfl, _, _, _, _⟩ := hn1.open_
        have N1 := Lib.hid (NodeIn.keep (w' := w1.alloc (nodeBox n A1 c1 K1 d1)) (B' := (w1.alloc (nodeBox n A1 c1 K1 d1)).heap.size) (fun b hb => Below.heap_alloc _ _ _ hb) (by simp) _ _ hn1)
        have r1 := Lib.hid (range_of_heap (cs := [.int .i64 n.kind, .string (S n.space), .string (S n.name), .slice A1 n.attrs.length c1, .slice K1 n.kids.length d1, .string (S n.text), .int .i64 n.pos]) (heap_alloc_new w1 (nodeBox n A1 c1 K1 d1)))
        have BB1 := Lib.hid (hb1.alloc hb1.size (nodeBox n A1 c1 K1 d1))
        clear hn1 hb1
        go_wp2_with (with_reducible refine gate ?_; refine wp_load_node rfl _ rfl w1.heap.size 0 rfl _ rfl r1.out ?_)
        refine (HRT.out _ _ BB1.out ⟨_, rfl, N1.out⟩).mono ?_
        rintro e w2 ⟨rfl, hb2⟩
        have BB2 := Lib.hid (hb2.alloc hb2.size (.cells zNodC 29))
        clear hb2
        go_wp2_with (go_at_call 9; refine (HAL.out _ BB2.out).mono ?_; rintro e w3 ⟨rfl, hb3⟩)
        go_ret
        exact ⟨rfl, BB2.out.trans (hb3.mono BB2.out.size)⟩
      · obtain ⟨rfl, hk0, t2, t3⟩ := hok
        have hk0' : (0 : Int) < m.kids.length := by omega
        go_wp2_with fail
        refine (HPD.out _ hb0).mono ?_
        rintro e w1 ⟨⟨v1, rfl, hv1⟩, hb1⟩
        obtain ⟨cs1, rfl, hn1⟩ := hv1
        obtain ⟨A1, c1, K1, d1, rfl, _, _, _, _⟩ := hn1.open_
        have N1 := Lib.hid (NodeIn.keep (w' := w1.alloc (nodeBox n A1 c1 K1 d1)) (B' := (w1.alloc (nodeBox n A1 c1 K1 d1)).heap.size) (fun b hb => Below.heap_alloc _ _ _ hb) (by simp) _ _ hn1)
        have r1 := Lib.hid (range_of_heap (cs := [.int .i64 n.kind, .string (S n.space), .string (S n.name), .slice A1 n.attrs.length c1, .slice K1 n.kids.length d1, .string (S n.text), .int .i64 n.pos]) (heap_alloc_new w1 (nodeBox n A1 c1 K1 d1)))
        have BB1 := Lib.hid (hb1.alloc hb1.size (nodeBox n A1 c1 K1 d1))
        clear hn1 hb1
        go_wp2_with (with_reducible refine gate ?_; refine wp_load_node rfl _ rfl w1.heap.size 0 rfl _ rfl r1.out ?_)
        refine (HRT.out _ _ BB1.out ⟨_, rfl, N1.out⟩).mono ?_
        rintro e w2 ⟨⟨v2, rfl, hv2⟩, hb2⟩
        obtain ⟨cs2, rfl, hn2⟩ := hv2
        obtain ⟨A2, c2, K2, d2, rfl, _, hkk, _, _⟩ := hn2.open_
        obtain ⟨kb, off, ks, rfl, hkb, hkr, hkn⟩ := hkk.at_ hk0
        obtain ⟨KA, kc, KK, kd, rfl, _, _, _, _⟩ := hkn.open_
        have hr2 := rangeAt_keep hkr (Below.heap_alloc w2 (nodeBox m A2 c2 (some ⟨kb, off, none⟩) d2) kb hkb.2.1)
        have hkb2 : kb < (w2.alloc (nodeBox m A2 c2 (some ⟨kb, off, none⟩) d2)).heap.size := by have := hkb.2.1; simp; omega
        have R2 := Lib.hid hr2
        have BB2 := Lib.hid (hb2.alloc hb2.size (nodeBox m A2 c2 (some ⟨kb, off, none⟩) d2))
        have X2 := Lib.hid (heap_alloc_new w2 (nodeBox m A2 c2 (some ⟨kb, off, none⟩) d2))
        clear hb2 hn2 hkk hkr hkn hr2 hkb
        generalize m.kids[0] = x at *
        go_wp2_with (go_at_call 9; refine (HAL.out _ BB2.out).mono ?_; rintro e w3 ⟨rfl, hb3⟩; have X3 := (hb3.block w2.heap.size (by simp)).trans X2.out; obtain ⟨k0, k1, k2, k3, k4, k5, k6⟩ := cells7 X3; have hr3 := rangeAt_keep R2.out (hb3.block kb hkb2); have q1 := hr3 1 _ rfl; have q2 := hr3 2 _ rfl)
        go_ret
        exact ⟨rfl, BB2.out.trans (hb3.mono BB2.out.size)⟩
end Go.Proofs.YtaghipnheomggaaDoor
