/-
  Chapter 12's statements: the walk of Depth.
-/
import Derived.Test.YtadkgjbidhfefaaDoorLaw12d
set_option linter.unusedVariables false
namespace Go.Proofs.YtadkgjbidhfefaaDoor
open Go.RowKit

def nestJ (o : Bool) : Nat → JV
  | 0 => .mk 2 false 1 [] [] [] 0
  | i + 1 => if o = true then .mk 5 false 0 [] [] [.mk [97] (nestJ o i) 0] 0 else .mk 4 false 0 [] [nestJ o i] [] 0
theorem nestJ_obj (i : Nat) : nestJ true (i + 1) = .mk 5 false 0 [] [] [.mk [97] (nestJ true i) 0] 0 := rfl
theorem nestJ_arr (i : Nat) : nestJ false (i + 1) = .mk 4 false 0 [] [nestJ false i] [] 0 := rfl
theorem nestJ_ful (o : Bool) : ∀ i, jful (nestJ o i) ≤ 2 * i + 1
  | 0 => by simp [nestJ, jful, jfulL, jfulM]
  | i + 1 => by
    have := nestJ_ful o i
    cases o
    · rw [nestJ_arr]; simp only [jful, jfulL, jfulM, List.length_nil]; omega
    · rw [nestJ_obj]; simp only [jful, jfulL, jfulM, List.length_nil, List.length_cons]; omega
theorem nestJ_dep (o : Bool) : ∀ i, jdep (nestJ o i) = i + 1
  | 0 => by simp [nestJ, jdep]
  | i + 1 => by
    have := nestJ_dep o i
    cases o
    · rw [nestJ_arr]; simp only [jdep, jdepL, jdepM, if_true]; rw [if_neg (by decide)]; omega
    · rw [nestJ_obj]; simp only [jdep, jdepL, jdepM, if_true]; rw [if_neg (by decide)]; omega
theorem nestJ_rv (o : Bool) : ∀ i, jrv (nestJ o i) = true
  | 0 => by cases o <;> decide +kernel
  | i + 1 => by
    have := nestJ_rv o i
    have e1 : utf8J [] = true := by decide +kernel
    have e2 : utf8J [97] = true := by decide +kernel
    cases o
    · rw [nestJ_arr, jrv, jrvL, jrvL, jrvM, this]; simp [jhOk, JV.kind, JV.b, JV.n, JV.s, JV.items, JV.mems, e1]
    · rw [nestJ_obj, jrv, jrvL, jrvM, jrvM, this]; simp [jhOk, JV.kind, JV.b, JV.n, JV.s, JV.items, JV.mems, e1, e2]
theorem nestJ_vd (o : Bool) (i : Nat) : jvd (nestJ o i) 1 = decide (i + 1 ≤ 100) := by
  rw [jvd_eq, nestJ_rv, nestJ_dep, Bool.true_and, Bool.eq_iff_iff]; simp
/-- Block b holds a value, and what it leads to lies elsewhere. -/
def HoldsJ (w : World) (b : Nat) (v : JV) : Prop := ∃ IA ic MA mc, w.heap[b]? = some (valBox v IA ic MA mc) ∧ ValP w (fun k => k ≠ b ∧ k < w.heap.size) v [.int .i64 v.kind, .bool v.b, .int .i64 v.n, .string (S v.s), .slice IA v.items.length ic, .slice MA v.mems.length mc, .int .i64 v.pos]

set_option maxHeartbeats 4000000 in
set_option maxRecDepth 100000 in
theorem law12depth_any (x : Nat) (o : Bool) (w : World) (hT : TabJ w) (hx : x ≤ 255) :
    Calls Tryd.prog 6 #[.int .u8 x, .bool o] w fun e w' => e = .returned (.bool true) ∧ Below w.heap.size w w' := by
  have z1 : (x : Int).tmod 120 = ((x % 120 : Nat) : Int) := by rw [Int.tmod_eq_emod_of_nonneg (by omega)]; omega
  have hk : x % 120 < 120 := by omega
  have hck := fun (W : World) (u : Value) (hW : Below w.heap.size w W) (hu : ValV W (· < W.heap.size) (nestJ o (x % 120)) u) => check12_any (nestJ o (x % 120)) u W (by have := nestJ_ful o (x % 120); omega) (hT.next hW) hu
  rw [nestJ_vd] at hck
  generalize x % 120 = k at *
  have hal := fun W => fun (hW : Below w.heap.size w W) => alive12_any W (hT.next hW)
  have HAL := Lib.hid hal
  have HCK := Lib.hid hck
  clear hal hck hT
  cases o
  all_goals
    go_enter Tryd.func6, Tryd.ntmps6
    go_wp2_with fail
    refine (int12_any 1 _).mono ?_
    rintro e w1 ⟨rfl, hb1⟩
    have X1 := Lib.hid (heap_alloc_new w1 (.cells #[.int .i64 2, .bool false, .int .i64 1, .string (S []), .slice none 0 0, .slice none 0 0, .int .i64 0] 25))
    have B1 := Lib.hid (hb1.alloc hb1.size (.cells #[.int .i64 2, .bool false, .int .i64 1, .string (S []), .slice none 0 0, .slice none 0 0, .int .i64 0] 25))
    have hz1 := hb1.size
    clear hb1
    go_wp2_with fail
    generalize hvb : w1.heap.size = vb at *
    have HVB := Lib.hid hvb
    clear hvb
  · go_loopw [13] (fun i13 wr => ∃ i : Nat, i ≤ k ∧ i13 = .int .i64 i ∧ HoldsJ wr vb (nestJ false i) ∧ Below w.heap.size w wr) (fun i13 _ => k - (intOf i13).toNat)
    case atStart => exact ⟨0, Nat.zero_le _, rfl, ⟨none, 0, none, 0, X1.out, ValP.of_open (n := nestJ false 0) (ElsP.nil _ _ _) (ElsP.nil _ _ _)⟩, B1.out⟩
    case round =>
      obtain ⟨i, hi, rfl, hh, hb⟩ := hrel
      have HB := Lib.hid hb
      obtain ⟨IA, ic, MA, mc, hX, hp⟩ := hh
      have hvl := heap_lt hX
      have HP := Lib.hid hp
      have HX := Lib.hid hX
      obtain ⟨q0, q1, q2, q3, q4, q5, q6⟩ := jbox_cells hX
      clear hb hX hp X1 B1
      by_cases hlt : i < k
      · have hlt' : (i : Int) < k := by omega
        have HNX := Lib.hid (nestJ_arr i)
        generalize nestJ false i = y at *
        have har := array12_any [y] (by simp) (.slice (some ⟨wr.heap.size, 0, none⟩) 1 1) (wr.alloc (valBox y IA ic MA mc)) (fun b => b ≠ vb ∧ b < wr.heap.size + 1) (fun b hb => by simpa using hb.2)
          (els_one valE_ok (w := wr) (p := fun b => b ≠ vb ∧ b < wr.heap.size) HP.out (fun b hb => hb.2) _ (fun b hb => ⟨hb.1, by omega⟩) ⟨by omega, by omega⟩) (by simp)
        have HAR := Lib.hid har
        have HXA := Lib.hid ((Below.heap_alloc wr (valBox y IA ic MA mc) vb hvl).trans HX.out)
        have HBA := Lib.hid (HB.out.alloc HB.out.size (valBox y IA ic MA mc))
        have hza : (wr.alloc (valBox y IA ic MA mc)).heap.size = wr.heap.size + 1 := by simp
        clear har
        go_wp2_with fail
        refine HAR.out.mono ?_
        rintro e w3 ⟨v3, rfl, hv3, hb3⟩
        obtain ⟨NA, nc, NM, nd, rfl, hp3⟩ := hv3.cells
        have X3 := (hb3.block vb (by omega)).trans HXA.out
        have hz3 := hb3.size
        rw [hza] at hz3
        have HP3 := Lib.hid hp3
        have HB3 := Lib.hid (HBA.out.trans (hb3.mono HBA.out.size))
        clear hv3 hp3 hb3 q0 q1 q2 q3 q4 q5 q6 HXA
        go_wp2_with (with_reducible refine gate ?_; refine wp_store_val rfl _ _ rfl vb _ _ _ _ _ _ _ _ _ _ _ _ rfl rfl X3 rfl ?_; intro w4 hw4 hu4)
        have hz4 := hu4.size
        have HH : Hid (HoldsJ w4 vb (.mk 4 false 0 [] [y] [] 0)) := ⟨NA, nc, NM, nd, hw4, ValP.keep (fun b hb => hu4.block b (by rcases hb with hb | hb <;> omega) (by rcases hb with hb | hb <;> omega)) (fun b hb => ⟨by rcases hb with hb | hb <;> omega, by rcases hb with hb | hb <;> omega⟩) _ _ HP3.out⟩
        go_roundw
        case rel => exact ⟨i + 1, by omega, by go_num, by rw [HNX.out]; exact HH.out, HB3.out.trans (hu4.below (by omega) HB3.out.size)⟩
        case measure => simp [intOf]; omega
      · by_cases ht : k + 1 ≤ 100
        · have HT1 : ¬ (100 : Int) < (k : Int) + 1 := by omega
          have E0 : errJ (decide (k + 1 ≤ 100)) = 0 := by rw [decide_eq_true ht]; rfl
          rw [E0] at HCK
          obtain rfl : i = k := by omega
          go_wp2_with fail
          refine (HAL.out _ HB.out).mono ?_
          rintro e w5 ⟨rfl, hb5⟩
          have X5 := (hb5.block vb (by omega)).trans HX.out
          obtain ⟨q0, q1, q2, q3, q4, q5, q6⟩ := jbox_cells X5
          have hP5 := ValP.keep (p' := (· < w5.heap.size)) (fun j hj => hb5.block j hj.2) (fun j hj => Nat.lt_of_lt_of_le hj.2 hb5.size) _ _ HP.out
          have HK := Lib.hid (HCK.out w5 _ (HB.out.trans (hb5.mono HB.out.size)) ⟨_, rfl, hP5⟩)
          have HB5 := Lib.hid (HB.out.trans (hb5.mono HB.out.size))
          clear hb5 hP5
          go_wp2_with (go_at_call 16; refine HK.out.mono ?_; rintro e w6 ⟨rfl, hb6⟩)
          go_ret
          exact ⟨rfl, HB5.out.trans (hb6.mono HB5.out.size)⟩
        · have HT1 : (100 : Int) < (k : Int) + 1 := by omega
          have E0 : errJ (decide (k + 1 ≤ 100)) = 22 := by rw [decide_eq_false ht]; rfl
          rw [E0] at HCK
          obtain rfl : i = k := by omega
          go_wp2_with fail
          refine (HAL.out _ HB.out).mono ?_
          rintro e w5 ⟨rfl, hb5⟩
          have X5 := (hb5.block vb (by omega)).trans HX.out
          obtain ⟨q0, q1, q2, q3, q4, q5, q6⟩ := jbox_cells X5
          have hP5 := ValP.keep (p' := (· < w5.heap.size)) (fun j hj => hb5.block j hj.2) (fun j hj => Nat.lt_of_lt_of_le hj.2 hb5.size) _ _ HP.out
          have HK := Lib.hid (HCK.out w5 _ (HB.out.trans (hb5.mono HB.out.size)) ⟨_, rfl, hP5⟩)
          have HB5 := Lib.hid (HB.out.trans (hb5.mono HB.out.size))
          clear hb5 hP5
          go_wp2_with (go_at_call 16; refine HK.out.mono ?_; rintro e w6 ⟨rfl, hb6⟩)
          go_ret
          exact ⟨rfl, HB5.out.trans (hb6.mono HB5.out.size)⟩
  · go_loopw [13] (fun i13 wr => ∃ i : Nat, i ≤ k ∧ i13 = .int .i64 i ∧ HoldsJ wr vb (nestJ true i) ∧ Below w.heap.size w wr) (fun i13 _ => k - (intOf i13).toNat)
    case atStart => exact ⟨0, Nat.zero_le _, rfl, ⟨none, 0, none, 0, X1.out, ValP.of_open (n := nestJ true 0) (ElsP.nil _ _ _) (ElsP.nil _ _ _)⟩, B1.out⟩
    case round =>
      obtain ⟨i, hi, rfl, hh, hb⟩ := hrel
      have HB := Lib.hid hb
      obtain ⟨IA, ic, MA, mc, hX, hp⟩ := hh
      have hvl := heap_lt hX
      have HP := Lib.hid hp
      have HX := Lib.hid hX
      obtain ⟨q0, q1, q2, q3, q4, q5, q6⟩ := jbox_cells hX
      clear hb hX hp X1 B1
      by_cases hlt : i < k
      · have hlt' : (i : Int) < k := by omega
        have HNX := Lib.hid (nestJ_obj i)
        generalize nestJ true i = y at *
        go_wp2_with fail
        refine (member12c_any [97] y IA MA _ ic _ mc _).mono ?_
        rintro e w2 ⟨rfl, hb2⟩
        have hz2 := hb2.size
        have X2 := (hb2.block vb hvl).trans HX.out
        have hP2 := ValP.keep (p' := fun b => b ≠ vb ∧ b < w2.heap.size) (fun j hj => hb2.block j hj.2) (fun j hj => ⟨hj.1, Nat.lt_of_lt_of_le hj.2 hb2.size⟩) _ _ HP.out
        have HXA := Lib.hid ((Below.heap_alloc w2 (.cells #[.string (S [97]), .int .i64 y.kind, .bool y.b, .int .i64 y.n, .string (S y.s), .slice IA y.items.length ic, .slice MA y.mems.length mc, .int .i64 y.pos, .int .i64 0] 36) vb (by omega)).trans X2)
        have har := object12_any [.mk [97] y 0] (by simp) (.slice (some ⟨w2.heap.size, 0, none⟩) 1 1) (w2.alloc (.cells #[.string (S [97]), .int .i64 y.kind, .bool y.b, .int .i64 y.n, .string (S y.s), .slice IA y.items.length ic, .slice MA y.mems.length mc, .int .i64 y.pos, .int .i64 0] 36)) (fun b => b ≠ vb ∧ b < w2.heap.size + 1) (fun b hb => by simpa using hb.2)
          (els_one memE_ok (w := w2) (p := fun b => b ≠ vb ∧ b < w2.heap.size) (x := .mk [97] y 0) ⟨_, hP2, rfl⟩ (fun b hb => hb.2) _ (fun b hb => ⟨hb.1, by omega⟩) ⟨by omega, by omega⟩) (by simp)
        have HAR := Lib.hid har
        have HB2 := HB.out.trans (hb2.mono HB.out.size)
        have HBA := Lib.hid (HB2.alloc HB2.size (.cells #[.string (S [97]), .int .i64 y.kind, .bool y.b, .int .i64 y.n, .string (S y.s), .slice IA y.items.length ic, .slice MA y.mems.length mc, .int .i64 y.pos, .int .i64 0] 36))
        have hza : (w2.alloc (.cells #[.string (S [97]), .int .i64 y.kind, .bool y.b, .int .i64 y.n, .string (S y.s), .slice IA y.items.length ic, .slice MA y.mems.length mc, .int .i64 y.pos, .int .i64 0] 36)).heap.size = w2.heap.size + 1 := by simp
        clear har hb2 HB2 hP2 X2 q0 q1 q2 q3 q4 q5 q6
        go_wp2_with fail
        refine HAR.out.mono ?_
        rintro e w3 ⟨v3, rfl, hv3, hb3⟩
        obtain ⟨NA, nc, NM, nd, rfl, hp3⟩ := hv3.cells
        have X3 := (hb3.block vb (by omega)).trans HXA.out
        have hz3 := hb3.size
        rw [hza] at hz3
        have HP3 := Lib.hid hp3
        have HB3 := Lib.hid (HBA.out.trans (hb3.mono HBA.out.size))
        clear hv3 hp3 hb3 HXA
        go_wp2_with (with_reducible refine gate ?_; refine wp_store_val rfl _ _ rfl vb _ _ _ _ _ _ _ _ _ _ _ _ rfl rfl X3 rfl ?_; intro w4 hw4 hu4)
        have hz4 := hu4.size
        have HH : Hid (HoldsJ w4 vb (.mk 5 false 0 [] [] [.mk [97] y 0] 0)) := ⟨NA, nc, NM, nd, hw4, ValP.keep (fun b hb => hu4.block b (by rcases hb with hb | hb <;> omega) (by rcases hb with hb | hb <;> omega)) (fun b hb => ⟨by rcases hb with hb | hb <;> omega, by rcases hb with hb | hb <;> omega⟩) _ _ HP3.out⟩
        go_roundw
        case rel => exact ⟨i + 1, by omega, by go_num, by rw [HNX.out]; exact HH.out, HB3.out.trans (hu4.below (by omega) HB3.out.size)⟩
        case measure => simp [intOf]; omega
      · by_cases ht : k + 1 ≤ 100
        · have HT1 : ¬ (100 : Int) < (k : Int) + 1 := by omega
          have E0 : errJ (decide (k + 1 ≤ 100)) = 0 := by rw [decide_eq_true ht]; rfl
          rw [E0] at HCK
          obtain rfl : i = k := by omega
          go_wp2_with fail
          refine (HAL.out _ HB.out).mono ?_
          rintro e w5 ⟨rfl, hb5⟩
          have X5 := (hb5.block vb (by omega)).trans HX.out
          obtain ⟨q0, q1, q2, q3, q4, q5, q6⟩ := jbox_cells X5
          have hP5 := ValP.keep (p' := (· < w5.heap.size)) (fun j hj => hb5.block j hj.2) (fun j hj => Nat.lt_of_lt_of_le hj.2 hb5.size) _ _ HP.out
          have HK := Lib.hid (HCK.out w5 _ (HB.out.trans (hb5.mono HB.out.size)) ⟨_, rfl, hP5⟩)
          have HB5 := Lib.hid (HB.out.trans (hb5.mono HB.out.size))
          clear hb5 hP5
          go_wp2_with (go_at_call 16; refine HK.out.mono ?_; rintro e w6 ⟨rfl, hb6⟩)
          go_ret
          exact ⟨rfl, HB5.out.trans (hb6.mono HB5.out.size)⟩
        · have HT1 : (100 : Int) < (k : Int) + 1 := by omega
          have E0 : errJ (decide (k + 1 ≤ 100)) = 22 := by rw [decide_eq_false ht]; rfl
          rw [E0] at HCK
          obtain rfl : i = k := by omega
          go_wp2_with fail
          refine (HAL.out _ HB.out).mono ?_
          rintro e w5 ⟨rfl, hb5⟩
          have X5 := (hb5.block vb (by omega)).trans HX.out
          obtain ⟨q0, q1, q2, q3, q4, q5, q6⟩ := jbox_cells X5
          have hP5 := ValP.keep (p' := (· < w5.heap.size)) (fun j hj => hb5.block j hj.2) (fun j hj => Nat.lt_of_lt_of_le hj.2 hb5.size) _ _ HP.out
          have HK := Lib.hid (HCK.out w5 _ (HB.out.trans (hb5.mono HB.out.size)) ⟨_, rfl, hP5⟩)
          have HB5 := Lib.hid (HB.out.trans (hb5.mono HB.out.size))
          clear hb5 hP5
          go_wp2_with (go_at_call 16; refine HK.out.mono ?_; rintro e w6 ⟨rfl, hb6⟩)
          go_ret
          exact ⟨rfl, HB5.out.trans (hb6.mono HB5.out.size)⟩
end Go.Proofs.YtadkgjbidhfefaaDoor
