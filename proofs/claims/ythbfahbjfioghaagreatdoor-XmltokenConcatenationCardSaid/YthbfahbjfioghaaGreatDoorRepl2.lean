/-
  Walks of the library's strings.Replacer: replacing bytes by the table.
-/
import Derived.Test.YthbfahbjfioghaaGreatDoorRepl1
import Derived.Test.YthbfahbjfioghaaGreatDoorTokR2
import Derived.Lib.SliceRun
set_option linter.unusedVariables false
namespace Go.Proofs.YthbfahbjfioghaaGreatDoor
open Go.RowKit

def tabC (c : UInt8) : UInt8 := if c.toNat = 10 ∨ c.toNat = 9 then 32 else c
theorem tabNl_map (x : Bytes) : tabNl x = x.map tabC := rfl
theorem repT_c (c : UInt8) : repT c.toNat = tabC c := by
  unfold repT tabC
  split
  · rfl
  · exact UInt8.ofNat_toNat
/-- The bytes when i of them have been looked at. -/
def nlTo (P : Bytes) (i : Nat) : Bytes := (P.take i).map tabC ++ P.drop i
theorem nlTo_zero (P : Bytes) : nlTo P 0 = P := by simp [nlTo]
theorem nlTo_all (P : Bytes) : nlTo P P.length = tabNl P := by simp [nlTo, tabNl_map]
theorem nlTo_len (P : Bytes) (i : Nat) : (nlTo P i).length = P.length := by
  unfold nlTo
  rw [List.length_append, List.length_map, List.length_take, List.length_drop]; omega
theorem nlTo_form {P : Bytes} {i : Nat} (h : i < P.length) : nlTo P i = (P.take i).map tabC ++ P[i] :: P.drop (i + 1) := by
  unfold nlTo; rw [List.drop_eq_getElem_cons h]
theorem nlTo_next {P : Bytes} {i : Nat} (h : i < P.length) : nlTo P (i + 1) = (P.take i).map tabC ++ tabC P[i] :: P.drop (i + 1) := by
  unfold nlTo
  rw [List.take_succ_eq_append_getElem h, List.map_append, List.append_assoc]
  rfl
theorem nlTo_same {P : Bytes} {i : Nat} (h : i < P.length) (hs : tabC P[i] = P[i]) : nlTo P (i + 1) = nlTo P i := by
  rw [nlTo_next h, nlTo_form h, hs]
theorem nlTo_set {P : Bytes} {i : Nat} (h : i < P.length) : nlTo P (i + 1) = (nlTo P i).set i (tabC P[i]) := by
  have hl : ((P.take i).map tabC).length = i := by rw [List.length_map, List.length_take]; omega
  rw [nlTo_next h, nlTo_form h, List.set_append_right _ _ (by omega), hl, Nat.sub_self, List.set_cons_zero]

/-- How far the replacement has come: nothing to replace yet, or a copy. -/
def RpAt (l : Bytes) (base : Nat) (i : Nat) (v : Value) (w : World) : Prop :=
  (v = .slice none 0 0 ∧ nlTo l i = l) ∨ ∃ g c, v = .slice (some ⟨g, 0, none⟩) l.length c ∧ base ≤ g ∧ BytesAt w g (nlTo l i)

set_option maxHeartbeats 2000000 in
set_option maxRecDepth 100000 in
theorem byteReplace_any (t : Nat) (l : Bytes) (w : World) (hT : Tab8 w t repT) (hl : l.length ≤ 4611686018427387904) :
    Calls Tryz.prog 194 #[.pointer (some ⟨t, 0, none⟩), .string (S l)] w fun e w' => e = .returned (.string (S (tabNl l))) ∧ Below w.heap.size w w' := by
  obtain ⟨D, hD⟩ : ∃ D, tabNl l = D := ⟨_, rfl⟩
  rw [hD]
  have HD := Lib.hid hD
  clear hD
  have HT := Lib.hid hT
  have HL := Lib.hid hT.lt
  have q1 : ∀ (w : World), (binOp .eql 70 (.slice none 0 0) (.slice none 0 0)).run Tryz.prog w = .ok (.bool true) w := fun w => Lib.run_eql_slice_nil w _ _ none 0 0 0 0 Tryz.underlying70
  have q2 : ∀ (w : World) (a : Addr) (n c : Nat), (binOp .eql 70 (.slice (some a) n c) (.slice none 0 0)).run Tryz.prog w = .ok (.bool false) w := fun w a n c => Lib.run_eql_slice_nil w _ _ (some a) n c 0 0 Tryz.underlying70
  clear hT
  go_enter Tryz.func194, Tryz.ntmps194
  go_wp2_with fail
  go_loopw [5, 6] (fun v5 i6 wr => ∃ i : Nat, i ≤ l.length ∧ i6 = .int .i64 i ∧ RpAt l w.heap.size i v5 wr ∧ Below w.heap.size w wr) (fun _ i6 _ => l.length - (intOf i6).toNat)
  case atStart => exact ⟨0, Nat.zero_le _, rfl, .inl ⟨rfl, nlTo_zero l⟩, Below.refl _ _⟩
  case round =>
    obtain ⟨i, hi, rfl, hR, hB⟩ := hrel
    have HB := Lib.hid hB
    have hsz := hB.size
    have hT1 : Tab8 wr t repT := (hB.block t HL.out).trans HT.out
    clear hB
    by_cases hlt : i < l.length
    · have hlt' : (i : Int) < l.length := by omega
      have hb8 : (l[i].toNat : Int) < 256 := by have := u8_lt l[i]; omega
      have hc := hT1.cell (u8_lt l[i])
      rw [repT_c] at hc
      by_cases hs : tabC l[i] = l[i]
      · have hn := nlTo_same hlt hs
        have t1 : (((tabC l[i]).toNat : Int) != (l[i].toNat : Int)) = false := by rw [hs]; simp
        have HN := Lib.hid hn
        clear hs hn
        rcases hR with ⟨rfl, h1⟩ | ⟨g, c, rfl, hg, hby⟩
        · have H1 := Lib.hid h1
          clear h1
          go_wp2_with fail
          go_roundw
          case rel => exact ⟨i + 1, by omega, by go_num, .inl ⟨rfl, HN.out.trans H1.out⟩, HB.out⟩
          case measure => simp [intOf]; omega
        · have HY := Lib.hid hby
          clear hby
          go_wp2_with fail
          go_roundw
          case rel => exact ⟨i + 1, by omega, by go_num, .inr ⟨g, c, rfl, hg, by rw [HN.out]; exact HY.out⟩, HB.out⟩
          case measure => simp [intOf]; omega
      · have hn := nlTo_set hlt
        have t1 : (((tabC l[i]).toNat : Int) != (l[i].toNat : Int)) = true := by
          rw [bne_iff_ne]; intro e; exact hs (UInt8.toNat_inj.1 (by omega))
        have HN := Lib.hid hn
        clear hs hn
        rcases hR with ⟨rfl, h1⟩ | ⟨g, c, rfl, hg, hby⟩
        · obtain ⟨c, W, hcv, hby, hbW⟩ := bytes_of wr l
          rw [← h1] at hby
          have hT2 := hT1.below hbW
          have hc2 := hT2.cell (u8_lt l[i])
          rw [repT_c] at hc2
          have hj : i < (nlTo l i).length := by rw [nlTo_len]; exact hlt
          have hcell := hby.cell hj
          have hfree := hby.free hj
          have HY := Lib.hid hby
          have HB2 := Lib.hid (HB.out.trans (hbW.mono hsz))
          clear hby hbW h1 hT2 hT1
          go_wp2_with fail
          go_roundw
          case rel => exact ⟨i + 1, by omega, by go_num, .inr ⟨wr.heap.size, c, rfl, hsz, by rw [HN.out]; exact HY.out.set_ hj _⟩, HB2.out.setCell (p := ⟨wr.heap.size, i, none⟩) hsz _⟩
          case measure => simp [intOf]; omega
        · have hj : i < (nlTo l i).length := by rw [nlTo_len]; exact hlt
          have hcell := hby.cell hj
          have hfree := hby.free hj
          have HY := Lib.hid hby
          clear hby hT1
          go_wp2_with fail
          go_roundw
          case rel => exact ⟨i + 1, by omega, by go_num, .inr ⟨g, c, rfl, hg, by rw [HN.out]; exact HY.out.set_ hj _⟩, HB.out.setCell (p := ⟨g, i, none⟩) hg _⟩
          case measure => simp [intOf]; omega
    · obtain rfl : i = l.length := by omega
      clear hT1
      rcases hR with ⟨rfl, h1⟩ | ⟨g, c, rfl, hg, hby⟩
      · rw [nlTo_all, HD.out] at h1
        have H1 := Lib.hid h1
        clear h1
        go_wp2_with fail
        go_ret
        exact ⟨by rw [H1.out]; go_simp, HB.out⟩
      · rw [nlTo_all, HD.out] at hby
        have hln : D.length = l.length := by rw [← HD.out]; unfold tabNl; simp
        have hbk := bytes_back hby c
        rw [hln] at hbk
        clear hln hby
        go_wp2_with fail
        go_ret
        exact ⟨by go_simp, HB.out⟩
end Go.Proofs.YthbfahbjfioghaaGreatDoor
