/-
  Walks of chapter 4: months and days of the week (the program).
-/
import Derived.Test.YtooabnmmgmmklaaDoorLow4
import Derived.Test.YtooabnmmgmmklaaDoorTab4
import Derived.Test.YtooabnmmgmmklaaDoorCivP5
import Derived.WalkSpells
set_option linter.unusedVariables false
namespace Go.Proofs.YtooabnmmgmmklaaDoor
open Go.RowKit

theorem ret_IB {a b : Int} {c d : Bool} (h1 : a = b) (h2 : c = d) : Ending.returned (.tuple #[.int .i64 a, .bool c]) = .returned (.tuple #[.int .i64 b, .bool d]) := by rw [h1, h2]
theorem findW_at (s : Bytes) {tab : List Bytes} {k : Nat} {x : Bytes} (h : tab[k]? = some x) : findW s k (tab.drop k) = if s == x then k + 1 else findW s (k + 1) (tab.drop (k + 1)) := by
  obtain ⟨hk, rfl⟩ := List.getElem?_eq_some_iff.1 h
  rw [List.drop_eq_getElem_cons hk, findW]
set_option maxHeartbeats 2000000 in
set_option maxRecDepth 100000 in
theorem month_any (l : Bytes) (w : World) (hT : Tab4 w) (hl : l.length ≤ 1000000) :
    Calls Tryd.prog 28 #[.string (S l)] w fun e w' => e = .returned (.tuple #[.int .i64 (monthOf l), .bool (decide (monthOf l ≠ 0))]) ∧ Below w.heap.size w w' := by
  obtain ⟨M, hM⟩ : ∃ M, monthOf l = M := ⟨_, rfl⟩
  rw [hM]
  unfold monthOf at hM
  have hc := fun W => lower_any l W (by omega)
  generalize lowS l = D at *
  have HC := Lib.hid hc
  have HM := Lib.hid hM
  clear hc hM
  obtain ⟨tt, fr, hg⟩ := hT.mons
  clear hT
  go_enter Tryd.func28, Tryd.ntmps28
  go_wp2_with (refine wpList_load_row rfl 49 _ rfl 1 rfl tt _ fr _ hg Tryd.underlying49 rfl (by kernel_rfl) ?_)
  go_loopw [7] (fun s7 wr => ∃ k : Nat, k ≤ 12 ∧ s7 = .int .i64 (k : Int) ∧ findW D k (monTab.drop k) = M ∧ Below w.heap.size w wr) (fun s7 _ => 12 - (intOf s7).toNat)
  case atStart => exact ⟨0, by omega, rfl, HM.out, Below.refl _ _⟩
  case round =>
    obtain ⟨k, hk, rfl, hf, hb⟩ := hrel
    have HB := Lib.hid hb
    have hsz := hb.size
    clear hb
    by_cases hlt : k < 12
    · have hlt' : (k : Int) < 12 := by omega
      obtain ⟨x, hx, _, hix⟩ := mon_at k hlt
      rw [findW_at D hx] at hf
      cases ht : D == x with
      | true =>
        rw [ht, if_pos rfl] at hf
        have HF := Lib.hid hf
        clear hf hx
        go_wp2_with (go_at_call 56; refine (HC.out _).mono ?_; rintro e w2 ⟨rfl, hb2⟩)
        go_ret2
        exact ⟨ret_IB (by have := HF.out; omega) (by have := HF.out; simp; omega), HB.out.trans (hb2.mono hsz)⟩
      | false =>
        rw [ht, if_neg (by decide)] at hf
        have HF := Lib.hid hf
        clear hf hx
        go_wp2_with (go_at_call 56; refine (HC.out _).mono ?_; rintro e w2 ⟨rfl, hb2⟩)
        go_roundw
        case rel => exact ⟨k + 1, by omega, by go_num, HF.out, HB.out.trans (hb2.mono hsz)⟩
        case measure => simp [intOf]; omega
    · obtain rfl : k = 12 := by omega
      have hf0 : (0 : Nat) = M := hf
      subst hf0
      go_wp2_with fail
      go_ret2
      exact ⟨rfl, HB.out⟩
theorem any_at (s : Bytes) {tab : List Bytes} {k : Nat} {x : Bytes} (h : tab[k]? = some x) : (tab.drop k).any (fun x => s == x ++ [44]) = ((s == x ++ [44]) || (tab.drop (k + 1)).any (fun x => s == x ++ [44])) := by
  obtain ⟨hk, rfl⟩ := List.getElem?_eq_some_iff.1 h
  rw [List.drop_eq_getElem_cons hk, List.any_cons]
set_option maxHeartbeats 2000000 in
set_option maxRecDepth 100000 in
theorem weekday4_any (l : Bytes) (w : World) (hT : Tab4 w) (hl : l.length ≤ 1000000) :
    Calls Tryd.prog 27 #[.string (S l)] w fun e w' => e = .returned (.bool (isDay l)) ∧ Below w.heap.size w w' := by
  obtain ⟨M, hM⟩ : ∃ M, isDay l = M := ⟨_, rfl⟩
  rw [hM]
  unfold isDay at hM
  have hc := fun W => lower_any l W (by omega)
  generalize lowS l = D at *
  have HC := Lib.hid hc
  have HM := Lib.hid hM
  clear hc hM
  obtain ⟨tt, fr, hg⟩ := hT.days
  clear hT
  go_enter Tryd.func27, Tryd.ntmps27
  go_wp2_with (refine wpList_load_row rfl 34 _ rfl 0 rfl tt _ fr _ hg Tryd.underlying34 rfl (by kernel_rfl) ?_)
  go_loopw [6] (fun s6 wr => ∃ k : Nat, k ≤ 7 ∧ s6 = .int .i64 (k : Int) ∧ (dayTab.drop k).any (fun x => D == x ++ [44]) = M ∧ Below w.heap.size w wr) (fun s6 _ => 7 - (intOf s6).toNat)
  case atStart => exact ⟨0, by omega, rfl, HM.out, Below.refl _ _⟩
  case round =>
    obtain ⟨k, hk, rfl, hf, hb⟩ := hrel
    have HB := Lib.hid hb
    have hsz := hb.size
    clear hb
    by_cases hlt : k < 7
    · have hlt' : (k : Int) < 7 := by omega
      obtain ⟨x, hx, hm, hix⟩ := day_at k hlt
      have hx3 : x.length = 3 := (dayTab_ok x hm).2.2.2.2.2.2.2.2.1
      rw [any_at D hx] at hf
      have hcat : ∀ W : World, (Op.stringOp .add (S x) ⟨#[44]⟩).run Tryd.prog W = .ok (.string (S (x ++ [44]))) W := fun W => by
        have h44 : (⟨#[44]⟩ : ByteArray) = S [44] := rfl
        rw [h44, run_string_add_sum W (S x) (S [44]) (by simp only [S, ByteArray.size, List.size_toArray, hx3, List.length_cons, List.length_nil]; omega), S_append]
      generalize hy : x ++ [44] = y at *
      cases ht : D == y with
      | true =>
        rw [ht, Bool.true_or] at hf
        subst hf
        clear hx hm hx3 hy
        go_wp2_with (go_at_call 56; refine (HC.out _).mono ?_; rintro e w2 ⟨rfl, hb2⟩)
        go_ret
        exact ⟨rfl, HB.out.trans (hb2.mono hsz)⟩
      | false =>
        rw [ht, Bool.false_or] at hf
        have HF := Lib.hid hf
        clear hf hx hm hx3 hy
        go_wp2_with (go_at_call 56; refine (HC.out _).mono ?_; rintro e w2 ⟨rfl, hb2⟩)
        go_roundw
        case rel => exact ⟨k + 1, by omega, by go_num, HF.out, HB.out.trans (hb2.mono hsz)⟩
        case measure => simp [intOf]; omega
    · obtain rfl : k = 7 := by omega
      have hf0 : false = M := hf
      subst hf0
      go_wp2_with fail
      go_ret
      exact ⟨rfl, HB.out⟩
end Go.Proofs.YtooabnmmgmmklaaDoor
