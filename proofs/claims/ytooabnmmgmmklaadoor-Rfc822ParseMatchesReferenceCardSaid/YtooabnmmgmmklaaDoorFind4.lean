/-
  Walks of chapter 4: the reference's names and words.
-/
import Derived.Test.YtooabnmmgmmklaaDoorNum4
import Derived.Test.YtooabnmmgmmklaaDoorStrE
import Derived.Test.YtooabnmmgmmklaaDoorFmt4
set_option linter.unusedVariables false
namespace Go.Proofs.YtooabnmmgmmklaaDoor
open Go.RowKit

theorem slice_S (l : Bytes) (a b : Nat) (h1 : a ≤ b) (h2 : b ≤ l.length) (W : World) : (Instr.slice 9 (.string (S l)) (some (.int .i64 (a : Int))) (some (.int .i64 (b : Int))) none).run Tryd.prog W = .ok (.string (S ((l.drop a).take (b - a)))) W := by
  have h3 : (a : Int) ≤ (b : Int) := by omega
  have h4 : (b : Int) ≤ (l.length : Int) := by omega
  go_simp
set_option maxHeartbeats 2000000 in
set_option maxRecDepth 100000 in
theorem refFind_any (tab name : Bytes) (f : Nat) (ht : tab.length = 3 * f) (hf : f ≤ 100) (w : World) (hl : name.length ≤ 1000000) :
    Calls Tryd.prog 34 #[.string (S tab), .string (S name)] w fun e w' => e = .returned (.int .i64 ((findR tab name f 0 : Nat) - 1 : Int)) ∧ Below w.heap.size w w' := by
  obtain ⟨R, hR⟩ : ∃ R, findR tab name f 0 = R := ⟨_, rfl⟩
  rw [hR]
  have hc := fun W => refLower_any name W (by omega)
  have HC := Lib.hid hc
  have HR := Lib.hid hR
  clear hc hR
  go_enter Tryd.func34, Tryd.ntmps34
  go_wp2_with fail
  go_loopw [5] (fun s5 wr => ∃ k : Nat, k ≤ f ∧ s5 = .int .i64 (3 * k : Nat) ∧ findR tab name (f - k) k = R ∧ Below w.heap.size w wr) (fun s5 _ => 3 * f + 3 - (intOf s5).toNat)
  case atStart => exact ⟨0, by omega, rfl, HR.out, Below.refl _ _⟩
  case round =>
    obtain ⟨k, hk, rfl, hfr, hb⟩ := hrel
    have HB := Lib.hid hb
    have hsz := hb.size
    clear hb
    by_cases hlt : k < f
    · obtain ⟨j, hj⟩ : ∃ j, f - k = j + 1 := ⟨f - k - 1, by omega⟩
      rw [hj, findR] at hfr
      have hlt' : ((3 * k : Nat) : Int) + 3 ≤ tab.length := by omega
      have hp := fun W => refLower_any ((tab.drop (3 * k)).take 3) W (by rw [List.length_take]; omega)
      have hsl : ∀ W : World, (Instr.slice 9 (.string (S tab)) (some (.int .i64 ((3 * k : Nat) : Int))) (some (.int .i64 (((3 * k : Nat) : Int) + 3))) none).run Tryd.prog W = .ok (.string (S ((tab.drop (3 * k)).take 3))) W := fun W => by
        have e : (((3 * k : Nat) : Int) + 3) = ((3 * k + 3 : Nat) : Int) := by omega
        rw [e, slice_S tab (3 * k) (3 * k + 3) (by omega) (by omega) W, show 3 * k + 3 - 3 * k = 3 by omega]
      clear hsl
      have HP := Lib.hid hp
      clear hp
      cases hq : (lowS ((tab.drop (3 * k)).take 3) == lowS name) with
      | true =>
        rw [if_pos (eq_of_beq hq)] at hfr
        subst hfr
        generalize lowS ((tab.drop (3 * k)).take 3) = P1 at *
        generalize lowS name = P2 at *
        clear HR
        go_wp2_with (first | (go_at_call 58; (with_reducible refine (HP.out _).mono ?_); rintro e w2 ⟨rfl, hb2⟩; have hz2 := hb2.size) | (go_at_call 58; (with_reducible refine (HC.out _).mono ?_); rintro e w3 ⟨rfl, hb3⟩))
        go_ret
        exact ⟨retI (by omega), HB.out.trans ((hb2.mono hsz).trans (hb3.mono (by omega)))⟩
      | false =>
        rw [if_neg (by intro h; rw [h] at hq; simp at hq)] at hfr
        have HF := Lib.hid hfr
        clear hfr HR
        generalize lowS ((tab.drop (3 * k)).take 3) = P1 at *
        generalize lowS name = P2 at *
        go_wp2_with (first | (go_at_call 58; (with_reducible refine (HP.out _).mono ?_); rintro e w2 ⟨rfl, hb2⟩; have hz2 := hb2.size) | (go_at_call 58; (with_reducible refine (HC.out _).mono ?_); rintro e w3 ⟨rfl, hb3⟩))
        go_roundw
        case rel => exact ⟨k + 1, by omega, by go_num, by rw [show f - (k + 1) = j by omega]; exact HF.out, HB.out.trans ((hb2.mono hsz).trans (hb3.mono (by omega)))⟩
        case measure => simp [intOf]; omega
    · obtain rfl : k = f := by omega
      rw [Nat.sub_self, findR] at hfr
      subst hfr
      have hlt' : ¬ ((3 * k : Nat) : Int) + 3 ≤ tab.length := by omega
      go_wp2_with fail
      go_ret
      exact ⟨rfl, HB.out⟩

theorem splitW_ne (s : Bytes) : splitW s ≠ [] := by
  cases s with
  | nil => simp [splitW]
  | cons c l =>
    rw [splitW]
    split
    · simp
    · split <;> simp
set_option maxHeartbeats 4000000 in
set_option maxRecDepth 100000 in
theorem refWords_any (l : Bytes) (w : World) (hl : l.length ≤ 1000000) :
    Calls Tryd.prog 33 #[.string (S l)] w fun e w' => ∃ A c, e = .returned (.slice A (splitW l).length c) ∧ ElRow strE w' w.heap.size (fun _ => False) (.slice A (splitW l).length c) (splitW l) ∧ Below w.heap.size w w' := by
  obtain ⟨T, hT⟩ : ∃ T, splitW l = T := ⟨_, rfl⟩
  rw [hT]
  have HT := Lib.hid hT
  clear hT
  go_enter Tryd.func33, Tryd.ntmps33
  go_wp2_with fail
  go_loopw [3, 4, 5] (fun s3 s4 s5 wr => ∃ (i f : Nat) (acc : List Bytes), i ≤ l.length + 1 ∧ f ≤ i ∧ s5 = .int .i64 (i : Int) ∧ s4 = .int .i64 (f : Int) ∧ acc.length ≤ i ∧ ElRow strE wr w.heap.size (fun _ => False) s3 acc ∧ (i ≤ l.length → acc ++ splitW (l.drop f) = T ∧ ∀ c ∈ (l.drop f).take (i - f), c ≠ 32) ∧ (i = l.length + 1 → acc = T) ∧ Below w.heap.size w wr) (fun _ _ s5 _ => l.length + 1 - (intOf s5).toNat)
  case atStart => exact ⟨0, 0, [], by omega, by omega, rfl, rfl, by simp, ElRow.nil _ _ _ _, fun _ => ⟨HT.out, by simp⟩, fun h => by omega, Below.refl _ _⟩
  case round =>
    obtain ⟨i, f, acc, hi, hfi, rfl, rfl, hai, hrow, h1, h2, hb⟩ := hrel
    obtain ⟨A, c, rfl, _⟩ := hrow.slice
    have HB := Lib.hid hb
    have hsz := hb.size
    have HROW := Lib.hid hrow
    clear hb hrow
    by_cases hlt : i ≤ l.length
    · have hlt' : (i : Int) ≤ l.length := by omega
      obtain ⟨h3, h4⟩ := h1 hlt
      have hacl : acc.length < 10000000000 := by omega
      have hsl : ∀ W : World, (Instr.slice 9 (.string (S l)) (some (.int .i64 (f : Int))) (some (.int .i64 (i : Int))) none).run Tryd.prog W = .ok (.string (S ((l.drop f).take (i - f)))) W := fun W => slice_S l f i hfi hlt W
      by_cases he : i = l.length
      · subst he
        have e : (l.drop f).take (l.length - f) = l.drop f := List.take_of_length_le (by rw [List.length_drop]; omega)
        rw [e] at h4
        have hx : splitW (l.drop f) = [l.drop f] := splitW_one _ h4
        rw [hx] at h3
        have H3 := Lib.hid h3
        clear h1 h2 h3 h4 hx hsl e
        go_wp2_with (at_builtin; refine els_append strE_ok rfl _ _ rfl wr w.heap.size (fun _ => False) (.slice A acc.length c) acc rfl HROW.out (l.drop f) [.string (S (l.drop f))] wr.heap.size rfl rfl rfl (fun _ h => h.elim) (fun _ h => h.elim) (by omega) hacl ?_; intro g8 c8 w8 hat8 hlt8 hrow8 hgr8 hb8)
        go_roundw
        case rel => exact ⟨l.length + 1, l.length + 1, acc ++ [l.drop f], by omega, by omega, by go_num, by go_num, by simp; omega, hrow8, fun h => by omega, fun _ => H3.out, HB.out.trans hb8⟩
        case measure => simp [intOf]
      · have te : ((i : Int) == (l.length : Int)) = false := by rw [beq_eq_false_iff_ne]; omega
        have hil : i < l.length := by omega
        have hil' : (i : Int) < l.length := by omega
        have hif : (l.drop f).drop (i - f) = l[i] :: l.drop (i + 1) := by rw [List.drop_drop, show f + (i - f) = i by omega, List.drop_eq_getElem_cons hil]
        by_cases hc : l[i] = 32
        · have tc : ((l[i].toNat : Int) == 32) = true := by rw [hc]; rfl
          have hx : splitW (l.drop f) = (l.drop f).take (i - f) :: splitW (l.drop (i + 1)) := by
            have e : l.drop f = (l.drop f).take (i - f) ++ 32 :: l.drop (i + 1) := by
              rw [← hc, ← hif, List.take_append_drop]
            rw [e]
            have := splitW_run ((l.drop f).take (i - f)) (l.drop (i + 1)) h4
            rw [this]
            congr 1
            rw [← e]
          rw [hx] at h3
          have H3 := Lib.hid h3
          generalize (l.drop f).take (i - f) = x at *
          clear h1 h2 h3 h4 hx hif hc
          go_wp2_with (at_builtin; refine els_append strE_ok rfl _ _ rfl wr w.heap.size (fun _ => False) (.slice A acc.length c) acc rfl HROW.out x [.string (S x)] wr.heap.size rfl rfl rfl (fun _ h => h.elim) (fun _ h => h.elim) (by omega) hacl ?_; intro g8 c8 w8 hat8 hlt8 hrow8 hgr8 hb8)
          go_roundw
          case rel => exact ⟨i + 1, i + 1, acc ++ [x], by omega, by omega, by go_num, by go_num, by simp; omega, hrow8, fun _ => ⟨by rw [← H3.out]; simp, by simp⟩, fun h => by omega, HB.out.trans hb8⟩
          case measure => simp [intOf]; omega
        · have tc : ((l[i].toNat : Int) == 32) = false := by
            rw [beq_eq_false_iff_ne]; intro e; exact hc (UInt8.toNat_inj.1 (by have : (32 : UInt8).toNat = 32 := rfl; omega))
          have h5 : ∀ c ∈ (l.drop f).take (i + 1 - f), c ≠ 32 := by
            intro c hm
            have e : (l.drop f).take (i + 1 - f) = (l.drop f).take (i - f) ++ [l[i]] := by
              rw [show i + 1 - f = (i - f) + 1 by omega, List.take_succ_eq_append_getElem (by rw [List.length_drop]; omega), List.getElem_drop]
              simp only [show f + (i - f) = i by omega]
            rw [e, List.mem_append] at hm
            rcases hm with hm | hm
            · exact h4 c hm
            · rw [List.mem_singleton] at hm
              rw [hm]; exact hc
          have H3 := Lib.hid h3
          have H5 := Lib.hid h5
          clear h1 h2 h3 h4 h5 hif hc
          go_wp2_with fail
          go_roundw
          case rel => exact ⟨i + 1, f, acc, by omega, by omega, by go_num, rfl, by omega, HROW.out, fun _ => ⟨H3.out, H5.out⟩, fun h => by omega, HB.out⟩
          case measure => simp [intOf]; omega
    · obtain rfl : i = l.length + 1 := by omega
      have e := h2 rfl
      subst e
      have hlt' : ¬ ((l.length + 1 : Nat) : Int) ≤ l.length := by omega
      clear h1 h2
      go_wp2_with fail
      go_ret
      exact ⟨_, _, rfl, HROW.out, HB.out⟩
end Go.Proofs.YtooabnmmgmmklaaDoor
