/-
  Walk of chapter 10: the program's escape of a byte.
-/
import Derived.Test.YtadkgjbidhfefaaGreatDoorTabJ
import Derived.Test.YtadkgjbidhfefaaGreatDoorTxt12
import Derived.WalkSpells
import Derived.WalkLawsBesides
import Derived.Laws.Rows
set_option linter.unusedVariables false
namespace Go.Proofs.YtadkgjbidhfefaaGreatDoor
open Go.RowKit

/-- What escape returns: nothing where the byte stands for itself. -/
def escP (c : UInt8) : Bytes := if c = 34 ∨ c = 92 ∨ c < 32 then escJ c else []
/-- The letters of the short escapes. -/
def letts : List (UInt8 × UInt8) := [(98, 8), (102, 12), (110, 10), (114, 13), (116, 9)]
theorem lett_at (k : Nat) (hk : k < 5) : ∃ a b : UInt8, letts[k]? = some (a, b) ∧ escJ b = [92, a] ∧ ∀ w, (Instr.index 146 (.agg lettCells) (.int .i64 k)).run Tryz.prog w = .ok (.agg #[.int .u8 a.toNat, .int .u8 b.toNat]) w := by
  have h0 : ∀ w, (Instr.index 146 (.agg lettCells) (.int .i64 (0 : Nat))).run Tryz.prog w = .ok (.agg #[.int .u8 98, .int .u8 8]) w := fun _ => by kernel_rfl
  have h1 : ∀ w, (Instr.index 146 (.agg lettCells) (.int .i64 (1 : Nat))).run Tryz.prog w = .ok (.agg #[.int .u8 102, .int .u8 12]) w := fun _ => by kernel_rfl
  have h2 : ∀ w, (Instr.index 146 (.agg lettCells) (.int .i64 (2 : Nat))).run Tryz.prog w = .ok (.agg #[.int .u8 110, .int .u8 10]) w := fun _ => by kernel_rfl
  have h3 : ∀ w, (Instr.index 146 (.agg lettCells) (.int .i64 (3 : Nat))).run Tryz.prog w = .ok (.agg #[.int .u8 114, .int .u8 13]) w := fun _ => by kernel_rfl
  have h4 : ∀ w, (Instr.index 146 (.agg lettCells) (.int .i64 (4 : Nat))).run Tryz.prog w = .ok (.agg #[.int .u8 116, .int .u8 9]) w := fun _ => by kernel_rfl
  match k, hk with
  | 0, _ => exact ⟨98, 8, rfl, rfl, h0⟩
  | 1, _ => exact ⟨102, 12, rfl, rfl, h1⟩
  | 2, _ => exact ⟨110, 10, rfl, rfl, h2⟩
  | 3, _ => exact ⟨114, 13, rfl, rfl, h3⟩
  | 4, _ => exact ⟨116, 9, rfl, rfl, h4⟩
theorem two_string (W : World) (g : Nat) (a b : UInt8) (h0 : W.cell? ⟨g, 0, none⟩ = some (.int .u8 a.toNat)) (h1 : W.cell? ⟨g, 1, none⟩ = some (.int .u8 b.toNat)) : (convert 80 9 (.slice (some ⟨g, 0, none⟩) 2 2)).run Tryz.prog W = .ok (.string (S [a, b])) W := by
  refine run_bytes_string W ⟨g, 0, none⟩ [a, b] 2 (fun j x hx => ?_)
  rw [add_zero_block]
  match j, hx with
  | 0, hx => simp at hx; subst hx; exact h0
  | 1, hx => simp at hx; subst hx; exact h1
  | j + 2, hx => simp at hx
theorem hex_str : ∀ n < 32, ((⟨#[92, 117, 48, 48]⟩ : ByteArray) ++ (⟨#[48, 49, 50, 51, 52, 53, 54, 55, 56, 57, 97, 98, 99, 100, 101, 102]⟩ : ByteArray).extract (n / 16) (n / 16 + 1) ++ (⟨#[48, 49, 50, 51, 52, 53, 54, 55, 56, 57, 97, 98, 99, 100, 101, 102]⟩ : ByteArray).extract (n % 16) (n % 16 + 1)) = S [92, 117, 48, 48, hxJ (UInt8.ofNat n / 16), hxJ (UInt8.ofNat n % 16)] := by
  have h : ∀ n : Fin 32, ((⟨#[92, 117, 48, 48]⟩ : ByteArray) ++ (⟨#[48, 49, 50, 51, 52, 53, 54, 55, 56, 57, 97, 98, 99, 100, 101, 102]⟩ : ByteArray).extract (n.val / 16) (n.val / 16 + 1) ++ (⟨#[48, 49, 50, 51, 52, 53, 54, 55, 56, 57, 97, 98, 99, 100, 101, 102]⟩ : ByteArray).extract (n.val % 16) (n.val % 16 + 1)) = S [92, 117, 48, 48, hxJ (UInt8.ofNat n.val / 16), hxJ (UInt8.ofNat n.val % 16)] := by decide +kernel
  exact fun n hn => h ⟨n, hn⟩
theorem escJ_rest {c : UInt8} (h1 : c ≠ 34) (h2 : c ≠ 92) (h : c < 32) (hn : ∀ j q, j < 5 → letts[j]? = some q → q.2 ≠ c) : escJ c = [92, 117, 48, 48, hxJ (c / 16), hxJ (c % 16)] := by
  have a0 : c ≠ 8 := fun e => hn 0 _ (by decide) rfl e.symm
  have a1 : c ≠ 12 := fun e => hn 1 _ (by decide) rfl e.symm
  have a2 : c ≠ 10 := fun e => hn 2 _ (by decide) rfl e.symm
  have a3 : c ≠ 13 := fun e => hn 3 _ (by decide) rfl e.symm
  have a4 : c ≠ 9 := fun e => hn 4 _ (by decide) rfl e.symm
  unfold escJ
  rw [if_neg h1, if_neg h2, if_neg a0, if_neg a4, if_neg a2, if_neg a1, if_neg a3, if_pos h]

set_option maxHeartbeats 2000000 in
set_option maxRecDepth 100000 in
theorem escape12_any (c : UInt8) (w : World) (hT : TabJ w) :
    Calls Tryz.prog 95 #[.int .u8 c.toNat] w fun e w' => e = .returned (.string (S (escP c))) ∧ Below w.heap.size w w' := by
  obtain ⟨tt, fr, hg⟩ := hT.lett
  have hc := UInt8.toNat_lt c
  have H2 := Lib.hid (fun W g => two_string W g 92 c)
  by_cases h34 : c = 34
  · subst h34
    have hp : escP 34 = [92, 34] := rfl
    rw [hp]
    clear hT hg hp H2
    have hconv := fun W g => two_string W g 92 34
    go_enter Tryz.func95, Tryz.ntmps95
    go_wp2
    go_ret
    exact ⟨rfl, (Below.refl _ _).alloc (Nat.le_refl _) _⟩
  · by_cases h92 : c = 92
    · subst h92
      have hp : escP 92 = [92, 92] := rfl
      rw [hp]
      clear hT hg hp H2
      have hconv := fun W g => two_string W g 92 92
      go_enter Tryz.func95, Tryz.ntmps95
      go_wp2
      go_ret
      exact ⟨rfl, (Below.refl _ _).alloc (Nat.le_refl _) _⟩
    · have n34 : ¬ ((c.toNat : Int) = 34) := fun e => h34 (by apply UInt8.toNat_inj.1; simp; omega)
      have n92 : ¬ ((c.toNat : Int) = 92) := fun e => h92 (by apply UInt8.toNat_inj.1; simp; omega)
      have t34 : ((c.toNat : Int) == 34) = false := by rw [beq_eq_false_iff_ne]; exact n34
      have t92 : ((c.toNat : Int) == 92) = false := by rw [beq_eq_false_iff_ne]; exact n92
      by_cases h32 : c < 32
      · have hlt : c.toNat < 32 := by simpa [UInt8.lt_iff_toNat_lt] using h32
        have hp : escP c = escJ c := by unfold escP; rw [if_pos (.inr (.inr h32))]
        rw [hp]
        obtain ⟨E, hE⟩ : ∃ E, escJ c = E := ⟨_, rfl⟩
        rw [hE]
        have HE := Lib.hid hE
        have H3 := Lib.hid (@escJ_rest c h34 h92 h32)
        have h32' : ¬ ((32 : Int) ≤ c.toNat) := by omega
        clear hT hp hE H2
        go_enter Tryz.func95, Tryz.ntmps95
        go_wp2_with (refine wpList_load_row rfl 146 _ rfl 3 rfl tt _ fr _ hg Tryz.underlying146 rfl (by kernel_rfl) ?_)
        go_loopw [17] (fun i wr => ∃ k : Nat, k ≤ 5 ∧ i = .int .i64 k ∧ (∀ j q, j < k → letts[j]? = some q → q.2 ≠ c) ∧ Below w.heap.size w wr) (fun i _ => 5 - (intOf i).toNat)
        case atStart => exact ⟨0, by omega, rfl, fun j q h => by omega, Below.refl _ _⟩
        case round =>
          obtain ⟨k, hk, rfl, hin, hb⟩ := hrel
          have HI := Lib.hid hin
          have HB := Lib.hid hb
          have hsz := hb.size
          clear hin hb
          by_cases hlk : k < 5
          · obtain ⟨a, b, hq, hel, hidx⟩ := lett_at k hlk
            have hconv := fun W g => two_string W g 92 a
            by_cases hbc : b = c
            · subst hbc
              rw [hel] at HE
              have HH := HE
              clear HE hel
              go_wp2
              go_ret
              exact ⟨by rw [← HH.out]; rfl, (HB.out.alloc hsz _).alloc (by simp; omega) _⟩
            · have nbc : ¬ ((b.toNat : Int) = c.toNat) := fun e => hbc (UInt8.toNat_inj.1 (by omega))
              have t1 : ((b.toNat : Int) == (c.toNat : Int)) = false := by rw [beq_eq_false_iff_ne]; exact nbc
              have HN := Lib.hid (show ∀ j q, j < k + 1 → letts[j]? = some q → q.2 ≠ c from fun j q h hj => by
                by_cases e : j = k
                · subst e; rw [hq] at hj; cases hj; exact hbc
                · exact HI.out j q (by omega) hj)
              clear hel hq hconv
              go_wp2
              go_roundw
              case rel => exact ⟨k + 1, by omega, by go_num, HN.out, HB.out.alloc hsz _⟩
              case measure => simp [intOf]; omega
          · obtain rfl : k = 5 := by omega
            go_wp2_with fail
            go_region
            go_wp2_with fail
            go_ret
            have hr := H3.out (fun j q hj h => HI.out j q hj h)
            have hx := hex_str c.toNat hlt
            rw [UInt8.ofNat_toNat] at hx
            exact ⟨by rw [← HE.out, hr, ← hx]; rfl, HB.out.drew⟩
      · have h32' : (32 : Int) ≤ c.toNat := by
          have h := h32
          rw [UInt8.lt_iff_toNat_lt] at h
          have e : (32 : UInt8).toNat = 32 := rfl
          omega
        have hp : escP c = [] := by unfold escP; rw [if_neg]; rintro (h | h | h); exact h34 h; exact h92 h; exact h32 h
        rw [hp]
        clear hT hg hp H2
        go_enter Tryz.func95, Tryz.ntmps95
        go_wp2
        go_ret
        exact ⟨rfl, Below.refl _ _⟩
end Go.Proofs.YtadkgjbidhfefaaGreatDoor
