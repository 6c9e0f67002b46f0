/-
  Walks of chapter 4's statements: white space.
-/
import Derived.Test.YtooabnmmgmmklaaDoorLaw4f
set_option linter.unusedVariables false
namespace Go.Proofs.YtooabnmmgmmklaaDoor
open Go.RowKit

def spcT : List Bytes := [[32], [9], [13, 10, 32], [32, 32]]
def spcTC : Array Value := #[.string ⟨#[32]⟩, .string ⟨#[9]⟩, .string ⟨#[13, 10, 32]⟩, .string ⟨#[32, 32]⟩]
theorem spcT_at0 (k : Nat) (hk : k < 4) : ∃ x, spcT.getD k [] = x ∧ x.length ≤ 3 ∧ x ≠ [] ∧ (∀ c ∈ x, spc c = true) ∧ ∀ W : World, (Instr.index 41 (.agg spcTC) (.int .u8 (k : Int))).run Tryd.prog W = .ok (.string (S x)) W := by
  match k, hk with
  | 0, _ => exact ⟨[32], rfl, by decide, by decide, by decide, fun _ => by kernel_rfl⟩
  | 1, _ => exact ⟨[9], rfl, by decide, by decide, by decide, fun _ => by kernel_rfl⟩
  | 2, _ => exact ⟨[13, 10, 32], rfl, by decide, by decide, by decide, fun _ => by kernel_rfl⟩
  | 3, _ => exact ⟨[32, 32], rfl, by decide, by decide, by decide, fun _ => by kernel_rfl⟩
theorem spread_len (sp : Bytes) : ∀ l : Bytes, sp.length ≤ 3 → (spread sp l).length ≤ 3 * l.length
  | [], _ => by simp [spread]
  | c :: l, h => by
    have ih := spread_len sp l h
    unfold spread at *
    rw [List.flatMap_cons, List.length_append, List.length_cons]
    split
    · omega
    · simp only [List.length_cons, List.length_nil]; omega
theorem repl4_any (l sp : Bytes) (hl : l.length ≤ 10000) (hs : sp.length ≤ 3) (w : World) (hT : Tab4 w) :
    Calls Tryd.prog 15 #[.string (S l), .string ⟨#[32]⟩, .string (S sp)] w fun e w' => e = .returned (.string (S (spread sp l))) ∧ Below w.heap.size w w' := by
  obtain ⟨m, hm⟩ := hT.max
  have h1 : 1 ≤ (⟨#[32]⟩ : ByteArray).size := by show 1 ≤ (#[(32 : UInt8)] : Array UInt8).size; simp
  have hc := Lib.countB_le ⟨#[32]⟩ h1 (S l).size (S l) (Nat.le_refl _)
  rw [S_size] at hc
  have hmul : Lib.countB (S l) ⟨#[32]⟩ * sp.length ≤ 10000 * 3 := Nat.mul_le_mul (by omega) hs
  have h := Tryd.strings_ReplaceAll (S l) ⟨#[32]⟩ (S sp) m w (by rw [S_size]; omega) hm h1 (by rw [S_size, S_size]; omega)
  rw [S_data, S_data, show (⟨#[32]⟩ : ByteArray).data.toList = [32] from rfl, repl_spread] at h
  exact h
set_option maxHeartbeats 4000000 in
set_option maxRecDepth 100000 in
theorem law4spaces_any (l : Bytes) (n : Nat) (hn : n < 256) (w : World) (hT : Tab4 w) (hm : l.length ≤ 9223372036854775807) :
    Calls Tryd.prog 7 #[.string (S l), .int .u8 n] w fun e w' => e = .returned (.bool true) ∧ Below w.heap.size w w' := by
  by_cases hl : l.length ≤ 1000
  · have hl' : ¬ (1000 : Int) < l.length := by omega
    have hm4 : ((n : Int)).tmod 4 = ((n % 4 : Nat) : Int) := u8_mod n 4 (by decide) hn
    have hk4 : n % 4 < 4 := Nat.mod_lt _ (by decide)
    obtain ⟨sp, _, hs3, hs0, hsp, hix⟩ := spcT_at0 (n % 4) hk4
    generalize n % 4 = kk at *
    have hps := parse4_spread hsp hs0 l
    have hcl := collapse_len l
    have P1 := parse4_any l w hT (by omega)
    have C1 := fun W => refCollapse_any l W (by omega)
    generalize collapse l = cl at *
    have R1 := fun W hW => repl4_any cl sp (by omega) hs3 W hW
    have hrl := spread_len sp cl hs3
    generalize spread sp cl = R at *
    have P2 := fun (W : World) (hb : Below w.heap.size w W) => parse4_any (sp ++ (R ++ sp)) W (hT.next hb) (by rw [List.length_append, List.length_append]; omega)
    rw [hps] at P2
    generalize parse4 l = X at *
    obtain ⟨x1, x2⟩ := X
    obtain ⟨Y1, hY1⟩ : ∃ Y, sp ++ R = Y := ⟨_, rfl⟩
    obtain ⟨Y2, hY2⟩ : ∃ Y, sp ++ (R ++ sp) = Y := ⟨_, rfl⟩
    have l1 : Y1.length ≤ 10000 := by rw [← hY1, List.length_append]; omega
    have e2 : Y2 = Y1 ++ sp := by rw [← hY2, ← hY1, List.append_assoc]
    have q1 : ∀ W : World, (Op.stringOp .add (S sp) (S R)).run Tryd.prog W = .ok (.string (S Y1)) W := catS4 _ _ _ hY1.symm (by omega)
    have q2 : ∀ W : World, (Op.stringOp .add (S Y1) (S sp)).run Tryd.prog W = .ok (.string (S Y2)) W := catS4 _ _ _ e2 (by omega)
    rw [hY2] at P2
    have P1 := Lib.hid P1
    have P2 := Lib.hid P2
    have C1 := Lib.hid C1
    have R1 := Lib.hid fun W (hb : Below w.heap.size w W) => R1 W (hT.next hb)
    have A := Lib.hid fun W (hb : Below w.heap.size w W) => alive4_any W (hT.next hb)
    unfold spcTC at hix
    clear hT hl hps hcl hrl hY1 hY2 e2 l1 hs3 hs0 hsp
    go_enter Tryd.func7, Tryd.ntmps7
    go_wp2_with (first
      | (go_at_call 12; (with_reducible refine P1.out.mono ?_); rintro e w1 ⟨rfl, b1⟩)
      | (go_at_call 16; refine (C1.out _).mono ?_; rintro e w2 ⟨rfl, b2⟩; have c2 := b1.trans (b2.mono b1.size))
      | (go_at_call 15; refine (R1.out _ c2).mono ?_; rintro e w3 ⟨rfl, b3⟩; have c3 := c2.trans (b3.mono c2.size))
      | (go_at_call 12; (with_reducible refine (P2.out _ c3).mono ?_); rintro e w4 ⟨rfl, b4⟩; have c4 := c3.trans (b4.mono c3.size))
      | (go_at_call 11; refine (A.out _ c4).mono ?_; rintro e w5 ⟨rfl, b5⟩))
    go_ret
    exact ⟨ret_T (by simp), c4.trans (b5.mono c4.size)⟩
  · have hl' : (1000 : Int) < l.length := by omega
    have A := Lib.hid (alive4_any w hT)
    clear hT hl
    go_enter Tryd.func7, Tryd.ntmps7
    go_wp2_with (go_at_call 11; refine A.out.mono ?_; rintro e w3 ⟨rfl, b3⟩)
    go_ret
    exact ⟨rfl, b3⟩
end Go.Proofs.YtooabnmmgmmklaaDoor
