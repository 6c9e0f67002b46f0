/-
  Walk of chapter 5's statement RoundTrip.
-/
import Derived.Test.YtjpphdmpfhdnkaaLaw5a
import Derived.Test.YtjpphdmpfhdnkaaPlain5
import Derived.Lib.SlBytesConst
set_option linter.unusedVariables false
namespace Go.Proofs.Ytjpphdmpfhdnkaa
open Go.RowKit

theorem ixEsc (a : Bool) (l : Bytes) (d : UInt8) (k : Int) (hk : k.toNat.toUInt8 = d) (hd : d = 60 ∨ d = 62 ∨ d = 13 ∨ (a = true ∧ (d = 34 ∨ d = 10))) (w : World) :
    Calls Try.prog 17 #[.string (S (esc a l)), .int .u8 k] w fun e w' => e = .returned (.int .i64 (-1)) ∧ w' = w := by
  have h := Try.strings_IndexByte (S (esc a l)) k w
  rw [S_data, hk, indexByte_esc a l d hd] at h
  exact h

set_option maxHeartbeats 2000000 in
set_option maxRecDepth 100000 in
theorem law5roundTrip_any (l : Bytes) (w : World) (hl : l.length ≤ 9223372036854775807) : Calls Try.prog 6 #[.string (S l)] w fun e w' => e = .returned (.bool true) ∧ Below w.heap.size w w' := by
  by_cases h : 5000 < l.length
  · have h' : (5000 : Int) < l.length := by omega
    go_enter Try.func6, Try.ntmps6
    go_wp2_with (go_at_call 9; refine (alive5_any _).mono ?_; rintro e w1 ⟨rfl, hb1⟩)
    go_ret
    exact ⟨rfl, hb1⟩
  · have h' : (l.length : Int) ≤ 5000 := by omega
    have n0 := esc_len false l
    have n1 := esc_len true l
    have c1 := fun w => escText_any l w (by omega)
    have c2 := fun w => escAttr_any l w (by omega)
    have c3 := fun w => unescape_any (esc false l) w (by omega)
    have c4 := fun w => unescape_any (esc true l) w (by omega)
    rw [unT_esc] at c3 c4
    have a60 := ixEsc false l 60 60 rfl (by decide)
    have a62 := ixEsc false l 62 62 rfl (by decide)
    have a13 := ixEsc false l 13 13 rfl (by decide)
    have b60 := ixEsc true l 60 60 rfl (by decide)
    have b62 := ixEsc true l 62 62 rfl (by decide)
    have b13 := ixEsc true l 13 13 rfl (by decide)
    have b34 := ixEsc true l 34 34 rfl (by decide)
    have b10 := ixEsc true l 10 10 rfl (by decide)
    have C1 := Lib.hid c1
    have C2 := Lib.hid c2
    have C3 := Lib.hid c3
    have C4 := Lib.hid c4
    have A60 := Lib.hid a60
    have A62 := Lib.hid a62
    have A13 := Lib.hid a13
    have B60 := Lib.hid b60
    have B62 := Lib.hid b62
    have B13 := Lib.hid b13
    have B34 := Lib.hid b34
    have B10 := Lib.hid b10
    clear c1 c2 c3 c4 a60 a62 a13 b60 b62 b13 b34 b10
    generalize esc false l = A at *
    generalize esc true l = B at *
    have e0 : (l == l) = true := by simp
    have e1 : ((A.length : Int) == (A.length : Int)) = true := by simp
    have e2 : ((B.length : Int) == (B.length : Int)) = true := by simp
    go_enter Try.func6, Try.ntmps6
    go_wp2_with fail
    refine (C1.out _).mono ?_
    rintro e w1 ⟨rfl, hb1⟩
    go_wp2_with fail
    refine (C2.out _).mono ?_
    rintro e w2 ⟨rfl, hb2⟩
    have hb2' := hb1.trans (hb2.mono hb1.size)
    go_wp2_with fail
    refine (C3.out _).mono ?_
    rintro e w3 ⟨rfl, hb3⟩
    have hb3' := hb2'.trans (hb3.mono hb2'.size)
    go_wp2_with fail
    refine (C4.out _).mono ?_
    rintro e w4 ⟨rfl, hb4⟩
    have hb4' := hb3'.trans (hb4.mono hb3'.size)
    have hcv := Lib.run_convert_bytes_const (P := Try.prog) w4 36 5 #[.int .u8 60, .int .u8 62, .int .u8 13] 3 3 Try.underlying36 Try.underlying5
    have hhp := heap_alloc_new w4 (.cells #[.int .u8 60, .int .u8 62, .int .u8 13] 5 ((#[.int .u8 60, .int .u8 62, .int .u8 13] : Array Value).size, (#[.int .u8 60, .int .u8 62, .int .u8 13] : Array Value).size + 1))
    have hb5 := hb4'.alloc hb4'.size (.cells #[.int .u8 60, .int .u8 62, .int .u8 13] 5 ((#[.int .u8 60, .int .u8 62, .int .u8 13] : Array Value).size, (#[.int .u8 60, .int .u8 62, .int .u8 13] : Array Value).size + 1))
    obtain ⟨W5, hW5⟩ : ∃ W5, w4.alloc (.cells #[.int .u8 60, .int .u8 62, .int .u8 13] 5 ((#[.int .u8 60, .int .u8 62, .int .u8 13] : Array Value).size, (#[.int .u8 60, .int .u8 62, .int .u8 13] : Array Value).size + 1)) = W5 := ⟨_, rfl⟩
    rw [hW5] at hcv hhp hb5
    clear hW5
    have k0 : W5.cell? ⟨w4.heap.size, 0, none⟩ = some (.int .u8 60) := by rw [Lib.cell_of_heap hhp]; rfl
    have k1 : W5.cell? ⟨w4.heap.size, 1, none⟩ = some (.int .u8 62) := by rw [Lib.cell_of_heap hhp]; rfl
    have k2 : W5.cell? ⟨w4.heap.size, 2, none⟩ = some (.int .u8 13) := by rw [Lib.cell_of_heap hhp]; rfl
    have HB5 := Lib.hid hb5
    clear hhp hb5 hb4 hb4' hb3 hb3' hb2 hb2' hb1
    go_wp2_with fail
    go_loopw [36] (fun i36 wr => ∃ k : Nat, k ≤ 3 ∧ i36 = .int .i64 k ∧ W5 = wr) (fun i36 _ => 3 - (intOf i36).toNat)
    case atStart => exact ⟨0, by omega, rfl, rfl⟩
    case round =>
      obtain ⟨k, hk, rfl, rfl⟩ := hrel
      have hk' : k = 0 ∨ k = 1 ∨ k = 2 ∨ k = 3 := by omega
      rcases hk' with rfl | rfl | rfl | rfl
      · go_wp2_with (first
          | (go_at_call 17; with_reducible refine (A60.out _).mono ?_; rintro e w' ⟨rfl, rfl⟩)
          | (go_at_call 17; with_reducible refine (B60.out _).mono ?_; rintro e w' ⟨rfl, rfl⟩))
        go_roundw
        case rel => exact ⟨1, by omega, by go_num, by first | rfl | trivial⟩
        case measure => simp [intOf]
      · go_wp2_with (first
          | (go_at_call 17; with_reducible refine (A62.out _).mono ?_; rintro e w' ⟨rfl, rfl⟩)
          | (go_at_call 17; with_reducible refine (B62.out _).mono ?_; rintro e w' ⟨rfl, rfl⟩))
        go_roundw
        case rel => exact ⟨2, by omega, by go_num, by first | rfl | trivial⟩
        case measure => simp [intOf]
      · go_wp2_with (first
          | (go_at_call 17; with_reducible refine (A13.out _).mono ?_; rintro e w' ⟨rfl, rfl⟩)
          | (go_at_call 17; with_reducible refine (B13.out _).mono ?_; rintro e w' ⟨rfl, rfl⟩))
        go_roundw
        case rel => exact ⟨3, by omega, by go_num, by first | rfl | trivial⟩
        case measure => simp [intOf]
      · go_wp2_with (first
          | (go_at_call 9; refine (alive5_any _).mono ?_; rintro e w6 ⟨rfl, hb6⟩)
          | (go_at_call 17; with_reducible refine (B34.out _).mono ?_; rintro e w' ⟨rfl, rfl⟩)
          | (go_at_call 17; with_reducible refine (B10.out _).mono ?_; rintro e w' ⟨rfl, rfl⟩))
        go_ret
        exact ⟨rfl, HB5.out.trans (hb6.mono HB5.out.size)⟩
end Go.Proofs.Ytjpphdmpfhdnkaa
