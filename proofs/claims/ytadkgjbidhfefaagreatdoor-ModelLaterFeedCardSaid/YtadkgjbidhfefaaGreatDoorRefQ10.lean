/-
  Walks of chapter 10, the reference: letter, Valid, Quote.
-/
import Derived.Test.YtadkgjbidhfefaaGreatDoorVu8
import Derived.Test.YtadkgjbidhfefaaGreatDoorQuo12
import Derived.Test.YtadkgjbidhfefaaGreatDoorElt
import Derived.Deep.RegionHeld3
set_option linter.unusedVariables false
namespace Go.Proofs.YtadkgjbidhfefaaGreatDoor
open Go.RowKit

theorem vgo_bad {m : Nat} {l : Bytes} (h0 : l ≠ []) (hm : 1 ≤ m) (h : (dec l).2 = 0) : Lib.validGoD m l = false := by
  obtain ⟨m, rfl⟩ : ∃ k, m = k + 1 := ⟨m - 1, by omega⟩
  rw [Lib.validGoD, if_neg h0, decodeL_dec h0, if_pos h]
  simp
theorem vgo_next {m : Nat} {l : Bytes} (h0 : l ≠ []) (hm : 1 ≤ m) (h : (dec l).2 ≠ 0) : Lib.validGoD m l = Lib.validGoD (m - 1) (l.drop (dec l).2) := by
  obtain ⟨m, rfl⟩ : ∃ k, m = k + 1 := ⟨m - 1, by omega⟩
  rw [Lib.validGoD, if_neg h0]
  have e : Lib.decodeL l = dec l := by rw [decodeL_dec h0, if_neg h]
  rw [e]
  rw [if_neg]
  · rfl
  · intro hh
    have := dec_one l hh.2
    omega
theorem vgo_end : ∀ m, Lib.validGoD m [] = true
  | 0 => rfl
  | m + 1 => by rw [Lib.validGoD, if_pos rfl]
set_option maxHeartbeats 1000000 in
theorem refValid10_any (l : Bytes) (w : World) (hl : l.length ≤ 4611686018427387904) :
    Calls Tryz.prog 75 #[.string (S l)] w fun e w' => e = .returned (.bool (utf8J l)) ∧ Below w.heap.size w w' := by
  obtain ⟨c, hc⟩ : ∃ c, utf8J l = c := ⟨_, rfl⟩
  rw [hc]
  have HC := Lib.hid hc
  clear hc
  go_enter Tryz.func75, Tryz.ntmps75
  go_wp2
  go_loopw [3] (fun a3 wr => ∃ n m : Nat, n ≤ l.length ∧ a3 = .int .i64 n ∧ l.length - n ≤ m ∧ Lib.validGoD m (l.drop n) = c ∧ Below w.heap.size w wr) (fun a3 _ => l.length - (intOf a3).toNat)
  case atStart => exact ⟨0, l.length, by omega, rfl, by omega, HC.out, Below.refl _ _⟩
  case round =>
    obtain ⟨n, m, hn, rfl, hm, hch, hb⟩ := hrel
    have HB := Lib.hid hb
    have hsz := hb.size
    clear hb HC
    by_cases hlt : n < l.length
    · have hle := dec_le (l.drop n)
      have hne := drop_ne hlt
      have hd := refDecode_in l n wr hl hlt
      have HD := Lib.hid hd
      clear hd
      by_cases h0 : (dec (l.drop n)).2 = 0
      · have hcc := vgo_bad hne (by omega : 1 ≤ m) h0
        rw [hch] at hcc
        have t0 : (((dec (l.drop n)).2 : Int) == 0) = true := by rw [h0]; rfl
        have HCC := Lib.hid hcc
        clear hcc hch h0 hne
        generalize dec (l.drop n) = d at *
        obtain ⟨r, k⟩ := d
        go_wp2_with (go_at_call 61; refine HD.out.mono ?_; rintro e w' ⟨rfl, hb⟩)
        go_ret
        exact ⟨by rw [HCC.out]; rfl, HB.out.trans (hb.mono hsz)⟩
      · have t0 : (((dec (l.drop n)).2 : Int) == 0) = false := by rw [beq_eq_false_iff_ne]; omega
        have hcc := vgo_next hne (by omega : 1 ≤ m) h0
        rw [hch, List.drop_drop] at hcc
        have hle1 : n + (dec (l.drop n)).2 ≤ l.length := by have := hle.1; simp at this; omega
        have hpos : 1 ≤ (dec (l.drop n)).2 := by omega
        have HCC := Lib.hid hcc
        clear hcc hch h0 hne
        generalize hg : dec (l.drop n) = d at *
        clear hg
        obtain ⟨r, k⟩ := d
        go_wp2_with (go_at_call 61; refine HD.out.mono ?_; rintro e w' ⟨rfl, hb⟩)
        go_roundw
        case rel => exact ⟨n + k, m - 1, by omega, by go_num, by omega, HCC.out.symm, HB.out.trans (hb.mono hsz)⟩
        case measure => simp [intOf]; omega
    · obtain rfl : n = l.length := by omega
      rw [List.drop_length, vgo_end] at hch
      have HCH := Lib.hid hch
      clear hch
      go_wp2
      go_ret
      exact ⟨ret_bool HCH.out, HB.out⟩

/-- The letter of a short escape, or 0. -/
def letterR (c : UInt8) : UInt8 := if c = 34 then 34 else if c = 92 then 92 else if c = 8 then 98 else if c = 9 then 116 else if c = 10 then 110 else if c = 12 then 102 else if c = 13 then 114 else 0
theorem u8n {c : UInt8} {n : Nat} (hn : n < 256) (h : ((c.toNat : Int) == (n : Int)) = true) : c = UInt8.ofNat n := by
  have := eq_of_beq h
  apply UInt8.toNat_inj.1
  rw [u8_of hn]
  omega
theorem u8m {c : UInt8} {n : Nat} (hn : n < 256) (h : ((c.toNat : Int) == (n : Int)) = false) : c ≠ UInt8.ofNat n := by
  intro e
  rw [beq_eq_false_iff_ne] at h
  apply h
  rw [e, u8_of hn]
set_option maxHeartbeats 2000000 in
theorem letter10_any (c : UInt8) (w : World) :
    Calls Tryz.prog 76 #[.int .u8 c.toNat] w fun e w' => e = .returned (.int .u8 (letterR c).toNat) ∧ w' = w := by
  unfold letterR
  rcases h34 : ((c.toNat : Int) == 34) with _ | _
  · rw [if_neg (show c ≠ 34 from u8m (n := 34) (by decide) h34)]
    rcases h92 : ((c.toNat : Int) == 92) with _ | _
    · rw [if_neg (show c ≠ 92 from u8m (n := 92) (by decide) h92)]
      rcases h8 : ((c.toNat : Int) == 8) with _ | _
      · rw [if_neg (show c ≠ 8 from u8m (n := 8) (by decide) h8)]
        rcases h9 : ((c.toNat : Int) == 9) with _ | _
        · rw [if_neg (show c ≠ 9 from u8m (n := 9) (by decide) h9)]
          rcases h10 : ((c.toNat : Int) == 10) with _ | _
          · rw [if_neg (show c ≠ 10 from u8m (n := 10) (by decide) h10)]
            rcases h12 : ((c.toNat : Int) == 12) with _ | _
            · rw [if_neg (show c ≠ 12 from u8m (n := 12) (by decide) h12)]
              rcases h13 : ((c.toNat : Int) == 13) with _ | _
              · rw [if_neg (show c ≠ 13 from u8m (n := 13) (by decide) h13)]
                go_enter Tryz.func76, Tryz.ntmps76
                go_wp2
                go_ret
                exact ⟨rfl, rfl⟩
              · rw [if_pos (show c = 13 from u8n (n := 13) (by decide) h13)]
                go_enter Tryz.func76, Tryz.ntmps76
                go_wp2
                go_ret
                exact ⟨rfl, rfl⟩
            · rw [if_pos (show c = 12 from u8n (n := 12) (by decide) h12)]
              go_enter Tryz.func76, Tryz.ntmps76
              go_wp2
              go_ret
              exact ⟨rfl, rfl⟩
          · rw [if_pos (show c = 10 from u8n (n := 10) (by decide) h10)]
            go_enter Tryz.func76, Tryz.ntmps76
            go_wp2
            go_ret
            exact ⟨rfl, rfl⟩
        · rw [if_pos (show c = 9 from u8n (n := 9) (by decide) h9)]
          go_enter Tryz.func76, Tryz.ntmps76
          go_wp2
          go_ret
          exact ⟨rfl, rfl⟩
      · rw [if_pos (show c = 8 from u8n (n := 8) (by decide) h8)]
        go_enter Tryz.func76, Tryz.ntmps76
        go_wp2
        go_ret
        exact ⟨rfl, rfl⟩
    · have e : c = 92 := u8n (n := 92) (by decide) h92
      rw [if_pos e]
      go_enter Tryz.func76, Tryz.ntmps76
      go_wp2
      go_ret
      exact ⟨by rw [e]; rfl, rfl⟩
  · have e : c = 34 := u8n (n := 34) (by decide) h34
    rw [if_pos e]
    go_enter Tryz.func76, Tryz.ntmps76
    go_wp2
    go_ret
    exact ⟨by rw [e]; rfl, rfl⟩

/-! Appending some bytes. -/
theorem own_append_list_step {ops : Array Oper} {o : Oper} {a : Act} {K : Act → World → Prop} {Q : Exit → Act → World → Prop} {Z : Prop} (hgd : o.guard = none) (sl x : Operand)
    (ho : o.op = .call { callee := .builtin .append, args := #[sl, x], argTypes := #[80, 80] })
    (w : World) (B : Nat) (v : Value) (l m : Bytes) (cs : Array Value) (k : Nat) (hcs : cs.toList = Lib.byteCells m) (hk : m.length = k) (hm : 1 ≤ k ∧ k ≤ 10) (hs : a.eval sl = v) (h : Own B v l w) (H : Nat) (hH : w.heap.size = H) (hx : a.eval x = .slice (some ⟨H, 0, none⟩) k k) (hlen : l.length + 10 ≤ 140737488355328) (hB : B ≤ w.heap.size)
    (hK : ∀ v' w', Own B v' (l ++ m) w' → Below B w w' → K (a.put o.dst v') w') : if Region.wanted o (yielded ops a.tmps) = true then Oper.wp Tryz.prog o a (w.alloc (.cells cs 5)) K Q else Z := by
  subst hH hk
  obtain ⟨i0, hi, hz0, hz1, hz2⟩ := info_parts infoByte
  have hal : Own B v l (w.alloc (.cells cs 5)) := h.below ((Below.refl _ _).alloc (Nat.le_refl _) _)
  refine step_append_lies _ hgd sl x 80 ho B 5 i0 (.int .u8 0) 1 1 Tryz.underlying80 hi hz0 hz1 hz2 rfl (by decide) v l.length (Lib.byteCells l) hs hal ⟨w.heap.size, 0, none⟩ m.length m.length (Lib.byteCells m) hx (by rw [Lib.byteCells_length]; omega) ?_ ?_ (by omega) (by unfold maxLen; omega) (by omega) (by simp; omega) _ rfl ?_
  · intro j u hj
    exact World.news_of_block (heap_alloc_new w (.cells cs 5)) j u (by rw [hcs]; exact hj)
  · intro u hu
    simp only [Lib.byteCells, List.mem_map] at hu
    obtain ⟨c, _, rfl⟩ := hu
    rfl
  · intro g cap w' h1 h2 hat hlt'
    refine hK _ w' ?_ (((Below.refl _ _).alloc hB _).trans (row_grown h2 (by simp; omega) (fun k hk => by have := h.lt k hk; simp; omega)))
    unfold Own
    rw [Lib.byteCells_append, List.length_append]
    exact h1
theorem own_append_list {ops : Array Oper} {rest : List Oper} {o : Oper} {a : Act} {Q : Exit → Act → World → Prop} (hgd : o.guard = none) (sl x : Operand)
    (ho : o.op = .call { callee := .builtin .append, args := #[sl, x], argTypes := #[80, 80] })
    (w : World) (B : Nat) (v : Value) (l m : Bytes) (cs : Array Value) (k : Nat) (hcs : cs.toList = Lib.byteCells m) (hk : m.length = k) (hm : 1 ≤ k ∧ k ≤ 10) (hs : a.eval sl = v) (h : Own B v l w) (H : Nat) (hH : w.heap.size = H) (hx : a.eval x = .slice (some ⟨H, 0, none⟩) k k) (hlen : l.length + 10 ≤ 140737488355328) (hB : B ≤ w.heap.size)
    (hK : ∀ v' w', Own B v' (l ++ m) w' → Below B w w' → wpList Tryz.prog ops Q rest (a.put o.dst v') w') : wpList Tryz.prog ops Q (o :: rest) a (w.alloc (.cells cs 5)) := by
  subst hH hk
  obtain ⟨i0, hi, hz0, hz1, hz2⟩ := info_parts infoByte
  have hal : Own B v l (w.alloc (.cells cs 5)) := h.below ((Below.refl _ _).alloc (Nat.le_refl _) _)
  refine wpList_append_lies _ hgd sl x 80 ho B 5 i0 (.int .u8 0) 1 1 Tryz.underlying80 hi hz0 hz1 hz2 rfl (by decide) v l.length (Lib.byteCells l) hs hal ⟨w.heap.size, 0, none⟩ m.length m.length (Lib.byteCells m) hx (by rw [Lib.byteCells_length]; omega) ?_ ?_ (by omega) (by unfold maxLen; omega) (by omega) (by simp; omega) _ rfl ?_
  · intro j u hj
    exact World.news_of_block (heap_alloc_new w (.cells cs 5)) j u (by rw [hcs]; exact hj)
  · intro u hu
    simp only [Lib.byteCells, List.mem_map] at hu
    obtain ⟨c, _, rfl⟩ := hu
    rfl
  · intro g cap w' h1 h2 hat hlt'
    refine hK _ w' ?_ (((Below.refl _ _).alloc hB _).trans (row_grown h2 (by simp; omega) (fun k hk => by have := h.lt k hk; simp; omega)))
    unfold Own
    rw [Lib.byteCells_append, List.length_append]
    exact h1
theorem own_new (w : World) (B : Nat) (hB : B ≤ w.heap.size) (c : UInt8) : Own B (.slice (some ⟨w.heap.size, 0, none⟩) 1 1) [c] (w.alloc (.cells #[.int .u8 c.toNat] 5)) :=
  ⟨rfl, .inr ⟨w.heap.size, 1, _, rfl, hB, heap_alloc_new w _, Nat.le_refl _, by decide, rfl, rfl⟩⟩
theorem letter_esc {c : UInt8} (h : letterR c ≠ 0) : escJ c = [92, letterR c] := by
  unfold letterR at h ⊢
  unfold escJ
  repeat' split
  all_goals first | rfl | simp_all
theorem letter_low {c : UInt8} (h : letterR c = 0) : escJ c = if c < 32 then [92, 117, 48, 48, hxJ (c / 16), hxJ (c % 16)] else [c] := by
  unfold letterR at h
  unfold escJ
  repeat' split
  all_goals first | rfl | simp_all

theorem hx_val : ∀ q < 16, (hxJ (UInt8.ofNat q)).toNat = if q < 10 then 48 + q else 87 + q := by decide
theorem hex_at (q : Nat) (hq : q < 16) : ∀ W : World, (Instr.index 9 (.string ⟨#[48, 49, 50, 51, 52, 53, 54, 55, 56, 57, 97, 98, 99, 100, 101, 102]⟩) (.int .u8 (q : Int))).run Tryz.prog W = .ok (.int .u8 ((hxJ (UInt8.ofNat q)).toNat : Int)) W := by
  have h0 : ∀ W, (Instr.index 9 (.string ⟨#[48, 49, 50, 51, 52, 53, 54, 55, 56, 57, 97, 98, 99, 100, 101, 102]⟩) (.int .u8 ((0 : Nat) : Int))).run Tryz.prog W = .ok (.int .u8 48) W := fun _ => by kernel_rfl
  have h1 : ∀ W, (Instr.index 9 (.string ⟨#[48, 49, 50, 51, 52, 53, 54, 55, 56, 57, 97, 98, 99, 100, 101, 102]⟩) (.int .u8 ((1 : Nat) : Int))).run Tryz.prog W = .ok (.int .u8 49) W := fun _ => by kernel_rfl
  have h2 : ∀ W, (Instr.index 9 (.string ⟨#[48, 49, 50, 51, 52, 53, 54, 55, 56, 57, 97, 98, 99, 100, 101, 102]⟩) (.int .u8 ((2 : Nat) : Int))).run Tryz.prog W = .ok (.int .u8 50) W := fun _ => by kernel_rfl
  have h3 : ∀ W, (Instr.index 9 (.string ⟨#[48, 49, 50, 51, 52, 53, 54, 55, 56, 57, 97, 98, 99, 100, 101, 102]⟩) (.int .u8 ((3 : Nat) : Int))).run Tryz.prog W = .ok (.int .u8 51) W := fun _ => by kernel_rfl
  have h4 : ∀ W, (Instr.index 9 (.string ⟨#[48, 49, 50, 51, 52, 53, 54, 55, 56, 57, 97, 98, 99, 100, 101, 102]⟩) (.int .u8 ((4 : Nat) : Int))).run Tryz.prog W = .ok (.int .u8 52) W := fun _ => by kernel_rfl
  have h5 : ∀ W, (Instr.index 9 (.string ⟨#[48, 49, 50, 51, 52, 53, 54, 55, 56, 57, 97, 98, 99, 100, 101, 102]⟩) (.int .u8 ((5 : Nat) : Int))).run Tryz.prog W = .ok (.int .u8 53) W := fun _ => by kernel_rfl
  have h6 : ∀ W, (Instr.index 9 (.string ⟨#[48, 49, 50, 51, 52, 53, 54, 55, 56, 57, 97, 98, 99, 100, 101, 102]⟩) (.int .u8 ((6 : Nat) : Int))).run Tryz.prog W = .ok (.int .u8 54) W := fun _ => by kernel_rfl
  have h7 : ∀ W, (Instr.index 9 (.string ⟨#[48, 49, 50, 51, 52, 53, 54, 55, 56, 57, 97, 98, 99, 100, 101, 102]⟩) (.int .u8 ((7 : Nat) : Int))).run Tryz.prog W = .ok (.int .u8 55) W := fun _ => by kernel_rfl
  have h8 : ∀ W, (Instr.index 9 (.string ⟨#[48, 49, 50, 51, 52, 53, 54, 55, 56, 57, 97, 98, 99, 100, 101, 102]⟩) (.int .u8 ((8 : Nat) : Int))).run Tryz.prog W = .ok (.int .u8 56) W := fun _ => by kernel_rfl
  have h9 : ∀ W, (Instr.index 9 (.string ⟨#[48, 49, 50, 51, 52, 53, 54, 55, 56, 57, 97, 98, 99, 100, 101, 102]⟩) (.int .u8 ((9 : Nat) : Int))).run Tryz.prog W = .ok (.int .u8 57) W := fun _ => by kernel_rfl
  have h10 : ∀ W, (Instr.index 9 (.string ⟨#[48, 49, 50, 51, 52, 53, 54, 55, 56, 57, 97, 98, 99, 100, 101, 102]⟩) (.int .u8 ((10 : Nat) : Int))).run Tryz.prog W = .ok (.int .u8 97) W := fun _ => by kernel_rfl
  have h11 : ∀ W, (Instr.index 9 (.string ⟨#[48, 49, 50, 51, 52, 53, 54, 55, 56, 57, 97, 98, 99, 100, 101, 102]⟩) (.int .u8 ((11 : Nat) : Int))).run Tryz.prog W = .ok (.int .u8 98) W := fun _ => by kernel_rfl
  have h12 : ∀ W, (Instr.index 9 (.string ⟨#[48, 49, 50, 51, 52, 53, 54, 55, 56, 57, 97, 98, 99, 100, 101, 102]⟩) (.int .u8 ((12 : Nat) : Int))).run Tryz.prog W = .ok (.int .u8 99) W := fun _ => by kernel_rfl
  have h13 : ∀ W, (Instr.index 9 (.string ⟨#[48, 49, 50, 51, 52, 53, 54, 55, 56, 57, 97, 98, 99, 100, 101, 102]⟩) (.int .u8 ((13 : Nat) : Int))).run Tryz.prog W = .ok (.int .u8 100) W := fun _ => by kernel_rfl
  have h14 : ∀ W, (Instr.index 9 (.string ⟨#[48, 49, 50, 51, 52, 53, 54, 55, 56, 57, 97, 98, 99, 100, 101, 102]⟩) (.int .u8 ((14 : Nat) : Int))).run Tryz.prog W = .ok (.int .u8 101) W := fun _ => by kernel_rfl
  have h15 : ∀ W, (Instr.index 9 (.string ⟨#[48, 49, 50, 51, 52, 53, 54, 55, 56, 57, 97, 98, 99, 100, 101, 102]⟩) (.int .u8 ((15 : Nat) : Int))).run Tryz.prog W = .ok (.int .u8 102) W := fun _ => by kernel_rfl
  intro W
  rw [hx_val q hq]
  match q, hq with
  | 0, _ => exact h0 W
  | 1, _ => exact h1 W
  | 2, _ => exact h2 W
  | 3, _ => exact h3 W
  | 4, _ => exact h4 W
  | 5, _ => exact h5 W
  | 6, _ => exact h6 W
  | 7, _ => exact h7 W
  | 8, _ => exact h8 W
  | 9, _ => exact h9 W
  | 10, _ => exact h10 W
  | 11, _ => exact h11 W
  | 12, _ => exact h12 W
  | 13, _ => exact h13 W
  | 14, _ => exact h14 W
  | 15, _ => exact h15 W
  | q + 16, hq => omega
set_option maxHeartbeats 4000000 in
set_option maxRecDepth 100000 in
theorem refQuote_any (l : Bytes) (w : World) (hl : l.length ≤ 1099511627776) :
    Calls Tryz.prog 60 #[.string (S l)] w fun e w' => e = .returned (.tuple #[.string (S (quoteB l)), .int .i64 (quoteE l)]) ∧ Below w.heap.size w w' := by
  have hv := fun W => refValid10_any l W (by omega)
  unfold quoteB quoteE
  cases hvd : utf8J l with
  | false =>
    rw [hvd] at hv
    have HV := Lib.hid hv
    clear hv hvd
    go_enter Tryz.func60, Tryz.ntmps60
    go_wp2_with (go_at_call 75; refine (HV.out _).mono ?_; rintro e w1 ⟨rfl, hb1⟩)
    go_ret2
    exact ⟨rfl, hb1⟩
  | true =>
    rw [hvd] at hv
    have HV := Lib.hid hv
    clear hv hvd
    simp only [if_true]
    go_enter Tryz.func60, Tryz.ntmps60
    go_wp2_with (go_at_call 75; refine (HV.out _).mono ?_; rintro e w1 ⟨rfl, hb1⟩)
    have HB1 := Lib.hid hb1
    have hz1 := hb1.size
    have HN := Lib.hid (own_new w1 w1.heap.size (Nat.le_refl _) 34)
    clear hb1
    go_loopw [4, 5] (fun v4 i5 wr => ∃ i : Nat, i ≤ l.length ∧ i5 = .int .i64 i ∧ Own w1.heap.size v4 (34 :: (l.take i).flatMap escJ) wr ∧ Below w1.heap.size w1 wr) (fun _ i5 _ => l.length - (intOf i5).toNat)
    case atStart => exact ⟨0, Nat.zero_le _, rfl, by simpa using HN.out, (Below.refl _ _).alloc (Nat.le_refl _) _⟩
    case round =>
      obtain ⟨i, hil, rfl, hown, hb⟩ := hrel
      have HO := Lib.hid hown
      have HB := Lib.hid hb
      have hsz := hb.size
      clear hown hb HN
      have hqf := qb_len (l.take i)
      by_cases hlt : i < l.length
      · have hil' : (i : Int) < l.length := by omega
        have hst := qb_take hlt
        have hlen : (34 :: (l.take i).flatMap escJ).length + 10 ≤ 140737488355328 := by
          simp only [List.length_cons, List.length_take] at hqf ⊢; omega
        have hst2 : 34 :: (l.take (i + 1)).flatMap escJ = (34 :: (l.take i).flatMap escJ) ++ escJ l[i] := by rw [hst]; rfl
        have HST := Lib.hid hst2
        clear hst hst2 hqf
        generalize (34 :: (l.take i).flatMap escJ) = A at *
        have hc := fun W => letter10_any l[i] W
        have HC := Lib.hid hc
        clear hc
        go_wp2_with fail
        generalize l[i] = c at *
        refine (HC.out _).mono ?_
        rintro e wq ⟨rfl, rfl⟩
        by_cases hL : letterR c = 0
        · have he := letter_low hL
          have t1 : (((letterR c).toNat : Int) == 0) = true := by rw [hL]; rfl
          by_cases h32 : c < 32
          · rw [if_pos h32] at he
            have hlt32 : (c.toNat : Int) < 32 := by
              rw [UInt8.lt_iff_toNat_lt] at h32
              have e : (32 : UInt8).toNat = 32 := rfl
              omega
            have HE := Lib.hid he
            clear he h32 hL
            have e1 : UInt8.ofNat (c.toNat / 16) = c / 16 := by apply UInt8.toNat_inj.1; simp; omega
            have e2 : UInt8.ofNat (c.toNat % 16) = c % 16 := by apply UInt8.toNat_inj.1; simp; omega
            have q1 : ∀ W : World, (Instr.index 9 (.string ⟨#[48, 49, 50, 51, 52, 53, 54, 55, 56, 57, 97, 98, 99, 100, 101, 102]⟩) (.int .u8 ((c.toNat : Int) / 16))).run Tryz.prog W = .ok (.int .u8 ((hxJ (c / 16)).toNat : Int)) W := fun W => by
              have := hex_at (c.toNat / 16) (by omega) W
              rw [e1, Int.natCast_ediv] at this
              exact this
            have q2 : ∀ W : World, (Instr.index 9 (.string ⟨#[48, 49, 50, 51, 52, 53, 54, 55, 56, 57, 97, 98, 99, 100, 101, 102]⟩) (.int .u8 ((c.toNat : Int) % 16))).run Tryz.prog W = .ok (.int .u8 ((hxJ (c % 16)).toNat : Int)) W := fun W => by
              have := hex_at (c.toNat % 16) (by omega) W
              rw [e2, Int.natCast_emod] at this
              exact this
            have w1' : IntKind.u8.wrap ((c.toNat : Int) / 16) = (c.toNat : Int) / 16 := by rw [IntKind.wrap_u8]; omega
            have w2' : IntKind.u8.wrap ((c.toNat : Int) % 16) = (c.toNat : Int) % 16 := by rw [IntKind.wrap_u8]; omega
            have m1' : (c.toNat : Int).tmod 16 = (c.toNat : Int) % 16 := Int.tmod_eq_emod_of_nonneg (by omega)
            have m2' : (c.toNat : Int).tdiv 16 = (c.toNat : Int) / 16 := Int.tdiv_eq_ediv_of_nonneg (by omega)
            clear e1 e2
            generalize hxJ (c / 16) = x at *
            generalize hxJ (c % 16) = y at *
            go_wp2_with fail
            go_region_held3 (fun _ => True) (exact trivial)
              (first
                | ((refine own_append_list_step (by rfl) _ _ (by rfl) _ w1.heap.size u4 A [92, 117, 48, 48, x, y] #[.int .u8 92, .int .u8 117, .int .u8 48, .int .u8 48, .int .u8 x.toNat, .int .u8 y.toNat] 6 rfl rfl (by decide) (by rfl) (show Own w1.heap.size u4 A wq.drew from HO.out) _ rfl (by rfl) hlen hsz ?_; intro v' w' hown' hb')))
            all_goals go_wp2_with fail
            all_goals exact ⟨⟨i + 1, by omega, by go_num, by rw [HST.out, HE.out]; exact hown', HB.out.drew.trans hb'⟩, by simp [intOf]; omega⟩
          · rw [if_neg h32] at he
            have hge32 : ¬ (c.toNat : Int) < 32 := by
              rw [UInt8.lt_iff_toNat_lt] at h32
              have e : (32 : UInt8).toNat = 32 := rfl
              omega
            have HE := Lib.hid he
            clear he h32 hL
            go_wp2_with (first
              | (go_at_call 76; refine (HC.out _).mono ?_; rintro e w' ⟨rfl, rfl⟩)
              | (at_builtin; refine own_append_list rfl _ _ rfl _ w1.heap.size u4 A [c] #[.int .u8 c.toNat] 1 rfl rfl (by decide) rfl HO.out _ rfl rfl hlen hsz ?_; intro v' w' hown' hb'))
            go_roundw
            case rel => exact ⟨i + 1, by omega, by go_num, by rw [HST.out, HE.out]; exact hown', HB.out.trans hb'⟩
            case measure => simp [intOf]; omega
        · have he := letter_esc hL
          have t1 : (((letterR c).toNat : Int) == 0) = false := by
            rw [beq_eq_false_iff_ne]
            intro e
            exact hL (UInt8.toNat_inj.1 (by have : (0 : UInt8).toNat = 0 := rfl; omega))
          have HE := Lib.hid he
          clear he hL
          generalize letterR c = x at *
          go_wp2_with (first
            | (go_at_call 76; refine (HC.out _).mono ?_; rintro e w' ⟨rfl, rfl⟩)
            | (at_builtin; refine own_append_list rfl _ _ rfl _ w1.heap.size u4 A [92, x] #[.int .u8 92, .int .u8 x.toNat] 2 rfl rfl (by decide) rfl HO.out _ rfl rfl hlen hsz ?_; intro v' w' hown' hb'))
          go_roundw
          case rel => exact ⟨i + 1, by omega, by go_num, by rw [HST.out, HE.out]; exact hown', HB.out.trans hb'⟩
          case measure => simp [intOf]; omega
      · obtain rfl : i = l.length := by omega
        rw [List.take_length] at HO
        have hlen : (34 :: l.flatMap escJ).length + 10 ≤ 140737488355328 := by
          rw [List.take_length] at hqf
          simp only [List.length_cons] at hqf ⊢; omega
        have hjq : jq l = (34 :: l.flatMap escJ) ++ [34] := rfl
        have HJ := Lib.hid hjq
        clear hjq hqf
        generalize (34 :: l.flatMap escJ) = A at *
        go_wp2_with (at_builtin; refine own_append_list rfl _ _ rfl _ w1.heap.size u4 A [34] #[.int .u8 34] 1 rfl rfl (by decide) rfl HO.out _ rfl rfl hlen hsz ?_; intro v' w' hown' hb'; have hcv := own_string hown')
        go_ret2
        exact ⟨by rw [HJ.out]; rfl, HB1.out.trans ((HB.out.trans hb').mono hz1)⟩
end Go.Proofs.YtadkgjbidhfefaaGreatDoor
