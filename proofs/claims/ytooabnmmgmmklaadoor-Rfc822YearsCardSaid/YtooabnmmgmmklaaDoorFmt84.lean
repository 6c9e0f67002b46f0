/-
  Walks of chapter 4: Format (program and reference).
-/
import Derived.Test.YtooabnmmgmmklaaDoorFmtP4
import Derived.Test.YtooabnmmgmmklaaDoorParR4
import Derived.Deep.QuietTactic
set_option linter.unusedVariables false
namespace Go.Proofs.YtooabnmmgmmklaaDoor
open Go.RowKit

theorem wday_nat {N : Int} : ∃ k : Nat, k < 7 ∧ wday N = (k : Int) := ⟨(wday N).toNat, by unfold wday; omega, by unfold wday; omega⟩
theorem day_cell {w : World} (hT : Tab4 w) {k : Nat} (hk : k < 7) : ∃ x, dayTab[k]? = some x ∧ w.cell? ⟨0, k, none⟩ = some (.string (S x)) := by
  obtain ⟨t, fr, h⟩ := hT.days
  have key : ∀ i, i < 7 → ∃ x, dayTab[i]? = some x ∧ dayCells[i]? = some (.string (S x)) := by
    intro i hi
    match i, hi with
    | 0, _ => exact ⟨_, rfl, rfl⟩
    | 1, _ => exact ⟨_, rfl, rfl⟩
    | 2, _ => exact ⟨_, rfl, rfl⟩
    | 3, _ => exact ⟨_, rfl, rfl⟩
    | 4, _ => exact ⟨_, rfl, rfl⟩
    | 5, _ => exact ⟨_, rfl, rfl⟩
    | 6, _ => exact ⟨_, rfl, rfl⟩
  obtain ⟨x, h1, h2⟩ := key k hk
  exact ⟨x, h1, by rw [cell_block h]; exact h2⟩
theorem mon_cell {w : World} (hT : Tab4 w) {k : Nat} (hk : k < 12) : ∃ x, monTab[k]? = some x ∧ w.cell? ⟨1, k, none⟩ = some (.string (S x)) := by
  obtain ⟨t, fr, h⟩ := hT.mons
  have key : ∀ i, i < 12 → ∃ x, monTab[i]? = some x ∧ monCells[i]? = some (.string (S x)) := by
    intro i hi
    match i, hi with
    | 0, _ => exact ⟨_, rfl, rfl⟩
    | 1, _ => exact ⟨_, rfl, rfl⟩
    | 2, _ => exact ⟨_, rfl, rfl⟩
    | 3, _ => exact ⟨_, rfl, rfl⟩
    | 4, _ => exact ⟨_, rfl, rfl⟩
    | 5, _ => exact ⟨_, rfl, rfl⟩
    | 6, _ => exact ⟨_, rfl, rfl⟩
    | 7, _ => exact ⟨_, rfl, rfl⟩
    | 8, _ => exact ⟨_, rfl, rfl⟩
    | 9, _ => exact ⟨_, rfl, rfl⟩
    | 10, _ => exact ⟨_, rfl, rfl⟩
    | 11, _ => exact ⟨_, rfl, rfl⟩
  obtain ⟨x, h1, h2⟩ := key k hk
  exact ⟨x, h1, by rw [cell_block h]; exact h2⟩
theorem tab_shape : (∀ x ∈ dayTab, x.length = 3 ∧ 97 ≤ (x.getD 0 0).toNat) ∧ (∀ x ∈ monTab, x.length = 3 ∧ 97 ≤ (x.getD 0 0).toNat) := by decide
theorem titleC_any {x : Bytes} (h3 : x.length = 3) (h0 : 97 ≤ (x.getD 0 0).toNat) (w : World) : Calls Tryd.prog 22 #[.string (S x)] w fun e w' => e = .returned (.string (S (titleS x))) ∧ Below w.heap.size w w' := by
  match x, h3, h0 with
  | [a, b, c], _, h0 => exact title_any a b c (by have : ([a, b, c] : Bytes).getD 0 0 = a := rfl; rw [this] at h0; omega) w
theorem titleS_len (x : Bytes) : (titleS x).length = x.length := by cases x <;> rfl
set_option maxHeartbeats 8000000 in
set_option maxRecDepth 100000 in
theorem format8_any {t : Int} {y m d s : Nat} (h : TimeOf t y m d s) (w : World) (hT : Tab4 w) :
    Calls Tryd.prog 9 #[.int .i64 t] w fun e w' => e = .returned (.tuple #[.string (S (f82 (wday (dayNo y m d)).toNat y m d s)), .int .i64 0]) ∧ Below w.heap.size w w' := by
  have hr := h.range
  have hp := h.parts
  have hs := h.sec
  have ht := h.eq
  have hdn := dayNo_in h.date
  have hf := format3_any h w hT
  have hsp := day_split (dayNo y m d) s hs
  rw [← ht] at hsp
  have hwk := fun W => weekday_any (dayNo y m d) W
  rw [if_neg (by omega), if_neg (by omega)] at hwk
  obtain ⟨k, hk, hkw⟩ := wday_nat (N := dayNo y m d)
  rw [hkw] at hwk ⊢
  rw [Int.toNat_natCast]
  obtain ⟨xd, hxd1, hxd2⟩ := day_cell hT hk
  obtain ⟨j, hj⟩ : ∃ j, m = j + 1 := ⟨m - 1, by omega⟩
  obtain ⟨xm, hxm1, hxm2⟩ := mon_cell hT (k := j) (by omega)
  have sd := tab_shape.1 xd (List.mem_of_getElem? hxd1)
  have sm := tab_shape.2 xm (List.mem_of_getElem? hxm1)
  have td := fun W => titleC_any sd.1 sd.2 W
  have tm := fun W => titleC_any sm.1 sm.2 W
  have ld : (titleS xd).length ≤ 3 := by rw [titleS_len, sd.1]; exact Nat.le_refl _
  have lm : (titleS xm).length ≤ 3 := by rw [titleS_len, sm.1]; exact Nat.le_refl _
  obtain ⟨g1, g2, g3, g4⟩ := f33_parts y m d s
  have hlen := f33_len y m d s
  have hnum : ∀ W, Calls Tryd.prog 21 #[.string (S (((f33 y m d s).drop 5).take 2)), .int .i64 2, .int .i64 2] W fun e w' => e = .returned (.tuple #[.int .i64 ((j : Int) + 1), .bool true]) ∧ Below W.heap.size W w' := fun W => by
    have := number_any (((f33 y m d s).drop 5).take 2) 2 2 (by decide) (by decide) W (by rw [List.length_take]; omega)
    rw [g2, (num_d2 (n := m) (by omega)).1] at this
    rw [g2]
    refine this.mono ?_
    rintro e w' ⟨rfl, hb⟩
    exact ⟨by rw [show numV (some m) = (m : Int) from rfl, hj]; rfl, hb⟩
  obtain ⟨R, hR⟩ : ∃ R, f82 k y m d s = R := ⟨_, rfl⟩
  rw [hR]
  have hx : titleS xd ++ [44, 32] ++ ((f33 y m d s).drop 8).take 2 ++ [32] ++ titleS xm ++ [32] ++ (f33 y m d s).take 4 ++ [32] ++ ((f33 y m d s).drop 11).take 8 ++ [32, 71, 77, 84] = R := by
    rw [← hR, g1, g3, g4]
    unfold f82
    have e1 : dayTab.getD k [] = xd := by simp [hxd1]
    have e2 : monTab.getD (m - 1) [] = xm := by rw [hj, Nat.add_sub_cancel]; simp [hxm1]
    rw [e1, e2]
  clear g1 g2 g3 g4
  generalize f33 y m d s = X at *
  generalize titleS xd = TD at *
  generalize titleS xm = TM at *
  have k1 : ((X.drop 8).take 2).length ≤ 10 := by rw [List.length_take]; omega
  have k2 : (X.take 4).length ≤ 10 := by rw [List.length_take]; omega
  have k3 : ((X.drop 11).take 8).length ≤ 10 := by rw [List.length_take]; omega
  obtain ⟨L1, hL1⟩ : ∃ L, TD ++ [44, 32] = L := ⟨_, rfl⟩
  have n1 : L1.length ≤ 13 := by rw [← hL1, List.length_append]; (try simp only [List.length_cons, List.length_nil]); omega
  have q1 : ∀ W : World, (Op.stringOp .add (S TD) ⟨#[44, 32]⟩).run Tryd.prog W = .ok (.string (S L1)) W := catS4 _ [44, 32] _ hL1.symm (by (try simp only [List.length_cons, List.length_nil]); omega)
  obtain ⟨L2, hL2⟩ : ∃ L, L1 ++ ((X.drop 8).take 2) = L := ⟨_, rfl⟩
  have n2 : L2.length ≤ 23 := by rw [← hL2, List.length_append]; (try simp only [List.length_cons, List.length_nil]); omega
  have q2 : ∀ W : World, (Op.stringOp .add (S L1) (S ((X.drop 8).take 2))).run Tryd.prog W = .ok (.string (S L2)) W := catS4 _ _ _ hL2.symm (by (try simp only [List.length_cons, List.length_nil]); omega)
  obtain ⟨L3, hL3⟩ : ∃ L, L2 ++ [32] = L := ⟨_, rfl⟩
  have n3 : L3.length ≤ 33 := by rw [← hL3, List.length_append]; (try simp only [List.length_cons, List.length_nil]); omega
  have q3 : ∀ W : World, (Op.stringOp .add (S L2) ⟨#[32]⟩).run Tryd.prog W = .ok (.string (S L3)) W := catS4 _ [32] _ hL3.symm (by (try simp only [List.length_cons, List.length_nil]); omega)
  obtain ⟨L4, hL4⟩ : ∃ L, L3 ++ TM = L := ⟨_, rfl⟩
  have n4 : L4.length ≤ 43 := by rw [← hL4, List.length_append]; (try simp only [List.length_cons, List.length_nil]); omega
  have q4 : ∀ W : World, (Op.stringOp .add (S L3) (S TM)).run Tryd.prog W = .ok (.string (S L4)) W := catS4 _ _ _ hL4.symm (by (try simp only [List.length_cons, List.length_nil]); omega)
  obtain ⟨L5, hL5⟩ : ∃ L, L4 ++ [32] = L := ⟨_, rfl⟩
  have n5 : L5.length ≤ 53 := by rw [← hL5, List.length_append]; (try simp only [List.length_cons, List.length_nil]); omega
  have q5 : ∀ W : World, (Op.stringOp .add (S L4) ⟨#[32]⟩).run Tryd.prog W = .ok (.string (S L5)) W := catS4 _ [32] _ hL5.symm (by (try simp only [List.length_cons, List.length_nil]); omega)
  obtain ⟨L6, hL6⟩ : ∃ L, L5 ++ (X.take 4) = L := ⟨_, rfl⟩
  have n6 : L6.length ≤ 63 := by rw [← hL6, List.length_append]; (try simp only [List.length_cons, List.length_nil]); omega
  have q6 : ∀ W : World, (Op.stringOp .add (S L5) (S (X.take 4))).run Tryd.prog W = .ok (.string (S L6)) W := catS4 _ _ _ hL6.symm (by (try simp only [List.length_cons, List.length_nil]); omega)
  obtain ⟨L7, hL7⟩ : ∃ L, L6 ++ [32] = L := ⟨_, rfl⟩
  have n7 : L7.length ≤ 73 := by rw [← hL7, List.length_append]; (try simp only [List.length_cons, List.length_nil]); omega
  have q7 : ∀ W : World, (Op.stringOp .add (S L6) ⟨#[32]⟩).run Tryd.prog W = .ok (.string (S L7)) W := catS4 _ [32] _ hL7.symm (by (try simp only [List.length_cons, List.length_nil]); omega)
  obtain ⟨L8, hL8⟩ : ∃ L, L7 ++ ((X.drop 11).take 8) = L := ⟨_, rfl⟩
  have n8 : L8.length ≤ 83 := by rw [← hL8, List.length_append]; (try simp only [List.length_cons, List.length_nil]); omega
  have q8 : ∀ W : World, (Op.stringOp .add (S L7) (S ((X.drop 11).take 8))).run Tryd.prog W = .ok (.string (S L8)) W := catS4 _ _ _ hL8.symm (by (try simp only [List.length_cons, List.length_nil]); omega)
  obtain ⟨L9, hL9⟩ : ∃ L, L8 ++ [32, 71, 77, 84] = L := ⟨_, rfl⟩
  have n9 : L9.length ≤ 93 := by rw [← hL9, List.length_append]; (try simp only [List.length_cons, List.length_nil]); omega
  have q9 : ∀ W : World, (Op.stringOp .add (S L8) ⟨#[32, 71, 77, 84]⟩).run Tryd.prog W = .ok (.string (S L9)) W := catS4 _ [32, 71, 77, 84] _ hL9.symm (by (try simp only [List.length_cons, List.length_nil]); omega)
  rw [hL1, hL2, hL3, hL4, hL5, hL6, hL7, hL8, hL9] at hx
  clear hL1 n1 hL2 n2 hL3 n3 hL4 n4 hL5 n5 hL6 n6 hL7 n7 hL8 n8 hL9 n9 k1 k2 k3 ld lm
  have HX := Lib.hid hx
  have HF := Lib.hid hf
  have HWK := Lib.hid hwk
  have HNUM := Lib.hid hnum
  have HTD := Lib.hid td
  have HTM := Lib.hid tm
  have lt1 := lt_of_cell4 hxd2
  have lt2 := lt_of_cell4 hxm2
  have HC1 := Lib.hid hxd2
  have HC2 := Lib.hid hxm2
  generalize dayNo y m d = N at *
  obtain ⟨d1, d2⟩ := hdn
  have hj12 : j < 12 := by omega
  have hk' : (k : Int) < 7 := by omega
  have hj' : (j : Int) < 12 := by omega
  have hwj : IntKind.i64.wrap (j : Int) = j := wrap_in (by omega) (by omega)
  clear hx hf hwk hnum td tm hxd1 hxm1 sd sm hR hp hkw hxd2 hxm2 ht h hj hr
  rcases hsp with ⟨p1, p2⟩ | ⟨p1, p2, p3⟩
  all_goals
    go_enter Tryd.func9, Tryd.ntmps9
    go_upto_region 11 with (first
      | (go_at_call 19; refine HF.out.mono ?_; rintro e w1 ⟨rfl, b1⟩)
      | (go_at_call 20; refine (HWK.out _).mono ?_; rintro e w2 ⟨rfl, rfl⟩)
      | (go_at_call 21; refine (HNUM.out _).mono ?_; rintro e w2 ⟨rfl, b2⟩))
    have B2 := b1.trans (b2.mono b1.size)
    have c1 := (B2.cell (p := ⟨0, k, none⟩) lt1).trans HC1.out
    have c2 := (B2.cell (p := ⟨1, j, none⟩) lt2).trans HC2.out
    have z2 := B2.size
    clear b1 b2
    go_region_held3 (fun x => x.cell? ⟨0, k, none⟩ = some (.string (S xd)) ∧ x.cell? ⟨1, j, none⟩ = some (.string (S xm))) (first | exact ⟨e1, e2⟩ | exact ⟨r1, r2⟩ | exact ⟨c1, c2⟩)
      (first
        | ((go_at_call 22; (with_reducible refine (HTD.out _).mono ?_); rintro e w3 ⟨rfl, b3⟩; have r1 := (b3.cell (p := ⟨0, k, none⟩) (show 0 < w2.drew.heap.size by simp; omega)).trans c1; have r2 := (b3.cell (p := ⟨1, j, none⟩) (show 1 < w2.drew.heap.size by simp; omega)).trans c2))
        | ((go_at_call 22; (with_reducible refine (HTM.out _).mono ?_); rintro e w4 ⟨rfl, b4⟩; have z3 := b3.size; have e1 := (b4.cell (p := ⟨0, k, none⟩) (show 0 < w3.heap.size by simp at z3; omega)).trans r1; have e2 := (b4.cell (p := ⟨1, j, none⟩) (show 1 < w3.heap.size by simp at z3; omega)).trans r2)))
    have B4 := Lib.hid (B2.trans (((show Below w2.heap.size w2 w3 from below_undrew b3).trans (b4.mono (show w2.heap.size ≤ w3.heap.size from b3.size))).mono z2))
    go_wp2_with fail
    go_ret2
    exact ⟨ret_SI HX.out, B4.out⟩
set_option maxHeartbeats 1000000 in
theorem format8_out {t : Int} (h : t < -62135596800 ∨ 253402300799 < t) (h0 : -9223372036854775808 ≤ t) (h1 : t ≤ 9223372036854775807) (w : World) :
    Calls Tryd.prog 9 #[.int .i64 t] w fun e w' => e = .returned (.tuple #[.string (S []), .int .i64 3]) ∧ w = w' := by
  have HF := Lib.hid (format3_out h h0 h1 w)
  clear h
  go_enter Tryd.func9, Tryd.ntmps9
  go_wp2_with (go_at_call 19; refine HF.out.mono ?_; rintro e w1 ⟨rfl, rfl⟩)
  go_ret2
  exact ⟨rfl, rfl⟩
set_option maxHeartbeats 1000000 in
theorem refFormat8_out {t : Int} (h : t < -62135596800 ∨ 253402300799 < t) (w : World) :
    Calls Tryd.prog 10 #[.int .i64 t] w fun e w' => e = .returned (.tuple #[.string (S []), .int .i64 3]) ∧ w = w' := by
  have HF := Lib.hid (refFormat3_out h w)
  clear h
  go_enter Tryd.func10, Tryd.ntmps10
  go_wp2_with (go_at_call 23; refine HF.out.mono ?_; rintro e w1 ⟨rfl, rfl⟩)
  go_ret2
  exact ⟨rfl, rfl⟩
def daysB : ByteArray := ⟨#[83, 117, 110, 77, 111, 110, 84, 117, 101, 87, 101, 100, 84, 104, 117, 70, 114, 105, 83, 97, 116]⟩
set_option maxHeartbeats 8000000 in
set_option maxRecDepth 100000 in
theorem refFormat8_any {t : Int} {y m d s : Nat} (h : TimeOf t y m d s) (w : World) :
    Calls Tryd.prog 10 #[.int .i64 t] w fun e w' => e = .returned (.tuple #[.string (S (f82 (wday (dayNo y m d)).toNat y m d s)), .int .i64 0]) ∧ Below w.heap.size w w' := by
  have hr := h.range
  have hp := h.parts
  have hs := h.sec
  have ht := h.eq
  have hdn := dayNo_in h.date
  have hf := refFormat3_any h w
  obtain ⟨k, hk, hkw⟩ := wday_nat (N := dayNo y m d)
  have hwr := wday_ref (days := dayNo y m d) (by omega)
  rw [hkw] at hwr ⊢
  rw [Int.toNat_natCast]
  obtain ⟨j, hj⟩ : ∃ j, m = j + 1 := ⟨m - 1, by omega⟩
  have hq1 : (t + 62135596800).tdiv 86400 = dayNo y m d + 719162 := by rw [Int.tdiv_eq_ediv_of_nonneg (by omega)]; omega
  obtain ⟨g1, g2, g3, g4⟩ := f33_parts y m d s
  have hlen := f33_len y m d s
  have hdg : (d2 m).all isDig = true := by show (isDig (dg (m / 10)) && (isDig (dg m) && true)) = true; rw [isDig_dg, isDig_dg]; rfl
  have hv2 := (num_len (num_d2 (n := m) (by omega)).1).2.2.2
  have hnum : ∀ W, Calls Tryd.prog 24 #[.string (S (f33 y m d s)), .int .i64 5, .int .i64 2] W fun e w' => e = .returned (.int .i64 ((j : Int) + 1)) ∧ W = w' := fun W => by
    have := refNumber_any (f33 y m d s) 5 2 (by decide) (by decide) W (by omega)
    have e : numR (f33 y m d s) 5 2 = (j : Int) + 1 := by
      unfold numR
      rw [g2, if_pos ⟨by omega, hdg⟩, ← hv2, hj]; rfl
    rw [e] at this
    exact this
  have sdq : ∀ W : World, (Instr.slice 9 (.string ⟨#[83, 117, 110, 77, 111, 110, 84, 117, 101, 87, 101, 100, 84, 104, 117, 70, 114, 105, 83, 97, 116]⟩) (some (.int .i64 (3 * (k : Int)))) (some (.int .i64 (3 * (k : Int) + 3))) none).run Tryd.prog W = .ok (.string (S (dayN k))) W := fun W => by
    have := slice_S daysS (3 * k) (3 * k + 3) (by omega) (by have : daysS.length = 21 := rfl; omega) W
    rw [show 3 * k + 3 - 3 * k = 3 by omega, daysS_at hk] at this
    rw [show (3 * (k : Int)) = ((3 * k : Nat) : Int) by omega, show (((3 * k : Nat) : Int) + 3) = ((3 * k + 3 : Nat) : Int) by omega]
    exact this
  have smq : ∀ W : World, (Instr.slice 9 (.string ⟨#[74, 97, 110, 70, 101, 98, 77, 97, 114, 65, 112, 114, 77, 97, 121, 74, 117, 110, 74, 117, 108, 65, 117, 103, 83, 101, 112, 79, 99, 116, 78, 111, 118, 68, 101, 99]⟩) (some (.int .i64 (3 * (j : Int)))) (some (.int .i64 (3 * (j : Int) + 3))) none).run Tryd.prog W = .ok (.string (S (monN m))) W := fun W => by
    have := slice_S monsS (3 * j) (3 * j + 3) (by omega) (by have : monsS.length = 36 := rfl; omega) W
    have hm := monsS_at (m := m) (by omega) (by omega)
    rw [show m - 1 = j by omega] at hm
    rw [show 3 * j + 3 - 3 * j = 3 by omega, hm] at this
    rw [show (3 * (j : Int)) = ((3 * j : Nat) : Int) by omega, show (((3 * j : Nat) : Int) + 3) = ((3 * j + 3 : Nat) : Int) by omega]
    exact this
  have ld : (dayN k).length ≤ 3 := by unfold dayN; rw [titleS_len]; have key : ∀ i : Fin 7, (dayTab.getD i.1 []).length ≤ 3 := by decide
                                      exact key ⟨k, hk⟩
  have lm : (monN m).length ≤ 3 := by unfold monN; rw [titleS_len]; have key : ∀ i : Fin 12, (monTab.getD i.1 []).length ≤ 3 := by decide
                                      exact key ⟨m - 1, by omega⟩
  obtain ⟨R, hR⟩ : ∃ R, f82 k y m d s = R := ⟨_, rfl⟩
  rw [hR]
  have hx : dayN k ++ [44, 32] ++ ((f33 y m d s).drop 8).take 2 ++ [32] ++ monN m ++ [32] ++ (f33 y m d s).take 4 ++ [32] ++ ((f33 y m d s).drop 11).take 8 ++ [32, 71, 77, 84] = R := by
    rw [← hR, g1, g3, g4]
    rfl
  clear g1 g2 g3 g4 hdg hv2
  generalize f33 y m d s = X at *
  generalize dayN k = TD at *
  generalize monN m = TM at *
  have k1 : ((X.drop 8).take 2).length ≤ 10 := by rw [List.length_take]; omega
  have k2 : (X.take 4).length ≤ 10 := by rw [List.length_take]; omega
  have k3 : ((X.drop 11).take 8).length ≤ 10 := by rw [List.length_take]; omega
  obtain ⟨L1, hL1⟩ : ∃ L, TD ++ [44, 32] = L := ⟨_, rfl⟩
  have n1 : L1.length ≤ 13 := by rw [← hL1, List.length_append]; (try simp only [List.length_cons, List.length_nil]); omega
  have q1 : ∀ W : World, (Op.stringOp .add (S TD) ⟨#[44, 32]⟩).run Tryd.prog W = .ok (.string (S L1)) W := catS4 _ [44, 32] _ hL1.symm (by (try simp only [List.length_cons, List.length_nil]); omega)
  obtain ⟨L2, hL2⟩ : ∃ L, L1 ++ ((X.drop 8).take 2) = L := ⟨_, rfl⟩
  have n2 : L2.length ≤ 23 := by rw [← hL2, List.length_append]; (try simp only [List.length_cons, List.length_nil]); omega
  have q2 : ∀ W : World, (Op.stringOp .add (S L1) (S ((X.drop 8).take 2))).run Tryd.prog W = .ok (.string (S L2)) W := catS4 _ _ _ hL2.symm (by (try simp only [List.length_cons, List.length_nil]); omega)
  obtain ⟨L3, hL3⟩ : ∃ L, L2 ++ [32] = L := ⟨_, rfl⟩
  have n3 : L3.length ≤ 33 := by rw [← hL3, List.length_append]; (try simp only [List.length_cons, List.length_nil]); omega
  have q3 : ∀ W : World, (Op.stringOp .add (S L2) ⟨#[32]⟩).run Tryd.prog W = .ok (.string (S L3)) W := catS4 _ [32] _ hL3.symm (by (try simp only [List.length_cons, List.length_nil]); omega)
  obtain ⟨L4, hL4⟩ : ∃ L, L3 ++ TM = L := ⟨_, rfl⟩
  have n4 : L4.length ≤ 43 := by rw [← hL4, List.length_append]; (try simp only [List.length_cons, List.length_nil]); omega
  have q4 : ∀ W : World, (Op.stringOp .add (S L3) (S TM)).run Tryd.prog W = .ok (.string (S L4)) W := catS4 _ _ _ hL4.symm (by (try simp only [List.length_cons, List.length_nil]); omega)
  obtain ⟨L5, hL5⟩ : ∃ L, L4 ++ [32] = L := ⟨_, rfl⟩
  have n5 : L5.length ≤ 53 := by rw [← hL5, List.length_append]; (try simp only [List.length_cons, List.length_nil]); omega
  have q5 : ∀ W : World, (Op.stringOp .add (S L4) ⟨#[32]⟩).run Tryd.prog W = .ok (.string (S L5)) W := catS4 _ [32] _ hL5.symm (by (try simp only [List.length_cons, List.length_nil]); omega)
  obtain ⟨L6, hL6⟩ : ∃ L, L5 ++ (X.take 4) = L := ⟨_, rfl⟩
  have n6 : L6.length ≤ 63 := by rw [← hL6, List.length_append]; (try simp only [List.length_cons, List.length_nil]); omega
  have q6 : ∀ W : World, (Op.stringOp .add (S L5) (S (X.take 4))).run Tryd.prog W = .ok (.string (S L6)) W := catS4 _ _ _ hL6.symm (by (try simp only [List.length_cons, List.length_nil]); omega)
  obtain ⟨L7, hL7⟩ : ∃ L, L6 ++ [32] = L := ⟨_, rfl⟩
  have n7 : L7.length ≤ 73 := by rw [← hL7, List.length_append]; (try simp only [List.length_cons, List.length_nil]); omega
  have q7 : ∀ W : World, (Op.stringOp .add (S L6) ⟨#[32]⟩).run Tryd.prog W = .ok (.string (S L7)) W := catS4 _ [32] _ hL7.symm (by (try simp only [List.length_cons, List.length_nil]); omega)
  obtain ⟨L8, hL8⟩ : ∃ L, L7 ++ ((X.drop 11).take 8) = L := ⟨_, rfl⟩
  have n8 : L8.length ≤ 83 := by rw [← hL8, List.length_append]; (try simp only [List.length_cons, List.length_nil]); omega
  have q8 : ∀ W : World, (Op.stringOp .add (S L7) (S ((X.drop 11).take 8))).run Tryd.prog W = .ok (.string (S L8)) W := catS4 _ _ _ hL8.symm (by (try simp only [List.length_cons, List.length_nil]); omega)
  obtain ⟨L9, hL9⟩ : ∃ L, L8 ++ [32, 71, 77, 84] = L := ⟨_, rfl⟩
  have n9 : L9.length ≤ 93 := by rw [← hL9, List.length_append]; (try simp only [List.length_cons, List.length_nil]); omega
  have q9 : ∀ W : World, (Op.stringOp .add (S L8) ⟨#[32, 71, 77, 84]⟩).run Tryd.prog W = .ok (.string (S L9)) W := catS4 _ [32, 71, 77, 84] _ hL9.symm (by (try simp only [List.length_cons, List.length_nil]); omega)
  rw [hL1, hL2, hL3, hL4, hL5, hL6, hL7, hL8, hL9] at hx
  clear hL1 n1 hL2 n2 hL3 n3 hL4 n4 hL5 n5 hL6 n6 hL7 n7 hL8 n8 hL9 n9 k1 k2 k3 ld lm
  have HX := Lib.hid hx
  have HF := Lib.hid hf
  have HNUM := Lib.hid hnum
  generalize dayNo y m d = N at *
  obtain ⟨d1, d2⟩ := hdn
  obtain ⟨r1, r2⟩ := hr
  have hk' : (k : Int) < 7 := by omega
  have hj' : (j : Int) < 12 := by omega
  have w1 : IntKind.i64.wrap (3 * (k : Int)) = 3 * (k : Int) := wrap_in (by omega) (by omega)
  have w2' : IntKind.i64.wrap (3 * (k : Int) + 3) = 3 * (k : Int) + 3 := wrap_in (by omega) (by omega)
  have w3' : IntKind.i64.wrap (3 * (j : Int)) = 3 * (j : Int) := wrap_in (by omega) (by omega)
  have w4' : IntKind.i64.wrap (3 * (j : Int) + 3) = 3 * (j : Int) + 3 := wrap_in (by omega) (by omega)
  clear hx hf hnum hR hp hkw ht h hj
  go_enter Tryd.func10, Tryd.ntmps10
  go_upto_region 6 with (first
    | (go_at_call 23; refine HF.out.mono ?_; rintro e w1 ⟨rfl, b1⟩)
    | (go_at_call 24; refine (HNUM.out _).mono ?_; rintro e w2 ⟨rfl, rfl⟩))
  go_quiet (fail)
  go_wp2_with fail
  go_ret2
  exact ⟨ret_SI HX.out, below_drewN4' b1 _⟩
end Go.Proofs.YtooabnmmgmmklaaDoor
