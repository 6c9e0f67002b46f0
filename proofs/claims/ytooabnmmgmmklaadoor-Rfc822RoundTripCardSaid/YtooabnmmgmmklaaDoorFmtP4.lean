/-
  Walks of chapters 3 and 4: Format of rfc3339.
-/
import Derived.Test.YtooabnmmgmmklaaDoorPadP4
set_option linter.unusedVariables false
namespace Go.Proofs.YtooabnmmgmmklaaDoor
open Go.RowKit

theorem own_sliceN {B : Nat} {v : Value} {l : Bytes} {w : World} (h : Own B v l w) : ∃ A n c, v = .slice A n c := by
  obtain ⟨A, c, e⟩ := own_slice13 h
  exact ⟨A, _, c, e⟩
set_option maxHeartbeats 1000000 in
theorem dateOut_any (days : Int) (h : days < -719162 ∨ 2932896 < days) (w : World) :
    Calls Tryd.prog 48 #[.int .i64 days] w fun e w' => e = .returned (.tuple #[.int .i64 0, .int .i64 0, .int .i64 0, .int .i64 3]) ∧ w = w' := by
  have h' : days < -719162 ∨ (¬ days < -719162 ∧ 2932896 < days) := by omega
  clear h
  rcases h' with h1 | ⟨h1, h2⟩
  all_goals
    go_enter Tryd.func48, Tryd.ntmps48
    go_wp2_with fail
    (try simp only [Exit.inBlock, Exit.then])
    refine bodyPost_ret (results_tmp4 rfl _ _ _) rfl ?_
    exact ⟨rfl, rfl⟩
/-- How t's day and second come out of quo and rem. -/
theorem day_split (N : Int) (s : Nat) (hs : s < 86400) : ((N * 86400 + s).tdiv 86400 = N ∧ (N * 86400 + s).tmod 86400 = s) ∨ ((N * 86400 + s).tdiv 86400 = N + 1 ∧ (N * 86400 + s).tmod 86400 = (s : Int) - 86400 ∧ (s : Int) - 86400 < 0) := by
  by_cases h : 0 ≤ N * 86400 + s
  · left
    rw [Int.tdiv_eq_ediv_of_nonneg h, Int.tmod_eq_emod_of_nonneg h]; omega
  · by_cases h0 : s = 0
    · subst h0
      left
      have e : N * 86400 + ((0 : Nat) : Int) = -((-N) * 86400) := by omega
      rw [e, Int.neg_tdiv, Int.neg_tmod, Int.mul_tdiv_cancel _ (by decide), Int.mul_tmod_left]; omega
    · right
      have e : N * 86400 + (s : Int) = -((-N) * 86400 - s) := by omega
      rw [e, Int.neg_tdiv, Int.neg_tmod, Int.tdiv_eq_ediv_of_nonneg (by omega), Int.tmod_eq_emod_of_nonneg (by omega)]
      omega
set_option maxHeartbeats 8000000 in
set_option maxRecDepth 100000 in
theorem format3_any {t : Int} {y m d s : Nat} (h : TimeOf t y m d s) (w : World) (hT : Tab4 w) :
    Calls Tryd.prog 19 #[.int .i64 t] w fun e w' => e = .returned (.tuple #[.string (S (f33 y m d s)), .int .i64 0]) ∧ Below w.heap.size w w' := by
  have hr := h.range
  have hp := h.parts
  have hs := h.sec
  have ht := h.eq
  have hdt : ∀ W, Calls Tryd.prog 48 #[.int .i64 (dayNo y m d)] W fun e w' => e = .returned (.tuple #[.int .i64 (y : Int), .int .i64 (m : Int), .int .i64 (d : Int), .int .i64 0]) ∧ Below W.heap.size W w' := fun W => date_any _ _ _ _ h.date rfl W
  have hdn := dayNo_in h.date
  have pad := fun (n wd : Nat) (hn : n < 10 ^ wd) (h1 : 1 ≤ wd) (h2 : wd ≤ 4) (l : Bytes) (hl : l.length ≤ 1000) (v : Value) (W : World) (hb : Below w.heap.size w W) (hv : Own w.heap.size v l W) => pad_any n wd hn h1 h2 w v l W hT hb hv hl
  obtain ⟨R, hR⟩ : ∃ R, f33 y m d s = R := ⟨_, rfl⟩
  rw [hR]
  have hx : ((((((((((((dgs 4 y ++ [45]) ++ dgs 2 m) ++ [45]) ++ dgs 2 d) ++ [84]) ++ dgs 2 (s / 3600)) ++ [58]) ++ dgs 2 (s / 60 % 60)) ++ [58]) ++ dgs 2 (s % 60)) ++ [90])) = R := by
    rw [← hR, dgs_4, dgs_2, dgs_2, dgs_2, dgs_2, dgs_2]
    unfold f33 clk
    simp only [List.append_assoc]
  have l1 := Nat.le_of_eq (dgs_len 4 y)
  have l2 := Nat.le_of_eq (dgs_len 2 m)
  have l3 := Nat.le_of_eq (dgs_len 2 d)
  have l4 := Nat.le_of_eq (dgs_len 2 (s / 3600))
  have l5 := Nat.le_of_eq (dgs_len 2 (s / 60 % 60))
  have l6 := Nat.le_of_eq (dgs_len 2 (s % 60))
  have P1 := Lib.hid (show ∀ W, Below w.heap.size w W → Calls Tryd.prog 49 #[.slice none 0 0, .int .i64 (y : Int), .int .i64 4] W fun e w' => ∃ A k c, e = .returned (.slice A k c) ∧ Own w.heap.size (.slice A k c) (dgs 4 y) w' ∧ Below w.heap.size w w' from fun W hb => pad y 4 (by omega) (by decide) (by decide) [] (by decide) _ W hb (Own.nil _ _))
  have P2 := Lib.hid (show ∀ (l : Bytes) (hl : l.length ≤ 1000) (v : Value) (W : World), Below w.heap.size w W → Own w.heap.size v l W → Calls Tryd.prog 49 #[v, .int .i64 (m : Int), .int .i64 2] W fun e w' => ∃ A k c, e = .returned (.slice A k c) ∧ Own w.heap.size (.slice A k c) (l ++ dgs 2 m) w' ∧ Below w.heap.size w w' from fun l hl v W hb hv => pad m 2 (by omega) (by decide) (by decide) l hl v W hb hv)
  have P3 := Lib.hid (show ∀ (l : Bytes) (hl : l.length ≤ 1000) (v : Value) (W : World), Below w.heap.size w W → Own w.heap.size v l W → Calls Tryd.prog 49 #[v, .int .i64 (d : Int), .int .i64 2] W fun e w' => ∃ A k c, e = .returned (.slice A k c) ∧ Own w.heap.size (.slice A k c) (l ++ dgs 2 d) w' ∧ Below w.heap.size w w' from fun l hl v W hb hv => pad d 2 (by omega) (by decide) (by decide) l hl v W hb hv)
  have P4 := Lib.hid (show ∀ (l : Bytes) (hl : l.length ≤ 1000) (v : Value) (W : World), Below w.heap.size w W → Own w.heap.size v l W → Calls Tryd.prog 49 #[v, .int .i64 ((s / 3600 : Nat) : Int), .int .i64 2] W fun e w' => ∃ A k c, e = .returned (.slice A k c) ∧ Own w.heap.size (.slice A k c) (l ++ dgs 2 (s / 3600)) w' ∧ Below w.heap.size w w' from fun l hl v W hb hv => pad (s / 3600) 2 (by omega) (by decide) (by decide) l hl v W hb hv)
  have P5 := Lib.hid (show ∀ (l : Bytes) (hl : l.length ≤ 1000) (v : Value) (W : World), Below w.heap.size w W → Own w.heap.size v l W → Calls Tryd.prog 49 #[v, .int .i64 ((s / 60 % 60 : Nat) : Int), .int .i64 2] W fun e w' => ∃ A k c, e = .returned (.slice A k c) ∧ Own w.heap.size (.slice A k c) (l ++ dgs 2 (s / 60 % 60)) w' ∧ Below w.heap.size w w' from fun l hl v W hb hv => pad (s / 60 % 60) 2 (by omega) (by decide) (by decide) l hl v W hb hv)
  have P6 := Lib.hid (show ∀ (l : Bytes) (hl : l.length ≤ 1000) (v : Value) (W : World), Below w.heap.size w W → Own w.heap.size v l W → Calls Tryd.prog 49 #[v, .int .i64 ((s % 60 : Nat) : Int), .int .i64 2] W fun e w' => ∃ A k c, e = .returned (.slice A k c) ∧ Own w.heap.size (.slice A k c) (l ++ dgs 2 (s % 60)) w' ∧ Below w.heap.size w w' from fun l hl v W hb hv => pad (s % 60) 2 (by omega) (by decide) (by decide) l hl v W hb hv)
  have v3 : ((s : Int)).tdiv 3600 = ((s / 3600 : Nat) : Int) := by rw [Int.tdiv_eq_ediv_of_nonneg (by omega)]; omega
  have v4 : ((s : Int)).tdiv 60 = ((s / 60 : Nat) : Int) := by rw [Int.tdiv_eq_ediv_of_nonneg (by omega)]; omega
  have v5 : (((s / 60 : Nat) : Int)).tmod 60 = ((s / 60 % 60 : Nat) : Int) := by rw [Int.tmod_eq_emod_of_nonneg (by omega)]; omega
  have v6 : ((s : Int)).tmod 60 = ((s % 60 : Nat) : Int) := by rw [Int.tmod_eq_emod_of_nonneg (by omega)]; omega
  have u1 : s / 3600 < 24 := by omega
  have u2 : s / 60 % 60 < 60 := by omega
  have u3 : s / 60 < 1440 := by omega
  have u4 : s % 60 < 60 := by omega
  have hsp := day_split (dayNo y m d) s hs
  rw [← ht] at hsp
  clear ht
  generalize dgs 4 y = A1 at *
  generalize dgs 2 m = A2 at *
  generalize dgs 2 d = A3 at *
  generalize dgs 2 (s / 3600) = A4 at *
  generalize dgs 2 (s / 60 % 60) = A5 at *
  generalize dgs 2 (s % 60) = A6 at *
  generalize s / 3600 = s1 at *
  generalize s / 60 % 60 = s2 at *
  generalize s / 60 = s3 at *
  generalize s % 60 = s4 at *
  generalize hN : dayNo y m d = N at *
  have HX := Lib.hid hx
  have DT := Lib.hid hdt
  obtain ⟨r1, r2⟩ := hr
  obtain ⟨d1, d2⟩ := hdn
  clear hx hdt pad hR hN hp h
  rcases hsp with ⟨q1, q2⟩ | ⟨q1, q2, q3⟩
  all_goals
    go_enter Tryd.func19, Tryd.ntmps19
    go_wp2_with (first
      | (go_at_call 48; refine (DT.out _).mono ?_; rintro e w1 ⟨rfl, b0⟩)
      | (go_at_call 49; (with_reducible refine (P1.out _ b0).mono ?_); rintro e wa ⟨Aa, na, ca, rfl, oa, ba⟩; have za := ba.size)
      | (at_builtin; refine own_append_byte (c := 45) rfl _ _ rfl w.heap.size _ A1 rfl oa rfl (by (try simp only [List.length_append, List.length_cons, List.length_nil]); omega) za ?_; intro va wa' oa' ba'; obtain ⟨Aa', na', ca', rfl⟩ := own_sliceN oa'; have ba2 := ba.trans ba'; have za2 := ba2.size; clear oa ba ba' za)
      | (go_at_call 49; (with_reducible refine (P2.out (A1 ++ [45]) (by (try simp only [List.length_append, List.length_cons, List.length_nil]); omega) _ _ ba2 oa').mono ?_); rintro e wb ⟨Ab, nb, cb, rfl, ob, bb⟩; have zb := bb.size; clear oa' ba2 za2)
      | (at_builtin; refine own_append_byte (c := 45) rfl _ _ rfl w.heap.size _ ((A1 ++ [45]) ++ A2) rfl ob rfl (by (try simp only [List.length_append, List.length_cons, List.length_nil]); omega) zb ?_; intro vb wb' ob' bb'; obtain ⟨Ab', nb', cb', rfl⟩ := own_sliceN ob'; have bb2 := bb.trans bb'; have zb2 := bb2.size; clear ob bb bb' zb)
      | (go_at_call 49; (with_reducible refine (P3.out (((A1 ++ [45]) ++ A2) ++ [45]) (by (try simp only [List.length_append, List.length_cons, List.length_nil]); omega) _ _ bb2 ob').mono ?_); rintro e wc ⟨Ac, nc, cc, rfl, oc, bc⟩; have zc := bc.size; clear ob' bb2 zb2)
      | (at_builtin; refine own_append_byte (c := 84) rfl _ _ rfl w.heap.size _ ((((A1 ++ [45]) ++ A2) ++ [45]) ++ A3) rfl oc rfl (by (try simp only [List.length_append, List.length_cons, List.length_nil]); omega) zc ?_; intro vc wc' oc' bc'; obtain ⟨Ac', nc', cc', rfl⟩ := own_sliceN oc'; have bc2 := bc.trans bc'; have zc2 := bc2.size; clear oc bc bc' zc)
      | (go_at_call 49; (with_reducible refine (P4.out (((((A1 ++ [45]) ++ A2) ++ [45]) ++ A3) ++ [84]) (by (try simp only [List.length_append, List.length_cons, List.length_nil]); omega) _ _ bc2 oc').mono ?_); rintro e wd ⟨Ad, nd, cd, rfl, od, bd⟩; have zd := bd.size; clear oc' bc2 zc2)
      | (at_builtin; refine own_append_byte (c := 58) rfl _ _ rfl w.heap.size _ ((((((A1 ++ [45]) ++ A2) ++ [45]) ++ A3) ++ [84]) ++ A4) rfl od rfl (by (try simp only [List.length_append, List.length_cons, List.length_nil]); omega) zd ?_; intro vd wd' od' bd'; obtain ⟨Ad', nd', cd', rfl⟩ := own_sliceN od'; have bd2 := bd.trans bd'; have zd2 := bd2.size; clear od bd bd' zd)
      | (go_at_call 49; (with_reducible refine (P5.out (((((((A1 ++ [45]) ++ A2) ++ [45]) ++ A3) ++ [84]) ++ A4) ++ [58]) (by (try simp only [List.length_append, List.length_cons, List.length_nil]); omega) _ _ bd2 od').mono ?_); rintro e we ⟨Ae, ne, ce, rfl, oe, be⟩; have ze := be.size; clear od' bd2 zd2)
      | (at_builtin; refine own_append_byte (c := 58) rfl _ _ rfl w.heap.size _ ((((((((A1 ++ [45]) ++ A2) ++ [45]) ++ A3) ++ [84]) ++ A4) ++ [58]) ++ A5) rfl oe rfl (by (try simp only [List.length_append, List.length_cons, List.length_nil]); omega) ze ?_; intro ve we' oe' be'; obtain ⟨Ae', ne', ce', rfl⟩ := own_sliceN oe'; have be2 := be.trans be'; have ze2 := be2.size; clear oe be be' ze)
      | (go_at_call 49; (with_reducible refine (P6.out (((((((((A1 ++ [45]) ++ A2) ++ [45]) ++ A3) ++ [84]) ++ A4) ++ [58]) ++ A5) ++ [58]) (by (try simp only [List.length_append, List.length_cons, List.length_nil]); omega) _ _ be2 oe').mono ?_); rintro e wf ⟨Af, nf, cf, rfl, of, bf⟩; have zf := bf.size; clear oe' be2 ze2)
      | (at_builtin; refine own_append_byte (c := 90) rfl _ _ rfl w.heap.size _ ((((((((((A1 ++ [45]) ++ A2) ++ [45]) ++ A3) ++ [84]) ++ A4) ++ [58]) ++ A5) ++ [58]) ++ A6) rfl of rfl (by (try simp only [List.length_append, List.length_cons, List.length_nil]); omega) zf ?_; intro vg wg og bg; rw [HX.out] at og; have hcv := own_string og; obtain ⟨Ag, ng, cg, rfl⟩ := own_sliceN og; have bg2 := Lib.hid (bf.trans bg); clear of bf bg og))
    go_ret2
    exact ⟨rfl, bg2.out⟩
set_option maxHeartbeats 4000000 in
set_option maxRecDepth 100000 in
theorem format3_out {t : Int} (h : t < -62135596800 ∨ 253402300799 < t) (h0 : -9223372036854775808 ≤ t) (h1 : t ≤ 9223372036854775807) (w : World) :
    Calls Tryd.prog 19 #[.int .i64 t] w fun e w' => e = .returned (.tuple #[.string (S []), .int .i64 3]) ∧ w = w' := by
  have hsp := day_split (t / 86400) (t % 86400).toNat (by omega)
  rw [show (t / 86400) * 86400 + (((t % 86400).toNat : Nat) : Int) = t by omega] at hsp
  have hN : t / 86400 < -719162 ∨ 2932896 < t / 86400 := by omega
  have hd := fun W => dateOut_any (t / 86400) hN W
  have hs : (t % 86400).toNat < 86400 := by omega
  have b1 : -106751991167301 ≤ t / 86400 := by omega
  have b2 : t / 86400 ≤ 106751991167300 := by omega
  generalize (t % 86400).toNat = s at *
  generalize t / 86400 = N at *
  have HD := Lib.hid hd
  clear hd hN h
  rcases hsp with ⟨q1, q2⟩ | ⟨q1, q2, q3⟩
  all_goals
    go_enter Tryd.func19, Tryd.ntmps19
    go_wp2_with (go_at_call 48; refine (HD.out _).mono ?_; rintro e w1 ⟨rfl, rfl⟩)
    go_ret2
    exact ⟨rfl, rfl⟩
set_option maxHeartbeats 1000000 in
theorem refFormat3_out {t : Int} (h : t < -62135596800 ∨ 253402300799 < t) (w : World) :
    Calls Tryd.prog 23 #[.int .i64 t] w fun e w' => e = .returned (.tuple #[.string (S []), .int .i64 3]) ∧ w = w' := by
  have h' : t < -62135596800 ∨ (¬ t < -62135596800 ∧ 253402300799 < t) := by omega
  clear h
  rcases h' with h1 | ⟨h1, h2⟩
  all_goals
    go_enter Tryd.func23, Tryd.ntmps23
    go_wp2_with fail
    go_ret2
    exact ⟨rfl, rfl⟩
end Go.Proofs.YtooabnmmgmmklaaDoor
