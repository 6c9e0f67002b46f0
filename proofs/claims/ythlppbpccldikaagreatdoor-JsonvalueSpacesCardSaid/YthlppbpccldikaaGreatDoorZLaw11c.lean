/-
  Walks of chapter 11's statements: white space changes no value.
-/
import Derived.Test.YthlppbpccldikaaGreatDoorH20
import Derived.Test.YthlppbpccldikaaGreatDoorZFul11
set_option linter.unusedVariables false
namespace Go.Proofs.YthlppbpccldikaaGreatDoor
open Go.RowKit
/-- The white space that a number picks. -/
def spN (k : Nat) : Bytes := if k % 4 = 0 then [32] else if k % 4 = 1 then [10] else if k % 4 = 2 then [9, 13] else []
theorem spN_sp (k : Nat) : allSp (spN k) := by
  unfold spN allSp
  (repeat' split) <;> intro c hc <;> simp at hc
  · subst hc; decide
  · subst hc; decide
  · rcases hc with rfl | rfl <;> decide
theorem spN_len (k : Nat) : (spN k).length ≤ 2 := by unfold spN; (repeat' split) <;> simp
set_option maxRecDepth 100000 in
theorem run_space (k : Nat) (w : World) : Sem.run Tryz.prog (Instr.index 36 (.agg #[.string ⟨#[32]⟩, .string ⟨#[10]⟩, .string ⟨#[9, 13]⟩, .string ⟨#[]⟩]) (.int .u8 ((k : Int) % 4))) w = .ok (.string (S (spN k))) w := by
  have h : k % 4 = 0 ∨ k % 4 = 1 ∨ k % 4 = 2 ∨ k % 4 = 3 := by omega
  have e : (k : Int) % 4 = ((k % 4 : Nat) : Int) := by omega
  rw [e]
  unfold spN
  rcases h with h | h | h | h <;> rw [h] <;> rfl
theorem pre239 (l : Bytes) (W : World) : Calls Tryz.prog 10 #[.string (S l), .string ⟨#[239]⟩] W fun e w' => e = .returned (.bool (decide (l.head? = some 239))) ∧ W = w' := by
  have h := Tryz.strings_HasPrefix (S l) (S [239]) W
  rw [S_data, S_data] at h
  have e1 : decide (l.head? = some 239) = Lib.hasPrefix l [239] := by
    cases l with
    | nil => rfl
    | cons c l =>
      have e2 : Lib.hasPrefix (c :: l) [239] = ((239 : UInt8) == c) := by simp [Lib.hasPrefix, List.isPrefixOf_cons_cons]
      rw [e2, Bool.eq_iff_iff, decide_eq_true_eq, List.head?_cons, beq_iff_eq]
      exact ⟨fun h => (Option.some.inj h).symm, fun h => h ▸ rfl⟩
  rw [e1]
  exact h.mono fun e w' ⟨h1, h2⟩ => ⟨h1, h2.symm⟩
set_option maxHeartbeats 8000000 in
set_option maxRecDepth 100000 in
theorem law11spaces_go (l : Bytes) (k : Nat) (w : World) (hT : Tabs w) (hE : NumE w) (h63 : l.length ≤ 3000) (hk : k ≤ 255) (v : JV) (hv : parseJ l = .ok v) (hp : l.head? ≠ some 239) (hd : jdep v + 2 ≤ 100) :
    Calls Tryz.prog 4 #[.string (S l), .int .u8 k] w fun e w' => e = .returned (.bool true) ∧ Below w.heap.size w w' := by
  have hal := fun W => fun (hW : Below w.heap.size w W) => alive11_any W (hT.next hW) (hE.next hW)
  have HAL := Lib.hid hal
  have h5' : ¬ (3000 : Int) < l.length := by omega
  have h2 := fun W => refParse11_both l W (by omega)
  have hdp := fun W u => refDepth11_any _ v u W (Nat.le_refl _) (by have := parseJ_ful hv; omega)
  have hpp := fun W => pre239 l W
  rw [show decide (l.head? = some 239) = false by simpa using hp] at hpp
  have hpar := fun W t => fun (hW : Below w.heap.size w W) (ht : t.length ≤ 1000000) => parse11_both t W (hT.next hW) (hE.next hW) ht
  rw [hv] at h2
  unfold BothJ at h2 hpar
  dsimp only [valR, atRJ, erRJ] at h2
  have H2 := Lib.hid h2
  have HD := Lib.hid hdp
  have HP := Lib.hid hpp
  have HPA := Lib.hid hpar
  have d2 : ¬ (jdep v : Int) + 2 > 100 := by omega
  have d3 : jdep v ≤ 100 := by omega
  have HDD := Lib.hid hd
  have hfv := parseJ_fit (by omega) hv
  clear hal hT hE h2 hdp hpp hpar hd
  go_enter Tryz.func4, Tryz.ntmps4
  go_wp2_with fail
  refine (H2.out _).mono ?_
  rintro e w1 ⟨⟨A1, c1, K1, d1, rfl, hv1⟩, hb1⟩
  have N1 := Lib.hid (Jbx.new hv1)
  have BB1 := Lib.hid (hb1.alloc hb1.size (valBox v A1 c1 K1 d1))
  clear hv1 hb1
  go_wp2_with fail
  obtain ⟨b1, hw1⟩ : ∃ b1, w1.heap.size = b1 := ⟨_, rfl⟩
  rw [hw1] at N1 ⊢
  clear hw1
  obtain ⟨W1, hW1⟩ : ∃ W1, w1.alloc (valBox v A1 c1 K1 d1) = W1 := ⟨_, rfl⟩
  change Calls _ _ _ (w1.alloc (valBox v A1 c1 K1 d1)) _
  rw [hW1] at N1 BB1 ⊢
  clear hW1
  refine (HP.out _).mono ?_
  rintro e w2 ⟨rfl, rfl⟩
  obtain ⟨x0, x1, x2, x3, x4, x5, x6⟩ := N1.out.cells
  go_wp2_with fail
  refine (HD.out _ _ N1.out.tree).mono ?_
  rintro e w3 ⟨rfl, hb3⟩
  have N1b := Lib.hid (N1.out.keep hb3)
  have BB3 := Lib.hid (BB1.out.trans (hb3.mono BB1.out.size))
  clear hb3 N1 x0 x1 x2 x3 x4 x5 x6
  go_wp2_with fail
  rw [run_space]
  obtain ⟨sp, hsp⟩ : ∃ sp, spN k = sp := ⟨_, rfl⟩
  have hall := spN_sp k
  have hlen := spN_len k
  rw [hsp] at hall hlen ⊢
  clear hsp
  obtain ⟨u9, n9, hpa, hf9, hq9⟩ : ∃ u9 n9, (∀ W, Below w.heap.size w W → Calls Tryz.prog 7 #[.string (S (sp ++ (l ++ sp)))] W fun e w' => (∃ IA ic MA mc, e = .returned (.tuple #[valAgg u9 IA ic MA mc, .int .i64 n9, .int .i64 0]) ∧ ValV w' (· < w'.heap.size) u9 (valAgg u9 IA ic MA mc)) ∧ Below W.heap.size W w') ∧ JFit u9 ∧ jeq false v u9 = true := by
    have hpr := parse_around hv hp hall HDD.out
    have hle : (sp ++ (l ++ sp)).length ≤ 1000000 := by simp; omega
    refine ⟨shJ sp.length v, ((sp ++ (l ++ sp)).length : Nat), fun W hW => ?_, parseJ_fit (by omega) hpr, jeq_sh _ _⟩
    have h := HPA.out W _ hW hle
    rw [hpr] at h
    exact h
  obtain ⟨u1, o1, u2, n12, hpb, hf1, hf2, hq1, hq2, hg⟩ : ∃ u1 o1 u2 n12, (∀ W, Below w.heap.size w W → Calls Tryz.prog 7 #[.string (S (docK l sp))] W fun e w' => (∃ IA ic MA mc, e = .returned (.tuple #[.agg #[.int .i64 4, .bool false, .int .i64 0, .string (S []), .slice IA 2 ic, .slice MA 0 mc, .int .i64 0], .int .i64 n12, .int .i64 0]) ∧ ValV w' (· < w'.heap.size) (.mk 4 false 0 [] [u1, o1] [] 0) (.agg #[.int .i64 4, .bool false, .int .i64 0, .string (S []), .slice IA 2 ic, .slice MA 0 mc, .int .i64 0])) ∧ Below W.heap.size W w') ∧ JFit u1 ∧ JFit u2 ∧ jeq false v u1 = true ∧ jeq false v u2 = true ∧ getJ o1 [107] = some u2 ∧ o1.mems.length ≤ 1000000000 := by
    obtain ⟨p1, p2, q, r, hpr⟩ := parse_between hv hp hall HDD.out
    have hle : (docK l sp).length ≤ 1000000 := by unfold docK tailK; simp; omega
    have hfit := parseJ_fit (by omega) hpr
    rw [JFit, JFitL, JFitL, JFit, JFitM] at hfit
    refine ⟨shJ p1 v, .mk 5 false 0 [] [] [.mk [107] (shJ p2 v) q] r, shJ p2 v, ((docK l sp).length : Nat), fun W hW => ?_, ?_, ?_, jeq_sh _ _, jeq_sh _ _, rfl, ?_⟩
    · have h := HPA.out W _ hW hle
      rw [hpr] at h
      exact h
    · exact hfit.2.1.1
    · exact hfit.2.1.2.1.2.2.1
    · simp [JV.mems]
  unfold docK tailK at hpb
  have HA := Lib.hid hpa
  have HB := Lib.hid hpb
  clear hpa hpb hall HPA HP HD H2 hv hp
  obtain ⟨x0, x1, x2, x3, x4, x5, x6⟩ := N1b.out.cells
  go_wp2_with fail
  refine (HA.out _ BB3.out).mono ?_
  rintro e w4 ⟨⟨A2, c2, K2, d2, rfl, hv2⟩, hb4⟩
  have N2 := Lib.hid (Jbx.new hv2)
  have X4 := Lib.hid (hb4.alloc hb4.size (valBox u9 A2 c2 K2 d2))
  have BB4 := Lib.hid (BB3.out.trans (X4.out.mono BB3.out.size))
  have N1c := Lib.hid (N1b.out.keep X4.out)
  clear hv2 hb4 N1b x0 x1 x2 x3 x4 x5 x6
  go_wp2_with fail
  obtain ⟨b2, hw2⟩ : ∃ b, w4.heap.size = b := ⟨_, rfl⟩
  rw [hw2] at N2 ⊢
  clear hw2
  obtain ⟨W4, hW4⟩ : ∃ W, w4.alloc (valBox u9 A2 c2 K2 d2) = W := ⟨_, rfl⟩
  change Calls _ _ _ (w4.alloc (valBox u9 A2 c2 K2 d2)) _
  rw [hW4] at N2 X4 BB4 N1c ⊢
  clear hW4 X4
  refine (HB.out _ BB4.out).mono ?_
  rintro e w5 ⟨⟨A3, c3, K3, e3, rfl, hv3⟩, hb5⟩
  have N3 := Lib.hid (Jbx.new (n := .mk 4 false 0 [] [u1, o1] [] 0) hv3)
  have X5 := Lib.hid (hb5.alloc hb5.size (valBox (.mk 4 false 0 [] [u1, o1] [] 0) A3 c3 K3 e3))
  have BB5 := Lib.hid (BB4.out.trans (X5.out.mono BB4.out.size))
  have N1d := Lib.hid (N1c.out.keep X5.out)
  have N2d := Lib.hid (N2.out.keep X5.out)
  clear hv3 hb5 N1c N2 HA HB hlen
  go_upto_region 9 with fail
  obtain ⟨b3, hw3⟩ : ∃ b, w5.heap.size = b := ⟨_, rfl⟩
  rw [hw3] at N3 ⊢
  clear hw3
  obtain ⟨W5, hW5⟩ : ∃ W, w5.alloc (valBox (.mk 4 false 0 [] [u1, o1] [] 0) A3 c3 K3 e3) = W := ⟨_, rfl⟩
  change Code.wp _ _ _ _ (w5.alloc (valBox (.mk 4 false 0 [] [u1, o1] [] 0) A3 c3 K3 e3))
  rw [hW5] at N3 X5 BB5 N1d N2d ⊢
  clear hW5 X5
  obtain ⟨_, _, _, _, ea, hI, _, _, _⟩ := N3.out.tree.open_
  cases ea
  obtain ⟨ib, ioff, cs, rfl, hib, hr1, hm1⟩ := hI.at_ (i := 1) (by change 1 < 2; decide)
  obtain ⟨ib', ioff', cs0, e0, _, hr0, hm0⟩ := hI.at_ (i := 0) (by change 0 < 2; decide)
  cases e0
  change W5.rangeAt ib (ioff + 7) cs at hr1
  change W5.rangeAt ib ioff cs0 at hr0
  change ValP W5 _ o1 cs at hm1
  change ValP W5 _ u1 cs0 at hm0
  have hv1 : ValV W5 (· < W5.heap.size) o1 (.agg cs.toArray) := ⟨_, rfl, hm1⟩
  have hv0 : ValV W5 (· < W5.heap.size) u1 (.agg cs0.toArray) := ⟨_, rfl, hm0⟩
  obtain ⟨A4, c4, K4, d4, rfl, _⟩ := hm1.open_
  obtain ⟨A5, c5, K5, d5, rfl, _⟩ := hm0.open_
  have h := get11_any o1 [107] _ W5 hg.2 hv1
  rw [hg.1] at h
  have HG := Lib.hid h
  clear h
  obtain ⟨y0, y1, y2, y3, y4, y5, y6⟩ : W5.cell? ⟨b3, 0, none⟩ = some (.int .i64 4) ∧ W5.cell? ⟨b3, 1, none⟩ = some (.bool false) ∧ W5.cell? ⟨b3, 2, none⟩ = some (.int .i64 0) ∧ W5.cell? ⟨b3, 3, none⟩ = some (.string (S [])) ∧ W5.cell? ⟨b3, 4, none⟩ = some (.slice (some ⟨ib, ioff, none⟩) 2 c3) ∧ W5.cell? ⟨b3, 5, none⟩ = some (.slice K3 0 e3) ∧ W5.cell? ⟨b3, 6, none⟩ = some (.int .i64 0) := N3.out.cells
  go_upto_region 12 with (first
    | ((with_reducible refine gate ?_); refine wp_load_val rfl _ rfl ib (ioff + 7) rfl _ rfl hr1 ?_)
    | (go_at_call 12; refine HG.out.mono ?_; rintro e w6 ⟨⟨y, rfl, hy⟩, hb6⟩; obtain ⟨XI, xc, XM, xm, rfl, _⟩ := hy.open_; have hy2 := hy.grow hb6))
  obtain ⟨b4, hw4⟩ : ∃ b, w6.heap.size = b := ⟨_, rfl⟩
  have N4 := Lib.hid (Jbx.new hy2)
  rw [hw4] at N4 ⊢
  have X6 := hb6.alloc hb6.size (valBox u2 XI xc XM xm)
  obtain ⟨W6, hW6⟩ : ∃ W, w6.alloc (valBox u2 XI xc XM xm) = W := ⟨_, rfl⟩
  change Code.wp _ _ _ _ (w6.alloc (valBox u2 XI xc XM xm))
  rw [hW6] at N4 X6 ⊢
  have BB6 := Lib.hid (BB5.out.trans (X6.mono BB5.out.size))
  have M1 := N1d.out.keep X6
  have M2 := N2d.out.keep X6
  have M3 := N3.out.keep X6
  have hib' : ib < W6.heap.size := Nat.lt_of_lt_of_le hib X6.size
  have M5 := rangeAt_keep hr0 (X6.block ib hib)
  have T0 := hv0.grow X6
  clear hW6 hw4 hy hy2 hb6 HG hr1 hm1 hm0 hr0 hv1 hv0 N1d N2d N3 hI y0 y1 y2 y3 y4 y5 y6
  obtain ⟨a0, a1, a2, a3, a4, a5, a6⟩ : W6.cell? ⟨b1, 0, none⟩ = some (.int .i64 v.kind) ∧ W6.cell? ⟨b1, 1, none⟩ = some (.bool v.b) ∧ W6.cell? ⟨b1, 2, none⟩ = some (.int .i64 v.n) ∧ W6.cell? ⟨b1, 3, none⟩ = some (.string (S v.s)) ∧ W6.cell? ⟨b1, 4, none⟩ = some (.slice A1 v.items.length c1) ∧ W6.cell? ⟨b1, 5, none⟩ = some (.slice K1 v.mems.length d1) ∧ W6.cell? ⟨b1, 6, none⟩ = some (.int .i64 v.pos) := M1.cells
  obtain ⟨b0_, b1_, b2_, b3_, b4_, b5_, b6_⟩ : W6.cell? ⟨b2, 0, none⟩ = some (.int .i64 u9.kind) ∧ W6.cell? ⟨b2, 1, none⟩ = some (.bool u9.b) ∧ W6.cell? ⟨b2, 2, none⟩ = some (.int .i64 u9.n) ∧ W6.cell? ⟨b2, 3, none⟩ = some (.string (S u9.s)) ∧ W6.cell? ⟨b2, 4, none⟩ = some (.slice A2 u9.items.length c2) ∧ W6.cell? ⟨b2, 5, none⟩ = some (.slice K2 u9.mems.length d2) ∧ W6.cell? ⟨b2, 6, none⟩ = some (.int .i64 u9.pos) := M2.cells
  have y4 : W6.cell? ⟨b3, 4, none⟩ = some (.slice (some ⟨ib, ioff, none⟩) 2 c3) := M3.cells.2.2.2.2.1
  have z0 : W6.cell? ⟨ib, ioff, none⟩ = some (.int .i64 u1.kind) := M5 0 _ rfl
  have z1 : W6.cell? ⟨ib, ioff + 1, none⟩ = some (.bool u1.b) := M5 1 _ rfl
  have z2 : W6.cell? ⟨ib, ioff + 2, none⟩ = some (.int .i64 u1.n) := M5 2 _ rfl
  have z3 : W6.cell? ⟨ib, ioff + 3, none⟩ = some (.string (S u1.s)) := M5 3 _ rfl
  have z4 : W6.cell? ⟨ib, ioff + 4, none⟩ = some (.slice A5 u1.items.length c5) := M5 4 _ rfl
  have z5 : W6.cell? ⟨ib, ioff + 5, none⟩ = some (.slice K5 u1.mems.length d5) := M5 5 _ rfl
  have z6 : W6.cell? ⟨ib, ioff + 6, none⟩ = some (.int .i64 u1.pos) := M5 6 _ rfl
  obtain ⟨q0, q1, q2, q3, q4, q5, q6⟩ : W6.cell? ⟨b4, 0, none⟩ = some (.int .i64 u2.kind) ∧ W6.cell? ⟨b4, 1, none⟩ = some (.bool u2.b) ∧ W6.cell? ⟨b4, 2, none⟩ = some (.int .i64 u2.n) ∧ W6.cell? ⟨b4, 3, none⟩ = some (.string (S u2.s)) ∧ W6.cell? ⟨b4, 4, none⟩ = some (.slice XI u2.items.length xc) ∧ W6.cell? ⟨b4, 5, none⟩ = some (.slice XM u2.mems.length xm) ∧ W6.cell? ⟨b4, 6, none⟩ = some (.int .i64 u2.pos) := N4.out.cells
  have hKP : ∀ x, Below W6.heap.size W6 x → (x.cell? ⟨b1, 0, none⟩ = some (.int .i64 v.kind) ∧ x.cell? ⟨b1, 1, none⟩ = some (.bool v.b) ∧ x.cell? ⟨b1, 2, none⟩ = some (.int .i64 v.n) ∧ x.cell? ⟨b1, 3, none⟩ = some (.string (S v.s)) ∧ x.cell? ⟨b1, 4, none⟩ = some (.slice A1 v.items.length c1) ∧ x.cell? ⟨b1, 5, none⟩ = some (.slice K1 v.mems.length d1) ∧ x.cell? ⟨b1, 6, none⟩ = some (.int .i64 v.pos) ∧ x.cell? ⟨b2, 0, none⟩ = some (.int .i64 u9.kind) ∧ x.cell? ⟨b2, 1, none⟩ = some (.bool u9.b) ∧ x.cell? ⟨b2, 2, none⟩ = some (.int .i64 u9.n) ∧ x.cell? ⟨b2, 3, none⟩ = some (.string (S u9.s)) ∧ x.cell? ⟨b2, 4, none⟩ = some (.slice A2 u9.items.length c2) ∧ x.cell? ⟨b2, 5, none⟩ = some (.slice K2 u9.mems.length d2) ∧ x.cell? ⟨b2, 6, none⟩ = some (.int .i64 u9.pos) ∧ x.cell? ⟨b3, 4, none⟩ = some (.slice (some ⟨ib, ioff, none⟩) 2 c3) ∧ x.cell? ⟨ib, ioff, none⟩ = some (.int .i64 u1.kind) ∧ x.cell? ⟨ib, ioff + 1, none⟩ = some (.bool u1.b) ∧ x.cell? ⟨ib, ioff + 2, none⟩ = some (.int .i64 u1.n) ∧ x.cell? ⟨ib, ioff + 3, none⟩ = some (.string (S u1.s)) ∧ x.cell? ⟨ib, ioff + 4, none⟩ = some (.slice A5 u1.items.length c5) ∧ x.cell? ⟨ib, ioff + 5, none⟩ = some (.slice K5 u1.mems.length d5) ∧ x.cell? ⟨ib, ioff + 6, none⟩ = some (.int .i64 u1.pos) ∧ x.cell? ⟨b4, 0, none⟩ = some (.int .i64 u2.kind) ∧ x.cell? ⟨b4, 1, none⟩ = some (.bool u2.b) ∧ x.cell? ⟨b4, 2, none⟩ = some (.int .i64 u2.n) ∧ x.cell? ⟨b4, 3, none⟩ = some (.string (S u2.s)) ∧ x.cell? ⟨b4, 4, none⟩ = some (.slice XI u2.items.length xc) ∧ x.cell? ⟨b4, 5, none⟩ = some (.slice XM u2.mems.length xm) ∧ x.cell? ⟨b4, 6, none⟩ = some (.int .i64 u2.pos)) := fun x hx => by
    have l1 := M1.lt
    have l2 := M2.lt
    have l3 := M3.lt
    have l4 := N4.out.lt
    exact ⟨(hx.cell (p := ⟨b1, 0, none⟩) l1).trans a0, (hx.cell (p := ⟨b1, 1, none⟩) l1).trans a1, (hx.cell (p := ⟨b1, 2, none⟩) l1).trans a2, (hx.cell (p := ⟨b1, 3, none⟩) l1).trans a3, (hx.cell (p := ⟨b1, 4, none⟩) l1).trans a4, (hx.cell (p := ⟨b1, 5, none⟩) l1).trans a5, (hx.cell (p := ⟨b1, 6, none⟩) l1).trans a6, (hx.cell (p := ⟨b2, 0, none⟩) l2).trans b0_, (hx.cell (p := ⟨b2, 1, none⟩) l2).trans b1_, (hx.cell (p := ⟨b2, 2, none⟩) l2).trans b2_, (hx.cell (p := ⟨b2, 3, none⟩) l2).trans b3_, (hx.cell (p := ⟨b2, 4, none⟩) l2).trans b4_, (hx.cell (p := ⟨b2, 5, none⟩) l2).trans b5_, (hx.cell (p := ⟨b2, 6, none⟩) l2).trans b6_, (hx.cell (p := ⟨b3, 4, none⟩) l3).trans y4, (hx.cell (p := ⟨ib, ioff, none⟩) hib').trans z0, (hx.cell (p := ⟨ib, ioff + 1, none⟩) hib').trans z1, (hx.cell (p := ⟨ib, ioff + 2, none⟩) hib').trans z2, (hx.cell (p := ⟨ib, ioff + 3, none⟩) hib').trans z3, (hx.cell (p := ⟨ib, ioff + 4, none⟩) hib').trans z4, (hx.cell (p := ⟨ib, ioff + 5, none⟩) hib').trans z5, (hx.cell (p := ⟨ib, ioff + 6, none⟩) hib').trans z6, (hx.cell (p := ⟨b4, 0, none⟩) l4).trans q0, (hx.cell (p := ⟨b4, 1, none⟩) l4).trans q1, (hx.cell (p := ⟨b4, 2, none⟩) l4).trans q2, (hx.cell (p := ⟨b4, 3, none⟩) l4).trans q3, (hx.cell (p := ⟨b4, 4, none⟩) l4).trans q4, (hx.cell (p := ⟨b4, 5, none⟩) l4).trans q5, (hx.cell (p := ⟨b4, 6, none⟩) l4).trans q6⟩
  have HE1 := Lib.hid (show ∀ W, Below W6.heap.size W6 W → Calls Tryz.prog 9 #[valAgg v A1 c1 K1 d1, valAgg u9 A2 c2 K2 d2, .bool false] W fun e w' => e = .returned (.bool true) ∧ Below W.heap.size W w' from fun W hW => by
    have := refEqual11_any _ false v u9 _ _ W (Nat.le_refl _) hfv hf9 (M1.tree.grow hW) (ValV.grow M2.tree hW)
    rw [hq9] at this
    exact this)
  have HE2 := Lib.hid (show ∀ W, Below W6.heap.size W6 W → Calls Tryz.prog 9 #[valAgg v A1 c1 K1 d1, valAgg u1 A5 c5 K5 d5, .bool false] W fun e w' => e = .returned (.bool true) ∧ Below W.heap.size W w' from fun W hW => by
    have := refEqual11_any _ false v u1 _ _ W (Nat.le_refl _) hfv hf1 (M1.tree.grow hW) (ValV.grow T0 hW)
    rw [hq1] at this
    exact this)
  have HE3 := Lib.hid (show ∀ W, Below W6.heap.size W6 W → Calls Tryz.prog 9 #[valAgg v A1 c1 K1 d1, valAgg u2 XI xc XM xm, .bool false] W fun e w' => e = .returned (.bool true) ∧ Below W.heap.size W w' from fun W hW => by
    have := refEqual11_any _ false v u2 _ _ W (Nat.le_refl _) hfv hf2 (M1.tree.grow hW) (ValV.grow N4.out.tree hW)
    rw [hq2] at this
    exact this)
  have KEEP := Lib.hid hKP
  have HAL2 := Lib.hid (show ∀ W, Below W6.heap.size W6 W → Calls Tryz.prog 6 #[] W fun e w' => e = .returned (.bool true) ∧ Below W.heap.size W w' from fun W hW => HAL.out W (BB6.out.trans (hW.mono BB6.out.size)))
  clear hKP M1 M2 M3 M5 T0 N4 X6 HAL hfv hf9 hf1 hf2 hq9 hq1 hq2 hg
  go_region_held3 (fun x => x.cell? ⟨b1, 0, none⟩ = some (.int .i64 v.kind) ∧ x.cell? ⟨b1, 1, none⟩ = some (.bool v.b) ∧ x.cell? ⟨b1, 2, none⟩ = some (.int .i64 v.n) ∧ x.cell? ⟨b1, 3, none⟩ = some (.string (S v.s)) ∧ x.cell? ⟨b1, 4, none⟩ = some (.slice A1 v.items.length c1) ∧ x.cell? ⟨b1, 5, none⟩ = some (.slice K1 v.mems.length d1) ∧ x.cell? ⟨b1, 6, none⟩ = some (.int .i64 v.pos) ∧ x.cell? ⟨b2, 0, none⟩ = some (.int .i64 u9.kind) ∧ x.cell? ⟨b2, 1, none⟩ = some (.bool u9.b) ∧ x.cell? ⟨b2, 2, none⟩ = some (.int .i64 u9.n) ∧ x.cell? ⟨b2, 3, none⟩ = some (.string (S u9.s)) ∧ x.cell? ⟨b2, 4, none⟩ = some (.slice A2 u9.items.length c2) ∧ x.cell? ⟨b2, 5, none⟩ = some (.slice K2 u9.mems.length d2) ∧ x.cell? ⟨b2, 6, none⟩ = some (.int .i64 u9.pos) ∧ x.cell? ⟨b3, 4, none⟩ = some (.slice (some ⟨ib, ioff, none⟩) 2 c3) ∧ x.cell? ⟨ib, ioff, none⟩ = some (.int .i64 u1.kind) ∧ x.cell? ⟨ib, ioff + 1, none⟩ = some (.bool u1.b) ∧ x.cell? ⟨ib, ioff + 2, none⟩ = some (.int .i64 u1.n) ∧ x.cell? ⟨ib, ioff + 3, none⟩ = some (.string (S u1.s)) ∧ x.cell? ⟨ib, ioff + 4, none⟩ = some (.slice A5 u1.items.length c5) ∧ x.cell? ⟨ib, ioff + 5, none⟩ = some (.slice K5 u1.mems.length d5) ∧ x.cell? ⟨ib, ioff + 6, none⟩ = some (.int .i64 u1.pos) ∧ x.cell? ⟨b4, 0, none⟩ = some (.int .i64 u2.kind) ∧ x.cell? ⟨b4, 1, none⟩ = some (.bool u2.b) ∧ x.cell? ⟨b4, 2, none⟩ = some (.int .i64 u2.n) ∧ x.cell? ⟨b4, 3, none⟩ = some (.string (S u2.s)) ∧ x.cell? ⟨b4, 4, none⟩ = some (.slice XI u2.items.length xc) ∧ x.cell? ⟨b4, 5, none⟩ = some (.slice XM u2.mems.length xm) ∧ x.cell? ⟨b4, 6, none⟩ = some (.int .i64 u2.pos))
    (first | exact KEEP.out _ R4.out | exact KEEP.out _ R3.out | exact KEEP.out _ R2.out | exact KEEP.out _ R1.out | exact KEEP.out _ (Below.refl _ _).drew)
    (first
      | ((go_at_call 6; refine (HAL2.out _ (Below.refl _ _).drew).mono ?_; rintro e r1 ⟨rfl, k1⟩; have R1 : Hid (Below W6.heap.size W6 r1) := Lib.hid ((Below.refl _ _).drew.trans k1); clear k1))
      | ((go_at_call 9; refine (HE1.out _ R1.out).mono ?_; rintro e r2 ⟨rfl, k2⟩; have R2 := Lib.hid (R1.out.trans (k2.mono R1.out.size)); clear HE1 k2))
      | ((go_at_call 9; refine (HE2.out _ R2.out).mono ?_; rintro e r3 ⟨rfl, k3⟩; have R3 := Lib.hid (R2.out.trans (k3.mono R2.out.size)); clear HE2 k3))
      | ((go_at_call 9; refine (HE3.out _ R3.out).mono ?_; rintro e r4 ⟨rfl, k4⟩; have R4 := Lib.hid (R3.out.trans (k4.mono R3.out.size)); clear HE3 k4)))
  all_goals
    go_wp2_with fail
    go_ret
    exact ⟨rfl, BB6.out.trans (R4.out.mono BB6.out.size)⟩
set_option maxHeartbeats 8000000 in
set_option maxRecDepth 100000 in
/-- A text that the statement leaves to the examples. -/
theorem law11spaces_else (l : Bytes) (k : Nat) (w : World) (hT : Tabs w) (hE : NumE w) (h63 : l.length ≤ 9223372036854775807) (hk : k ≤ 255)
    (h : l.length ≤ 3000 → ∀ v, parseJ l = .ok v → l.head? ≠ some 239 → ¬ jdep v + 2 ≤ 100) :
    Calls Tryz.prog 4 #[.string (S l), .int .u8 k] w fun e w' => e = .returned (.bool true) ∧ Below w.heap.size w w' := by
  have hal := fun W => fun (hW : Below w.heap.size w W) => alive11_any W (hT.next hW) (hE.next hW)
  have HAL := Lib.hid hal
  by_cases h5 : 3000 < l.length
  · have h5' : (3000 : Int) < l.length := by omega
    clear hal hT hE h
    go_enter Tryz.func4, Tryz.ntmps4
    go_wp2_with (go_at_call 6; refine (HAL.out _ (Below.refl _ _)).mono ?_; rintro e w1 ⟨rfl, hb1⟩)
    go_ret
    exact ⟨rfl, hb1⟩
  have h5' : ¬ (3000 : Int) < l.length := by omega
  have h2 := fun W => refParse11_both l W (by omega)
  have hpp := fun W => pre239 l W
  have HP := Lib.hid hpp
  cases hv : parseJ l with
  | error q =>
    have hq := (parseJ_err hv).2
    have hq' : ((q.2 : Int) == 0) = false := by simp; omega
    rw [hv] at h2
    unfold BothJ at h2
    dsimp only [valR, atRJ, erRJ] at h2
    have H2 := Lib.hid h2
    clear hal hT hE h2 h hpp
    go_enter Tryz.func4, Tryz.ntmps4
    go_wp2_with fail
    refine (H2.out _).mono ?_
    rintro e w1 ⟨⟨A1, c1, K1, d1, rfl, hv1⟩, hb1⟩
    have BB1 := Lib.hid (hb1.alloc hb1.size (valBox zJV A1 c1 K1 d1))
    clear hv1 hb1
    go_wp2_with fail
    refine (HAL.out _ BB1.out).mono ?_
    rintro e w2 ⟨rfl, hb2⟩
    go_wp2_with fail
    go_ret
    exact ⟨rfl, BB1.out.trans (hb2.mono BB1.out.size)⟩
  | ok v =>
    rw [hv] at h2
    unfold BothJ at h2
    dsimp only [valR, atRJ, erRJ] at h2
    have H2 := Lib.hid h2
    by_cases hp : l.head? = some 239
    · have hp' : decide (l.head? = some 239) = true := by simpa using hp
      rw [hp'] at HP
      clear hal hT hE h2 h hpp
      go_enter Tryz.func4, Tryz.ntmps4
      go_wp2_with fail
      refine (H2.out _).mono ?_
      rintro e w1 ⟨⟨A1, c1, K1, d1, rfl, hv1⟩, hb1⟩
      have BB1 := Lib.hid (hb1.alloc hb1.size (valBox v A1 c1 K1 d1))
      clear hv1 hb1
      go_wp2_with fail
      refine (HP.out _).mono ?_
      rintro e w2 ⟨rfl, rfl⟩
      go_wp2_with fail
      refine (HAL.out _ BB1.out).mono ?_
      rintro e w2 ⟨rfl, hb2⟩
      go_wp2_with fail
      go_ret
      exact ⟨rfl, BB1.out.trans (hb2.mono BB1.out.size)⟩
    · have hp' : decide (l.head? = some 239) = false := by simpa using hp
      rw [hp'] at HP
      have hd := h (by omega) v hv hp
      have hdp := fun W u => refDepth11_any _ v u W (Nat.le_refl _) (by have := parseJ_ful hv; omega)
      have hjd : jdep v ≤ 1000000 := by have := jdep_le v; have := parseJ_ful hv; omega
      have HD := Lib.hid hdp
      have d2 : (jdep v : Int) + 2 > 100 := by omega
      clear hal hT hE h2 h hpp hdp hd
      go_enter Tryz.func4, Tryz.ntmps4
      go_wp2_with fail
      refine (H2.out _).mono ?_
      rintro e w1 ⟨⟨A1, c1, K1, d1, rfl, hv1⟩, hb1⟩
      have N1 := Lib.hid (Jbx.new hv1)
      have BB1 := Lib.hid (hb1.alloc hb1.size (valBox v A1 c1 K1 d1))
      clear hv1 hb1
      go_wp2_with fail
      obtain ⟨b1, hw1⟩ : ∃ b1, w1.heap.size = b1 := ⟨_, rfl⟩
      rw [hw1] at N1 ⊢
      clear hw1
      obtain ⟨W1, hW1⟩ : ∃ W1, w1.alloc (valBox v A1 c1 K1 d1) = W1 := ⟨_, rfl⟩
      change Calls _ _ _ (w1.alloc (valBox v A1 c1 K1 d1)) _
      rw [hW1] at N1 BB1 ⊢
      clear hW1
      refine (HP.out _).mono ?_
      rintro e w2 ⟨rfl, rfl⟩
      obtain ⟨x0, x1, x2, x3, x4, x5, x6⟩ := N1.out.cells
      go_wp2_with fail
      refine (HD.out _ _ N1.out.tree).mono ?_
      rintro e w3 ⟨rfl, hb3⟩
      have BB3 := Lib.hid (BB1.out.trans (hb3.mono BB1.out.size))
      clear hb3 N1 x0 x1 x2 x3 x4 x5 x6
      go_wp2_with fail
      refine (HAL.out _ BB3.out).mono ?_
      rintro e w4 ⟨rfl, hb4⟩
      go_wp2_with fail
      go_ret
      exact ⟨rfl, BB3.out.trans (hb4.mono BB3.out.size)⟩
theorem law11spaces_any (l : Bytes) (k : Nat) (w : World) (hT : Tabs w) (hE : NumE w) (h63 : l.length ≤ 9223372036854775807) (hk : k ≤ 255) :
    Calls Tryz.prog 4 #[.string (S l), .int .u8 k] w fun e w' => e = .returned (.bool true) ∧ Below w.heap.size w w' := by
  by_cases h : ∃ v, l.length ≤ 3000 ∧ parseJ l = .ok v ∧ l.head? ≠ some 239 ∧ jdep v + 2 ≤ 100
  · obtain ⟨v, h1, h2, h3, h4⟩ := h
    exact law11spaces_go l k w hT hE h1 hk v h2 h3 h4
  · exact law11spaces_else l k w hT hE h63 hk fun h1 v h2 h3 h4 => h ⟨v, h1, h2, h3, h4⟩
end Go.Proofs.YthlppbpccldikaaGreatDoor
