/-
  Walks of chapter 13's statements: LaterFeed.
-/
import Derived.Test.YtadkgjbidhfefaaGreatDoorF3
import Derived.Test.YtadkgjbidhfefaaGreatDoorF4
import Derived.Deep.DeepCutAuto
set_option linter.unusedVariables false
set_option linter.unusedSimpArgs false
namespace Go.Proofs.YtadkgjbidhfefaaGreatDoor
open Go.RowKit

theorem latR_feeV {W : World} {B : Nat} {X : Fe} {A : Option Addr} {c : Nat} (h : ElRow strE W B (fun _ => False) (.slice A X.path.length c) X.path) : FeeV W (· < W.heap.size) (bareF X) (.agg #[.slice A X.path.length c, .string (S X.id), .string (S X.title), .string (S X.link), .int .i64 X.upd, .slice none 0 0]) := by
  obtain ⟨A', c', e, hc⟩ := h.slice
  cases e
  exact ⟨_, rfl, A, c, none, 0, rfl, h.elsP strE_ok (fun _ h => h.elim) (fun k hk => (h.lt k hk).2), ElsP.nil _ _ _, hc, Nat.le_refl _⟩
theorem feeV_next {W W' : World} {f : Fe} {v : Value} (h : FeeV W (· < W.heap.size) f v) (hb : Below W.heap.size W W') : FeeV W' (· < W'.heap.size) f v := h.keep hb.block (fun k hk => Nat.lt_of_lt_of_le hk hb.size)
theorem store_fee_step {ops : Array Oper} {o : Oper} {a : Act} {K : Act → World → Prop} {Q : Exit → Act → World → Prop} {Z : Prop} {w : World} (hgd : o.guard = none) (x y : Operand) (ho : o.op = .store 25 x y)
    (g : Nat) (A : Option Addr) (n c : Nat) (s1 s2 s3 : ByteArray) (t : Int) (B : Option Addr) (m d : Nat) (hx : a.eval x = .pointer (some ⟨g, 0, none⟩)) (hy : a.eval y = .agg #[.slice A n c, .string s1, .string s2, .string s3, .int .i64 t, .slice B m d])
    (hg : w.heap[g]? = some zFeeO)
    (hK : ∀ w', w'.heap[g]? = some (.cells #[.slice A n c, .string s1, .string s2, .string s3, .int .i64 t, .slice B m d] 25 (0, 0)) → Upd g w w' → K (a.put o.dst undef) w') :
    if Region.wanted o (yielded ops a.tmps) = true then Oper.wp Tryz.prog o a w K Q else Z := by
  rw [if_pos (by simp [Region.wanted, hgd])]
  unfold Oper.wp execOp
  simp only [ho, hx, hy, Instr.storeAt, Instr.sureAddr, Sem.run_bind, Sem.run_pure, Result.andThen_ok, run_store_whole w g 25 25 #[.slice none 0 0, .string ⟨#[]⟩, .string ⟨#[]⟩, .string ⟨#[]⟩, .int .i64 0, .slice none 0 0] #[.slice A n c, .string s1, .string s2, .string s3, .int .i64 t, .slice B m d] hg rfl feeSize (by simp [Value.oneCell'])]
  exact hK _ (setRow_heap w g _ _ 25 (0, 0) hg) (upd_setRow w g _)
theorem heap_alloc_new1 (V : World) (x o : Obj) : ((V.alloc x).alloc o).heap[V.heap.size + 1]? = some o := by
  have := heap_alloc_new (V.alloc x) o
  simpa using this
theorem blk_alloc {V : World} {x o : Obj} {j : Nat} (h : V.heap[j]? = some o) : (V.alloc x).heap[j]? = some o := (Below.heap_alloc V x j (heap_lt h)).trans h
theorem blk_hid {V W : World} {o : Obj} {j : Nat} (hb : Hid (Below V.heap.size V W)) (h : V.heap[j]? = some o) : W.heap[j]? = some o := (hb.out.block j (heap_lt h)).trans h
theorem blk_drew {V : World} {o : Obj} {j : Nat} (h : V.heap[j]? = some o) : V.drew.heap[j]? = some o := h
theorem upd_zero {g k : Nat} {W W' : World} {o : Obj} (u : Upd g W W') (h : W.heap[k]? = some o) (hne : k ≠ g) : W'.heap[k]? = some o := (u.block k (heap_lt h) hne).trans h
theorem row_alloc {V : World} {x : Obj} {v : Value} {l : List Bytes} (h : ElRow strE V 0 (fun _ => False) v l) : ElRow strE (V.alloc x) 0 (fun _ => False) v l := h.below strE_ok ((Below.refl _ _).alloc (Nat.le_refl _) _) (fun _ h => h.elim)
theorem row_hid {V W : World} {v : Value} {l : List Bytes} (hb : Hid (Below V.heap.size V W)) (h : ElRow strE V 0 (fun _ => False) v l) : ElRow strE W 0 (fun _ => False) v l := h.below strE_ok hb.out (fun _ h => h.elim)
theorem row_ne {W : World} {g : Nat} {base : Nat} {P : Nat → Prop} {v : Value} {l : List Bytes} (h : ElRow strE W base P v l) {cur : Array Value} (hg : W.heap[g]? = some (.cells cur 25 (0, 0))) : ∀ k, v.ownBlock = some k → k ≠ g := by
  obtain ⟨css, _, _, _, h3⟩ := h
  intro k hk e
  subst e
  rcases h3 with ⟨hv, _⟩ | ⟨g', cap, cur', hv, _, hh, _⟩
  · rw [hv] at hk; cases hk
  · rw [hv] at hk
    simp only [Value.ownBlock, Option.some.injEq] at hk
    subst hk
    rw [hg] at hh
    simp only [Option.some.injEq, Obj.cells.injEq] at hh
    exact absurd hh.2.1 (by decide)
theorem row_upd {g : Nat} {W W' : World} {v : Value} {l : List Bytes} (u : Upd g W W') (h : ElRow strE W 0 (fun _ => False) v l) {cur : Array Value} (hg : W.heap[g]? = some (.cells cur 25 (0, 0))) : ElRow strE W' 0 (fun _ => False) v l :=
  h.heap strE_ok (fun k hk => u.block k (h.lt k hk).2 (row_ne h hg k hk)) (fun _ h => h.elim)
theorem below_upd {n g : Nat} {V W W' : World} (u : Upd g W W') (hb : Below n V W) (hn : n ≤ V.heap.size) (hg : n ≤ g) : Below n V W' := hb.trans (u.below hg (Nat.le_trans hn hb.size))
theorem below_go {U V W : World} (hb : Below V.heap.size V W) (h : Below U.heap.size U V) : Below U.heap.size U W := h.trans (hb.mono h.size)
theorem bare_fit {f : Fe} (h : FFit f) : FFit (bareF f) := ⟨h.1, fun e he => by cases he⟩
theorem bare_sz {f : Fe} (h : FSz f) : FSz (bareF f) := ⟨h.path, h.strs, h.head, (fun e he => by cases he), Nat.zero_le _⟩
theorem lat_fit {a b : Fe} (h : FFit a) (k : FFit b) : FFit (lat3 cmpKF a b) := by unfold lat3; split <;> assumption
theorem lat_sz {a b : Fe} (h : FSz a) (k : FSz b) : FSz (lat3 cmpKF a b) := by unfold lat3; split <;> assumption
/-- Small enough to be compared. -/
def SmF (f : Fe) : Prop := f.path.length ≤ 1000000000000 ∧ f.ents.length ≤ 1000000000000
theorem smF {f : Fe} (h : FSz f) : SmF f := ⟨by have := h.path; omega, by have := h.many; omega⟩

set_option maxHeartbeats 64000000 in
set_option maxRecDepth 100000 in
theorem law13feeds_any (a b c : Fe) (u v t : Value) (w : World) (hT : TabJ w) (hu : FeeV w (· < w.heap.size) a u) (hv : FeeV w (· < w.heap.size) b v) (ht : FeeV w (· < w.heap.size) c t) (lf : FLen a) (lg : FLen b) (lh : FLen c) (fa : FFit a) (fb : FFit b) (fc : FFit c) :
    Calls Tryz.prog 3 #[u, v, t] w fun e w' => e = .returned (.bool true) ∧ Below w.heap.size w w' := by
  have kp : ∀ {f : Fe} {x : Value} (W : World), Below w.heap.size w W → FeeV w (· < w.heap.size) f x → FeeV W (· < W.heap.size) f x := fun W hW hx => hx.keep hW.block (fun k hk => Nat.lt_of_lt_of_le hk hW.size)
  have hal := fun W => fun (hW : Below w.heap.size w W) => alive13_any W (hT.next hW)
  have l1 := fun W => fun (hW : Below w.heap.size w W) => large13_any a u W (kp W hW hu) lf
  have l2 := fun W => fun (hW : Below w.heap.size w W) => large13_any b v W (kp W hW hv) lg
  have l3 := fun W => fun (hW : Below w.heap.size w W) => large13_any c t W (kp W hW ht) lh
  have sz : ∀ {f : Fe}, wtF 0 [f] = false → FSz f := fun ha => (wtF_no ha (by omega)).2 _ (by simp)
  obtain ⟨P1, p1, E1, e1, rfl, hp1, he1, _, _⟩ := hu.open_
  obtain ⟨P2, p2, E2, e2, rfl, hp2, he2, _, _⟩ := hv.open_
  obtain ⟨P3, p3, E3, e3, rfl, hp3, he3, _, _⟩ := ht.open_
  have B0 := Lib.hid (Box3F.new w (feeBox a P1 p1 E1 e1) (feeBox b P2 p2 E2 e2) (feeBox c P3 p3 E3 e3))
  have W0 : Hid (Below w.heap.size w (((w.alloc (feeBox a P1 p1 E1 e1)).alloc (feeBox b P2 p2 E2 e2)).alloc (feeBox c P3 p3 E3 e3))) := (((Below.refl _ _).alloc (Nat.le_refl _) _).alloc (by simp) _).alloc (by simp; omega) _
  have HAL := Lib.hid hal
  have HCE : Hid (∀ W, Box3F W w.heap.size (feeBox a P1 p1 E1 e1) (feeBox b P2 p2 E2 e2) (feeBox c P3 p3 E3 e3) → (W.cell? ⟨w.heap.size, 0, none⟩ = some (.slice P1 a.path.length p1) ∧ W.cell? ⟨w.heap.size, 1, none⟩ = some (.string (S a.id)) ∧ W.cell? ⟨w.heap.size, 2, none⟩ = some (.string (S a.title)) ∧ W.cell? ⟨w.heap.size, 3, none⟩ = some (.string (S a.link)) ∧ W.cell? ⟨w.heap.size, 4, none⟩ = some (.int .i64 a.upd) ∧ W.cell? ⟨w.heap.size, 5, none⟩ = some (.slice E1 a.ents.length e1)) ∧ (W.cell? ⟨w.heap.size + 1, 0, none⟩ = some (.slice P2 b.path.length p2) ∧ W.cell? ⟨w.heap.size + 1, 1, none⟩ = some (.string (S b.id)) ∧ W.cell? ⟨w.heap.size + 1, 2, none⟩ = some (.string (S b.title)) ∧ W.cell? ⟨w.heap.size + 1, 3, none⟩ = some (.string (S b.link)) ∧ W.cell? ⟨w.heap.size + 1, 4, none⟩ = some (.int .i64 b.upd) ∧ W.cell? ⟨w.heap.size + 1, 5, none⟩ = some (.slice E2 b.ents.length e2)) ∧ (W.cell? ⟨w.heap.size + 1 + 1, 0, none⟩ = some (.slice P3 c.path.length p3) ∧ W.cell? ⟨w.heap.size + 1 + 1, 1, none⟩ = some (.string (S c.id)) ∧ W.cell? ⟨w.heap.size + 1 + 1, 2, none⟩ = some (.string (S c.title)) ∧ W.cell? ⟨w.heap.size + 1 + 1, 3, none⟩ = some (.string (S c.link)) ∧ W.cell? ⟨w.heap.size + 1 + 1, 4, none⟩ = some (.int .i64 c.upd) ∧ W.cell? ⟨w.heap.size + 1 + 1, 5, none⟩ = some (.slice E3 c.ents.length e3))) := fun W hW => ⟨cells6 hW.one, cells6 hW.two, cells6 hW.thr⟩
  by_cases hq : wtF 0 [a] = true ∨ wtF 0 [b] = true ∨ wtF 0 [c] = true
  · have L1 := Lib.hid l1
    have L2 := Lib.hid l2
    have L3 := Lib.hid l3
    generalize wtF 0 [a] = k1 at *
    generalize wtF 0 [b] = k2 at *
    generalize wtF 0 [c] = k3 at *
    clear sz kp l1 l2 l3 hal hT hu hv ht lf lg lh hp1 hp2 hp3 he1 he2 he3 fa fb fc
    have c0 := HCE.out _ B0.out
    cases k1 <;> cases k2 <;> cases k3
    case false.false.false => exact absurd hq (by decide)
    all_goals
      clear hq
      go_enter Tryz.func3, Tryz.ntmps3
      go_wp2_with (first
        | (go_at_call 4; (with_reducible refine (L1.out _ W0.out).mono ?_); rintro x w1 ⟨rfl, hb1⟩; have B1 := Lib.hid (B0.out.next hb1); have W1 := Lib.hid (W0.out.trans (hb1.mono W0.out.size)); have c1 := HCE.out _ B1.out; clear hb1)
        | (go_at_call 4; (with_reducible refine (L2.out _ W1.out).mono ?_); rintro x w2 ⟨rfl, hb2⟩; have B2 := Lib.hid (B1.out.next hb2); have W2 := Lib.hid (W1.out.trans (hb2.mono W1.out.size)); have c2 := HCE.out _ B2.out; clear hb2)
        | (go_at_call 4; (with_reducible refine (L3.out _ W2.out).mono ?_); rintro x w3 ⟨rfl, hb3⟩; have W3 := Lib.hid (W2.out.trans (hb3.mono W2.out.size)); clear hb3)
        | (go_at_call 5; (with_reducible refine (HAL.out _ W3.out).mono ?_); rintro x w4 ⟨rfl, hb4⟩; have W4 := Lib.hid (W3.out.trans (hb4.mono W3.out.size)); clear hb4)
        | (go_at_call 5; (with_reducible refine (HAL.out _ W2.out).mono ?_); rintro x w4 ⟨rfl, hb4⟩; have W4 := Lib.hid (W2.out.trans (hb4.mono W2.out.size)); clear hb4)
        | (go_at_call 5; (with_reducible refine (HAL.out _ W1.out).mono ?_); rintro x w4 ⟨rfl, hb4⟩; have W4 := Lib.hid (W1.out.trans (hb4.mono W1.out.size)); clear hb4))
      go_ret
      exact ⟨rfl, W4.out⟩
  · have q1 : wtF 0 [a] = false := by cases hx : wtF 0 [a] with | false => rfl | true => exact absurd (.inl hx) hq
    have q2 : wtF 0 [b] = false := by cases hx : wtF 0 [b] with | false => rfl | true => exact absurd (.inr (.inl hx)) hq
    have q3 : wtF 0 [c] = false := by cases hx : wtF 0 [c] with | false => rfl | true => exact absurd (.inr (.inr hx)) hq
    have s1 := sz q1
    have s2 := sz q2
    have s3 := sz q3
    rw [q1] at l1
    rw [q2] at l2
    rw [q3] at l3
    have M1 := Lib.hid l1
    have M2 := Lib.hid l2
    have M3 := Lib.hid l3
    have HAB := Lib.hid (fun W => fun (hW : Below w.heap.size w W) => laterFeed_any a b P1 E1 P2 E2 p1 e1 p2 e2 W (hT.next hW) fa fb s1 s2 (kp W hW hu) (kp W hW hv))
    have HBAL := Lib.hid (fun W => fun (hW : Below w.heap.size w W) => laterFeed_any b a P2 E2 P1 E1 p2 e2 p1 e1 W (hT.next hW) fb fa s2 s1 (kp W hW hv) (kp W hW hu))
    have HBCL := Lib.hid (fun W => fun (hW : Below w.heap.size w W) => laterFeed_any b c P2 E2 P3 E3 p2 e2 p3 e3 W (hT.next hW) fb fc s2 s3 (kp W hW hv) (kp W hW ht))
    have HRAB := Lib.hid (fun W => fun (hW : Below w.heap.size w W) => refLaterFeed_any a b P1 E1 P2 E2 p1 e1 p2 e2 W fa fb s1 s2 (kp W hW hu) (kp W hW hv))
    have hca := fun W => fun (hW : Below w.heap.size w W) => refCheckFeed_any a _ W s1 (kp W hW hu)
    have hcb := fun W => fun (hW : Below w.heap.size w W) => refCheckFeed_any b _ W s2 (kp W hW hv)
    have HS : Hid (∀ (P Q : Fe) (x y : Value) (W : World), FeeV W (· < W.heap.size) P x → FeeV W (· < W.heap.size) Q y → SmF P → SmF Q → sameF P Q = true → Calls Tryz.prog 7 #[x, y] W fun e w' => e = .returned (.bool true) ∧ Below W.heap.size W w') := fun P Q x y W h1 h2 h3 h4 h5 => by
      have := refSameFeed_any P Q x y W h1 h2 h3 h4
      rw [h5] at this
      exact this
    obtain ⟨X, hX⟩ : ∃ X, lat3 cmpKF a b = X := ⟨_, rfl⟩
    have fX : FFit X := hX ▸ lat_fit fa fb
    have sX : FSz X := hX ▸ lat_sz s1 s2
    have fbX := bare_fit fX
    have sbX := bare_sz sX
    obtain ⟨Nf, hN⟩ : ∃ X, lat3 cmpKF b c = X := ⟨_, rfl⟩
    have fN : FFit (bareF Nf) := bare_fit (hN ▸ lat_fit fb fc)
    have sN : FSz (bareF Nf) := bare_sz (hN ▸ lat_sz s2 s3)
    have hXC := fun (W : World) (A : Option Addr) (d : Nat) (hW : Below w.heap.size w W) (hx : FeeV W (· < W.heap.size) (bareF X) (.agg #[.slice A X.path.length d, .string (S X.id), .string (S X.title), .string (S X.link), .int .i64 X.upd, .slice none 0 0])) => laterFeed_any (bareF X) c A none P3 E3 d 0 p3 e3 W (hT.next hW) fbX fc sbX s3 hx (kp W hW ht)
    have hXX := fun (W : World) (A : Option Addr) (d : Nat) (hW : Below w.heap.size w W) (hx : FeeV W (· < W.heap.size) (bareF X) (.agg #[.slice A X.path.length d, .string (S X.id), .string (S X.title), .string (S X.link), .int .i64 X.upd, .slice none 0 0])) => laterFeed_any (bareF X) (bareF X) A none A none d 0 d 0 W (hT.next hW) fbX fbX sbX sbX hx hx
    have hAN := fun (W : World) (A : Option Addr) (d : Nat) (hW : Below w.heap.size w W) (hx : FeeV W (· < W.heap.size) (bareF Nf) (.agg #[.slice A Nf.path.length d, .string (S Nf.id), .string (S Nf.title), .string (S Nf.link), .int .i64 Nf.upd, .slice none 0 0])) => laterFeed_any a (bareF Nf) P1 E1 A none p1 e1 d 0 W (hT.next hW) fa fN s1 sN (kp W hW hu) hx
    have HXCX : Hid (∀ (W : World) (A : Option Addr) (d : Nat), Below w.heap.size w W → FeeV W (· < W.heap.size) (bareF X) (.agg #[.slice A X.path.length d, .string (S X.id), .string (S X.title), .string (S X.link), .int .i64 X.upd, .slice none 0 0]) → Calls Tryz.prog 6 #[.agg #[.slice A X.path.length d, .string (S X.id), .string (S X.title), .string (S X.link), .int .i64 X.upd, .slice none 0 0], .agg #[.slice P3 c.path.length p3, .string (S c.id), .string (S c.title), .string (S c.link), .int .i64 c.upd, .slice E3 c.ents.length e3]] W fun x w' => LatR W.heap.size (lat3 cmpKF (bareF X) c) w' x ∧ Below W.heap.size W w') := hXC
    have HXXX : Hid (∀ (W : World) (A : Option Addr) (d : Nat), Below w.heap.size w W → FeeV W (· < W.heap.size) (bareF X) (.agg #[.slice A X.path.length d, .string (S X.id), .string (S X.title), .string (S X.link), .int .i64 X.upd, .slice none 0 0]) → Calls Tryz.prog 6 #[.agg #[.slice A X.path.length d, .string (S X.id), .string (S X.title), .string (S X.link), .int .i64 X.upd, .slice none 0 0], .agg #[.slice A X.path.length d, .string (S X.id), .string (S X.title), .string (S X.link), .int .i64 X.upd, .slice none 0 0]] W fun x w' => LatR W.heap.size (lat3 cmpKF (bareF X) (bareF X)) w' x ∧ Below W.heap.size W w') := hXX
    have HANX : Hid (∀ (W : World) (A : Option Addr) (d : Nat), Below w.heap.size w W → FeeV W (· < W.heap.size) (bareF Nf) (.agg #[.slice A Nf.path.length d, .string (S Nf.id), .string (S Nf.title), .string (S Nf.link), .int .i64 Nf.upd, .slice none 0 0]) → Calls Tryz.prog 6 #[.agg #[.slice P1 a.path.length p1, .string (S a.id), .string (S a.title), .string (S a.link), .int .i64 a.upd, .slice E1 a.ents.length e1], .agg #[.slice A Nf.path.length d, .string (S Nf.id), .string (S Nf.title), .string (S Nf.link), .int .i64 Nf.upd, .slice none 0 0]] W fun x w' => LatR W.heap.size (lat3 cmpKF a (bareF Nf)) w' x ∧ Below W.heap.size W w') := hAN
    have eyz := lat_assoc a b c
    rw [hX, hN] at eyz
    have EYZ := Lib.hid (show sameF (bareF (lat3 cmpKF (bareF X) c)) (bareF (lat3 cmpKF a (bareF Nf))) = true by rw [eyz]; exact sameF_self _)
    have EXX := Lib.hid (show sameF (bareF (lat3 cmpKF (bareF X) (bareF X))) (bareF X) = true by rw [lat3_same]; exact sameF_self _)
    have SX := Lib.hid (smF sbX)
    have SY := Lib.hid (smF (bare_sz (lat_sz sbX s3)))
    have SZ := Lib.hid (smF (bare_sz (lat_sz s1 sN)))
    have SXX := Lib.hid (smF (bare_sz (lat_sz sbX sbX)))
    have SBA := Lib.hid (smF (bare_sz (lat_sz s2 s1)))
    have hcm := @lat_comm a b
    rw [hX] at hcm
    have HEBA := Lib.hid (show vldF a = true → vldF b = true → sameF (bareF (lat3 cmpKF b a)) (bareF X) = true from fun h1 h2 => by rw [hcm h1 h2]; exact sameF_self _)
    rw [hX] at HAB HRAB
    rw [hN] at HBCL
    have HXL := sX.path
    generalize hva : vldF a = va at *
    generalize hvb : vldF b = vb at *
    generalize hY : lat3 cmpKF (bareF X) c = Y at *
    generalize hZ : lat3 cmpKF a (bareF Nf) = Z at *
    have HCA := Lib.hid hca
    have HCB := Lib.hid hcb
    clear hca hcb hva hvb hY hZ hcm eyz hXC hXX hAN sz kp s1 s2 s3 l1 l2 l3 hal q1 q2 q3 hq hT hu hv ht lf lg lh hp1 hp2 hp3 he1 he2 he3 fa fb fc fX sX fbX sbX fN sN hX hN
    have c0 := HCE.out _ B0.out
    go_enter Tryz.func3, Tryz.ntmps3
    go_wp2_with (first
      | (go_at_call 4; (with_reducible refine (M1.out _ W0.out).mono ?_); rintro x w1 ⟨rfl, hb1⟩; have B1 := Lib.hid (B0.out.next hb1); have W1 := Lib.hid (W0.out.trans (hb1.mono W0.out.size)); have c1 := HCE.out _ B1.out; clear hb1)
      | (go_at_call 4; (with_reducible refine (M2.out _ W1.out).mono ?_); rintro x w2 ⟨rfl, hb2⟩; have B2 := Lib.hid (B1.out.next hb2); have W2 := Lib.hid (W1.out.trans (hb2.mono W1.out.size)); have c2 := HCE.out _ B2.out; clear hb2)
      | (go_at_call 4; (with_reducible refine (M3.out _ W2.out).mono ?_); rintro x w3 ⟨rfl, hb3⟩; have B3 := Lib.hid (B2.out.next hb3); have HB := Lib.hid (W2.out.trans (hb3.mono W2.out.size)); have c3 := HCE.out _ B3.out; clear hb3)
      | (go_at_call 6; (with_reducible refine (HAB.out _ HB.out).mono ?_); rintro x w4 ⟨⟨Ax, cx, rfl, hrow⟩, hb4⟩; have HROW := Lib.hid hrow; have HB4 := Lib.hid hb4; clear hrow hb4))
    clear c0 c1 c2 c3
    have hl3 := heap_lt B3.out.thr
    have hs4 := HB4.out.size
    have HA4 : Hid (Below w4.heap.size w4 (w4.alloc (.cells #[.slice Ax X.path.length cx, .string (S X.id), .string (S X.title), .string (S X.link), .int .i64 X.upd, .slice none 0 0] 25))) := (Below.refl _ _).alloc (Nat.le_refl _) _
    have HBX := Lib.hid ((HB.out.trans (HB4.out.mono HB.out.size)).trans (HA4.out.mono (by have := HB.out.size; omega)))
    have HX0 := Lib.hid (heap_alloc_new w4 (.cells #[.slice Ax X.path.length cx, .string (S X.id), .string (S X.title), .string (S X.link), .int .i64 X.upd, .slice none 0 0] 25))
    have BX := Lib.hid ((B3.out.next HB4.out).next HA4.out)
    have RX := Lib.hid (HROW.out.below strE_ok HA4.out (fun _ h => h.elim))
    have hrx : w.heap.size + 3 ≤ w3.heap.size := by omega
    obtain ⟨gx, hgx⟩ : ∃ g, w4.heap.size = g := ⟨_, rfl⟩
    have hgx3 : w.heap.size + 3 ≤ gx := by omega
    have hgxl : ∀ k, (Value.slice Ax X.path.length cx).ownBlock = some k → k < gx := fun k hk => by have := (HROW.out.lt k hk).2; omega
    have HGXL := Lib.hid hgxl
    rw [hgx] at HX0
    simp only [hgx]
    clear hgxl HROW HB4 HA4 HB B3 M1 M2 M3 B0 W0 hgx hs4 hl3
    generalize w4.alloc (.cells #[.slice Ax X.path.length cx, .string (S X.id), .string (S X.title), .string (S X.link), .int .i64 X.upd, .slice none 0 0] 25) = wx at *
    have hx := HBX.out.size
    have FX : Hid (∀ W, Below wx.heap.size wx W → FeeV W (· < W.heap.size) (bareF X) (.agg #[.slice Ax X.path.length cx, .string (S X.id), .string (S X.title), .string (S X.link), .int .i64 X.upd, .slice none 0 0])) := fun W hW => feeV_next (latR_feeV RX.out) hW
    have KEA : Hid (∀ W, Below wx.heap.size wx W → (W.cell? ⟨w.heap.size, 0, none⟩ = some (.slice P1 a.path.length p1) ∧ W.cell? ⟨w.heap.size, 1, none⟩ = some (.string (S a.id)) ∧ W.cell? ⟨w.heap.size, 2, none⟩ = some (.string (S a.title)) ∧ W.cell? ⟨w.heap.size, 3, none⟩ = some (.string (S a.link)) ∧ W.cell? ⟨w.heap.size, 4, none⟩ = some (.int .i64 a.upd) ∧ W.cell? ⟨w.heap.size, 5, none⟩ = some (.slice E1 a.ents.length e1)) ∧ (W.cell? ⟨w.heap.size + 1, 0, none⟩ = some (.slice P2 b.path.length p2) ∧ W.cell? ⟨w.heap.size + 1, 1, none⟩ = some (.string (S b.id)) ∧ W.cell? ⟨w.heap.size + 1, 2, none⟩ = some (.string (S b.title)) ∧ W.cell? ⟨w.heap.size + 1, 3, none⟩ = some (.string (S b.link)) ∧ W.cell? ⟨w.heap.size + 1, 4, none⟩ = some (.int .i64 b.upd) ∧ W.cell? ⟨w.heap.size + 1, 5, none⟩ = some (.slice E2 b.ents.length e2)) ∧ (W.cell? ⟨w.heap.size + 1 + 1, 0, none⟩ = some (.slice P3 c.path.length p3) ∧ W.cell? ⟨w.heap.size + 1 + 1, 1, none⟩ = some (.string (S c.id)) ∧ W.cell? ⟨w.heap.size + 1 + 1, 2, none⟩ = some (.string (S c.title)) ∧ W.cell? ⟨w.heap.size + 1 + 1, 3, none⟩ = some (.string (S c.link)) ∧ W.cell? ⟨w.heap.size + 1 + 1, 4, none⟩ = some (.int .i64 c.upd) ∧ W.cell? ⟨w.heap.size + 1 + 1, 5, none⟩ = some (.slice E3 c.ents.length e3)) ∧ (W.cell? ⟨gx, 0, none⟩ = some (.slice Ax X.path.length cx) ∧ W.cell? ⟨gx, 1, none⟩ = some (.string (S X.id)) ∧ W.cell? ⟨gx, 2, none⟩ = some (.string (S X.title)) ∧ W.cell? ⟨gx, 3, none⟩ = some (.string (S X.link)) ∧ W.cell? ⟨gx, 4, none⟩ = some (.int .i64 X.upd) ∧ W.cell? ⟨gx, 5, none⟩ = some (.slice none 0 0))) := fun W hW => by
      have h1 := HCE.out _ (BX.out.next hW)
      exact ⟨h1.1, h1.2.1, h1.2.2, cells6 ((hW.block gx (heap_lt HX0.out)).trans HX0.out)⟩
    have KE : Hid (∀ W, Below wx.heap.size wx W → (W.cell? ⟨w.heap.size, 0, none⟩ = some (.slice P1 a.path.length p1) ∧ W.cell? ⟨w.heap.size, 1, none⟩ = some (.string (S a.id)) ∧ W.cell? ⟨w.heap.size, 2, none⟩ = some (.string (S a.title)) ∧ W.cell? ⟨w.heap.size, 3, none⟩ = some (.string (S a.link)) ∧ W.cell? ⟨w.heap.size, 4, none⟩ = some (.int .i64 a.upd) ∧ W.cell? ⟨w.heap.size, 5, none⟩ = some (.slice E1 a.ents.length e1)) ∧ (W.cell? ⟨w.heap.size + 1, 0, none⟩ = some (.slice P2 b.path.length p2) ∧ W.cell? ⟨w.heap.size + 1, 1, none⟩ = some (.string (S b.id)) ∧ W.cell? ⟨w.heap.size + 1, 2, none⟩ = some (.string (S b.title)) ∧ W.cell? ⟨w.heap.size + 1, 3, none⟩ = some (.string (S b.link)) ∧ W.cell? ⟨w.heap.size + 1, 4, none⟩ = some (.int .i64 b.upd) ∧ W.cell? ⟨w.heap.size + 1, 5, none⟩ = some (.slice E2 b.ents.length e2)) ∧ (W.cell? ⟨gx, 0, none⟩ = some (.slice Ax X.path.length cx) ∧ W.cell? ⟨gx, 1, none⟩ = some (.string (S X.id)) ∧ W.cell? ⟨gx, 2, none⟩ = some (.string (S X.title)) ∧ W.cell? ⟨gx, 3, none⟩ = some (.string (S X.link)) ∧ W.cell? ⟨gx, 4, none⟩ = some (.int .i64 X.upd) ∧ W.cell? ⟨gx, 5, none⟩ = some (.slice none 0 0))) := fun W hW => ⟨(KEA.out W hW).1, (KEA.out W hW).2.1, (KEA.out W hW).2.2.2⟩
    go_wp2_with fail
    go_cut [36] (fun s36 wz => s36 = .bool false ∧ Below wx.heap.size wx wz)
    case first =>
      refine wp_region_held_drew (S := fun x => (x.cell? ⟨w.heap.size, 0, none⟩ = some (.slice P1 a.path.length p1) ∧ x.cell? ⟨w.heap.size, 1, none⟩ = some (.string (S a.id)) ∧ x.cell? ⟨w.heap.size, 2, none⟩ = some (.string (S a.title)) ∧ x.cell? ⟨w.heap.size, 3, none⟩ = some (.string (S a.link)) ∧ x.cell? ⟨w.heap.size, 4, none⟩ = some (.int .i64 a.upd) ∧ x.cell? ⟨w.heap.size, 5, none⟩ = some (.slice E1 a.ents.length e1)) ∧ (x.cell? ⟨w.heap.size + 1, 0, none⟩ = some (.slice P2 b.path.length p2) ∧ x.cell? ⟨w.heap.size + 1, 1, none⟩ = some (.string (S b.id)) ∧ x.cell? ⟨w.heap.size + 1, 2, none⟩ = some (.string (S b.title)) ∧ x.cell? ⟨w.heap.size + 1, 3, none⟩ = some (.string (S b.link)) ∧ x.cell? ⟨w.heap.size + 1, 4, none⟩ = some (.int .i64 b.upd) ∧ x.cell? ⟨w.heap.size + 1, 5, none⟩ = some (.slice E2 b.ents.length e2)) ∧ (x.cell? ⟨gx, 0, none⟩ = some (.slice Ax X.path.length cx) ∧ x.cell? ⟨gx, 1, none⟩ = some (.string (S X.id)) ∧ x.cell? ⟨gx, 2, none⟩ = some (.string (S X.title)) ∧ x.cell? ⟨gx, 3, none⟩ = some (.string (S X.link)) ∧ x.cell? ⟨gx, 4, none⟩ = some (.int .i64 X.upd) ∧ x.cell? ⟨gx, 5, none⟩ = some (.slice none 0 0))) (by kernel_rfl) ?_ (fun hHeld => ?_)
      · (try dsimp only); exact KE.out _ (Below.refl _ _).drew
      refine wpAnyH_take (i := 0) (oi := (⟨some 25, _, _, _, _, _⟩ : Oper)) (v := ?_) rfl (by kernel_rfl) (by kernel_rfl) (by kernel_rfl) (fun _ _ _ h => h) (Or.inl ⟨by rfl, ?_⟩) (by assumption) ?_
      rotate_left
      · intro wS hSw; (try dsimp only at hSw); go_simp <;> with_reducible rfl
      simp only [Act.put, List.setIfInBounds_toArray, List.set_cons_zero, List.set_cons_succ]
      refine wpAnyH_take (i := 1) (oi := (⟨some 26, _, _, _, _, _⟩ : Oper)) (v := ?_) rfl (by kernel_rfl) (by kernel_rfl) (by kernel_rfl) (fun _ _ _ h => h) (Or.inl ⟨by rfl, ?_⟩) (by assumption) ?_
      rotate_left
      · intro wS hSw; (try dsimp only at hSw); go_simp <;> with_reducible rfl
      simp only [Act.put, List.setIfInBounds_toArray, List.set_cons_zero, List.set_cons_succ]
      refine wpAnyH_take (i := 2) (oi := (⟨some 27, _, _, _, _, _⟩ : Oper)) (v := ?_) rfl (by kernel_rfl) (by kernel_rfl) (by kernel_rfl) (fun _ _ _ h => h) (Or.inl ⟨by rfl, ?_⟩) (by assumption) ?_
      rotate_left
      · intro wS hSw; (try dsimp only at hSw); go_simp <;> with_reducible rfl
      simp only [Act.put, List.setIfInBounds_toArray, List.set_cons_zero, List.set_cons_succ]
      refine wpAnyH_ready (rs := [3]) (by kernel_rfl) (by simp) ?_
      refine AllReadyH.cons (o := (⟨some 28, _, _, _, _, _⟩ : Oper)) rfl (fun K hK => ?_) ?_
      rotate_left
      · exact AllReadyH.nil
      go_simp
      (go_at_call 8; (with_reducible refine (HRAB.out _ HBX.out.drew).mono ?_); rintro e Wn ⟨⟨A1, c1, rfl, hrow⟩, hb⟩; have F1 := Lib.hid (latR_feeV hrow); have R := Lib.hid ((Below.refl wx.heap.size wx).drew.trans hb); have hz : wx.heap.size ≤ Wn.heap.size := R.out.size; clear hrow hb)
      refine hK.out _ _ ?_ (fun hHeld => ?_)
      · (try dsimp only); exact KE.out _ R.out
      clear hK K
      try simp only [Act.put, List.setIfInBounds_toArray, List.set_cons_zero, List.set_cons_succ]
      refine wpAnyH_ready (rs := [4]) (by kernel_rfl) (by simp) ?_
      refine AllReadyH.cons (o := (⟨some 29, _, _, _, _, _⟩ : Oper)) rfl (fun K hK => ?_) ?_
      rotate_left
      · exact AllReadyH.nil
      go_simp
      (go_at_call 7; (with_reducible refine (HS.out (bareF X) (bareF X) _ _ _ (FX.out _ R.out) F1.out SX.out SX.out (sameF_self _)).mono ?_); rintro e Wn ⟨rfl, hb⟩; have R := Lib.hid (R.out.trans (hb.mono hz)); have hz : wx.heap.size ≤ Wn.heap.size := R.out.size; clear hb)
      refine hK.out _ _ ?_ (fun hHeld => ?_)
      · (try dsimp only); exact KE.out _ R.out
      clear hK K
      try simp only [Act.put, List.setIfInBounds_toArray, List.set_cons_zero, List.set_cons_succ]
      refine wpAnyH_take (i := 5) (oi := (⟨some 30, _, _, _, _, _⟩ : Oper)) (v := ?_) rfl (by kernel_rfl) (by kernel_rfl) (by kernel_rfl) (fun _ _ _ h => h) (Or.inl ⟨by rfl, ?_⟩) (by assumption) ?_
      rotate_left
      · intro wS hSw; (try dsimp only at hSw); go_simp <;> with_reducible rfl
      simp only [Act.put, List.setIfInBounds_toArray, List.set_cons_zero, List.set_cons_succ]
      refine wpAnyH_take (i := 6) (oi := (⟨some 31, _, _, _, _, _⟩ : Oper)) (v := ?_) rfl (by kernel_rfl) (by kernel_rfl) (by kernel_rfl) (fun _ _ _ h => h) (Or.inl ⟨by rfl, ?_⟩) (by assumption) ?_
      rotate_left
      · intro wS hSw; (try dsimp only at hSw); go_simp <;> with_reducible rfl
      simp only [Act.put, List.setIfInBounds_toArray, List.set_cons_zero, List.set_cons_succ]
      refine wpAnyH_take (i := 7) (oi := (⟨some 32, _, _, _, _, _⟩ : Oper)) (v := ?_) rfl (by kernel_rfl) (by kernel_rfl) (by kernel_rfl) (fun _ _ _ h => h) (Or.inl ⟨by rfl, ?_⟩) (by assumption) ?_
      rotate_left
      · intro wS hSw; (try dsimp only at hSw); go_simp <;> with_reducible rfl
      simp only [Act.put, List.setIfInBounds_toArray, List.set_cons_zero, List.set_cons_succ]
      refine wpAnyH_take (i := 8) (oi := (⟨some 33, _, _, _, _, _⟩ : Oper)) (v := ?_) rfl (by kernel_rfl) (by kernel_rfl) (by kernel_rfl) (fun _ _ _ h => h) (Or.inl ⟨by rfl, ?_⟩) (by assumption) ?_
      rotate_left
      · intro wS hSw; (try dsimp only at hSw); go_simp <;> with_reducible rfl
      simp only [Act.put, List.setIfInBounds_toArray, List.set_cons_zero, List.set_cons_succ]
      refine wpAnyH_take (i := 9) (oi := (⟨some 34, _, _, _, _, _⟩ : Oper)) (v := ?_) rfl (by kernel_rfl) (by kernel_rfl) (by kernel_rfl) (fun _ _ _ h => h) (Or.inl ⟨by rfl, ?_⟩) (by assumption) ?_
      rotate_left
      · intro wS hSw; (try dsimp only at hSw); go_simp <;> with_reducible rfl
      simp only [Act.put, List.setIfInBounds_toArray, List.set_cons_zero, List.set_cons_succ]
      refine wpAnyH_take (i := 10) (oi := (⟨some 35, _, _, _, _, _⟩ : Oper)) (v := ?_) rfl (by kernel_rfl) (by kernel_rfl) (by kernel_rfl) (fun _ _ _ h => h) (Or.inl ⟨by rfl, ?_⟩) (by assumption) ?_
      rotate_left
      · intro wS hSw; (try dsimp only at hSw); go_simp <;> with_reducible rfl
      simp only [Act.put, List.setIfInBounds_toArray, List.set_cons_zero, List.set_cons_succ]
      refine wpAnyH_take (i := 11) (oi := (⟨some 36, _, _, _, _, _⟩ : Oper)) (v := ?_) rfl (by kernel_rfl) (by kernel_rfl) (by kernel_rfl) (fun _ _ _ h => h) (Or.inl ⟨by rfl, ?_⟩) (by assumption) ?_
      rotate_left
      · intro wS hSw; (try dsimp only at hSw); go_simp <;> with_reducible rfl
      simp only [Act.put, List.setIfInBounds_toArray, List.set_cons_zero, List.set_cons_succ]
      refine wpAnyH_done (by kernel_rfl) ?_ _
      go_wp2_with fail
      go_meet
      exact ⟨rfl, R.out⟩
    case rest =>
      obtain ⟨rfl, hbc⟩ := hcut
      obtain ⟨wv, ewv⟩ : ∃ x, x = wc := ⟨_, rfl⟩
      subst ewv
      have HBV := Lib.hid (HBX.out.trans (hbc.mono hx))
      have hsv := hbc.size
      have hv := HBV.out.size
      have FV1 : Hid (∀ W, Below wv.heap.size wv W → FeeV W (· < W.heap.size) (bareF X) (.agg #[.slice Ax X.path.length cx, .string (S X.id), .string (S X.title), .string (S X.link), .int .i64 X.upd, .slice none 0 0])) := fun W hW => FX.out W (hbc.trans (hW.mono hsv))
      have KEV : Hid (∀ W, Below wv.heap.size wv W → (W.cell? ⟨w.heap.size, 0, none⟩ = some (.slice P1 a.path.length p1) ∧ W.cell? ⟨w.heap.size, 1, none⟩ = some (.string (S a.id)) ∧ W.cell? ⟨w.heap.size, 2, none⟩ = some (.string (S a.title)) ∧ W.cell? ⟨w.heap.size, 3, none⟩ = some (.string (S a.link)) ∧ W.cell? ⟨w.heap.size, 4, none⟩ = some (.int .i64 a.upd) ∧ W.cell? ⟨w.heap.size, 5, none⟩ = some (.slice E1 a.ents.length e1)) ∧ (W.cell? ⟨w.heap.size + 1, 0, none⟩ = some (.slice P2 b.path.length p2) ∧ W.cell? ⟨w.heap.size + 1, 1, none⟩ = some (.string (S b.id)) ∧ W.cell? ⟨w.heap.size + 1, 2, none⟩ = some (.string (S b.title)) ∧ W.cell? ⟨w.heap.size + 1, 3, none⟩ = some (.string (S b.link)) ∧ W.cell? ⟨w.heap.size + 1, 4, none⟩ = some (.int .i64 b.upd) ∧ W.cell? ⟨w.heap.size + 1, 5, none⟩ = some (.slice E2 b.ents.length e2)) ∧ (W.cell? ⟨w.heap.size + 1 + 1, 0, none⟩ = some (.slice P3 c.path.length p3) ∧ W.cell? ⟨w.heap.size + 1 + 1, 1, none⟩ = some (.string (S c.id)) ∧ W.cell? ⟨w.heap.size + 1 + 1, 2, none⟩ = some (.string (S c.title)) ∧ W.cell? ⟨w.heap.size + 1 + 1, 3, none⟩ = some (.string (S c.link)) ∧ W.cell? ⟨w.heap.size + 1 + 1, 4, none⟩ = some (.int .i64 c.upd) ∧ W.cell? ⟨w.heap.size + 1 + 1, 5, none⟩ = some (.slice E3 c.ents.length e3)) ∧ (W.cell? ⟨gx, 0, none⟩ = some (.slice Ax X.path.length cx) ∧ W.cell? ⟨gx, 1, none⟩ = some (.string (S X.id)) ∧ W.cell? ⟨gx, 2, none⟩ = some (.string (S X.title)) ∧ W.cell? ⟨gx, 3, none⟩ = some (.string (S X.link)) ∧ W.cell? ⟨gx, 4, none⟩ = some (.int .i64 X.upd) ∧ W.cell? ⟨gx, 5, none⟩ = some (.slice none 0 0))) := fun W hW => KEA.out W (hbc.trans (hW.mono hsv))
      have HXV := Lib.hid hbc
      clear hbc KE
      have KE := KEV
      go_wp2_with fail
      go_cut [8, 9] (fun s8 s9 wz => ∃ g8 g9 A8 c8 A9 c9, s8 = .pointer (some ⟨g8, 0, none⟩) ∧ s9 = .pointer (some ⟨g9, 0, none⟩) ∧ wz.heap[g8]? = some (.cells #[.slice A8 Y.path.length c8, .string (S Y.id), .string (S Y.title), .string (S Y.link), .int .i64 Y.upd, .slice none 0 0] 25) ∧ wz.heap[g9]? = some (.cells #[.slice A9 Z.path.length c9, .string (S Z.id), .string (S Z.title), .string (S Z.link), .int .i64 Z.upd, .slice none 0 0] 25) ∧ ElRow strE wz 0 (fun _ => False) (.slice A8 Y.path.length c8) Y.path ∧ ElRow strE wz 0 (fun _ => False) (.slice A9 Z.path.length c9) Z.path ∧ Below wv.heap.size wv wz)
      case first =>
        refine wp_region_held_drew (S := fun x => (x.cell? ⟨w.heap.size, 0, none⟩ = some (.slice P1 a.path.length p1) ∧ x.cell? ⟨w.heap.size, 1, none⟩ = some (.string (S a.id)) ∧ x.cell? ⟨w.heap.size, 2, none⟩ = some (.string (S a.title)) ∧ x.cell? ⟨w.heap.size, 3, none⟩ = some (.string (S a.link)) ∧ x.cell? ⟨w.heap.size, 4, none⟩ = some (.int .i64 a.upd) ∧ x.cell? ⟨w.heap.size, 5, none⟩ = some (.slice E1 a.ents.length e1)) ∧ (x.cell? ⟨w.heap.size + 1, 0, none⟩ = some (.slice P2 b.path.length p2) ∧ x.cell? ⟨w.heap.size + 1, 1, none⟩ = some (.string (S b.id)) ∧ x.cell? ⟨w.heap.size + 1, 2, none⟩ = some (.string (S b.title)) ∧ x.cell? ⟨w.heap.size + 1, 3, none⟩ = some (.string (S b.link)) ∧ x.cell? ⟨w.heap.size + 1, 4, none⟩ = some (.int .i64 b.upd) ∧ x.cell? ⟨w.heap.size + 1, 5, none⟩ = some (.slice E2 b.ents.length e2)) ∧ (x.cell? ⟨w.heap.size + 1 + 1, 0, none⟩ = some (.slice P3 c.path.length p3) ∧ x.cell? ⟨w.heap.size + 1 + 1, 1, none⟩ = some (.string (S c.id)) ∧ x.cell? ⟨w.heap.size + 1 + 1, 2, none⟩ = some (.string (S c.title)) ∧ x.cell? ⟨w.heap.size + 1 + 1, 3, none⟩ = some (.string (S c.link)) ∧ x.cell? ⟨w.heap.size + 1 + 1, 4, none⟩ = some (.int .i64 c.upd) ∧ x.cell? ⟨w.heap.size + 1 + 1, 5, none⟩ = some (.slice E3 c.ents.length e3)) ∧ (x.cell? ⟨gx, 0, none⟩ = some (.slice Ax X.path.length cx) ∧ x.cell? ⟨gx, 1, none⟩ = some (.string (S X.id)) ∧ x.cell? ⟨gx, 2, none⟩ = some (.string (S X.title)) ∧ x.cell? ⟨gx, 3, none⟩ = some (.string (S X.link)) ∧ x.cell? ⟨gx, 4, none⟩ = some (.int .i64 X.upd) ∧ x.cell? ⟨gx, 5, none⟩ = some (.slice none 0 0))) (by kernel_rfl) ?_ (fun hHeld => ?_)
        · (try dsimp only); exact KE.out _ (Below.refl _ _).drew
        refine wpAnyH_take (i := 0) (oi := (⟨some 37, _, _, _, _, _⟩ : Oper)) (v := ?_) rfl (by kernel_rfl) (by kernel_rfl) (by kernel_rfl) (fun _ _ _ h => h) (Or.inl ⟨by rfl, ?_⟩) (by assumption) ?_
        rotate_left
        · intro wS hSw; (try dsimp only at hSw); go_simp <;> with_reducible rfl
        simp only [Act.put, List.setIfInBounds_toArray, List.set_cons_zero, List.set_cons_succ]
        refine wpAnyH_take (i := 1) (oi := (⟨some 38, _, _, _, _, _⟩ : Oper)) (v := ?_) rfl (by kernel_rfl) (by kernel_rfl) (by kernel_rfl) (fun _ _ _ h => h) (Or.inl ⟨by rfl, ?_⟩) (by assumption) ?_
        rotate_left
        · intro wS hSw; (try dsimp only at hSw); go_simp <;> with_reducible rfl
        simp only [Act.put, List.setIfInBounds_toArray, List.set_cons_zero, List.set_cons_succ]
        refine wpAnyH_take (i := 3) (oi := (⟨some 40, _, _, _, _, _⟩ : Oper)) (v := ?_) rfl (by kernel_rfl) (by kernel_rfl) (by kernel_rfl) (fun _ _ _ h => h) (Or.inl ⟨by rfl, ?_⟩) (by assumption) ?_
        rotate_left
        · intro wS hSw; (try dsimp only at hSw); go_simp <;> with_reducible rfl
        simp only [Act.put, List.setIfInBounds_toArray, List.set_cons_zero, List.set_cons_succ]
        refine wpAnyH_take (i := 4) (oi := (⟨some 41, _, _, _, _, _⟩ : Oper)) (v := ?_) rfl (by kernel_rfl) (by kernel_rfl) (by kernel_rfl) (fun _ _ _ h => h) (Or.inl ⟨by rfl, ?_⟩) (by assumption) ?_
        rotate_left
        · intro wS hSw; (try dsimp only at hSw); go_simp <;> with_reducible rfl
        simp only [Act.put, List.setIfInBounds_toArray, List.set_cons_zero, List.set_cons_succ]
        refine wpAnyH_take (i := 5) (oi := (⟨some 42, _, _, _, _, _⟩ : Oper)) (v := ?_) rfl (by kernel_rfl) (by kernel_rfl) (by kernel_rfl) (fun _ _ _ h => h) (Or.inl ⟨by rfl, ?_⟩) (by assumption) ?_
        rotate_left
        · intro wS hSw; (try dsimp only at hSw); go_simp <;> with_reducible rfl
        simp only [Act.put, List.setIfInBounds_toArray, List.set_cons_zero, List.set_cons_succ]
        refine wpAnyH_ready (rs := [2, 8, 9]) (by kernel_rfl) (by simp) ?_
        refine AllReadyH.cons (o := (⟨some 39, _, _, _, _, _⟩ : Oper)) rfl (fun K hK => ?_) ?_
        · go_simp
          (go_at_call 6; (with_reducible refine (HXCX.out _ Ax cx ?_ (FV1.out _ ?_)).mono ?_); (· refine HBV.out.trans (Below.mono ?_ hv); (first | exact (Below.refl _ _).drew | exact ((Below.refl _ _).alloc (Nat.le_refl _) _).drew | exact (((Below.refl _ _).alloc (Nat.le_refl _) _).alloc (by simp) _).drew | exact R.out | exact R.out.alloc hz _ | exact (R.out.alloc hz _).alloc (by simp; omega) _)); (· (first | exact (Below.refl _ _).drew | exact ((Below.refl _ _).alloc (Nat.le_refl _) _).drew | exact (((Below.refl _ _).alloc (Nat.le_refl _) _).alloc (by simp) _).drew | exact R.out | exact R.out.alloc hz _ | exact (R.out.alloc hz _).alloc (by simp; omega) _)); rintro e W1 ⟨⟨A1, c1, rfl, hrow⟩, hb⟩; have ROW1 := Lib.hid (hrow.base_ (Nat.zero_le _)); have HB1 := Lib.hid hb; have sz1 := hb.size; (try simp at sz1); have R := Lib.hid (below_go (U := wv) hb (by (first | exact (Below.refl _ _).drew | exact ((Below.refl _ _).alloc (Nat.le_refl _) _).drew | exact (((Below.refl _ _).alloc (Nat.le_refl _) _).alloc (by simp) _).drew | exact R.out | exact R.out.alloc hz _ | exact (R.out.alloc hz _).alloc (by simp; omega) _))); have hz : wv.heap.size ≤ W1.heap.size := R.out.size; clear hrow hb)
          refine hK.out _ _ ?_ (fun hHeld => ?_)
          · (try dsimp only); (first | exact KE.out _ (Below.refl _ _).drew | exact KE.out _ ((Below.refl _ _).alloc (Nat.le_refl _) _).drew | exact KE.out _ (((Below.refl _ _).alloc (Nat.le_refl _) _).alloc (by simp) _).drew | exact KE.out _ R.out | exact KE.out _ (R.out.alloc hz _) | exact KE.out _ ((R.out.alloc hz _).alloc (by simp; omega) _))
          clear hK K
          try simp only [Act.put, List.setIfInBounds_toArray, List.set_cons_zero, List.set_cons_succ]
          refine wpAnyH_ready (rs := [6, 8, 9]) (by kernel_rfl) (by simp) ?_
          refine AllReadyH.cons (o := (⟨some 43, _, _, _, _, _⟩ : Oper)) rfl (fun K hK => ?_) ?_
          · go_simp
            (go_at_call 6; (with_reducible refine (HBCL.out _ ?_).mono ?_); (· refine HBV.out.trans (Below.mono ?_ hv); (first | exact (Below.refl _ _).drew | exact ((Below.refl _ _).alloc (Nat.le_refl _) _).drew | exact (((Below.refl _ _).alloc (Nat.le_refl _) _).alloc (by simp) _).drew | exact R.out | exact R.out.alloc hz _ | exact (R.out.alloc hz _).alloc (by simp; omega) _)); rintro e W2 ⟨⟨An, cn, rfl, hrow⟩, hb⟩; have FN := Lib.hid (latR_feeV hrow); have HB2 := Lib.hid hb; have sz2 := hb.size; (try simp at sz2); have R := Lib.hid (below_go (U := wv) hb (by (first | exact (Below.refl _ _).drew | exact ((Below.refl _ _).alloc (Nat.le_refl _) _).drew | exact (((Below.refl _ _).alloc (Nat.le_refl _) _).alloc (by simp) _).drew | exact R.out | exact R.out.alloc hz _ | exact (R.out.alloc hz _).alloc (by simp; omega) _))); have hz : wv.heap.size ≤ W2.heap.size := R.out.size; clear hrow hb)
            refine hK.out _ _ ?_ (fun hHeld => ?_)
            · (try dsimp only); (first | exact KE.out _ (Below.refl _ _).drew | exact KE.out _ ((Below.refl _ _).alloc (Nat.le_refl _) _).drew | exact KE.out _ (((Below.refl _ _).alloc (Nat.le_refl _) _).alloc (by simp) _).drew | exact KE.out _ R.out | exact KE.out _ (R.out.alloc hz _) | exact KE.out _ ((R.out.alloc hz _).alloc (by simp; omega) _))
            clear hK K
            try simp only [Act.put, List.setIfInBounds_toArray, List.set_cons_zero, List.set_cons_succ]
            refine wpAnyH_ready (rs := [7, 8, 9]) (by kernel_rfl) (by simp) ?_
            refine AllReadyH.cons (o := (⟨some 44, _, _, _, _, _⟩ : Oper)) rfl (fun K hK => ?_) ?_
            · go_simp
              (go_at_call 6; (with_reducible refine (HANX.out _ An cn ?_ ?_).mono ?_); (· refine HBV.out.trans (Below.mono ?_ hv); (first | exact (Below.refl _ _).drew | exact ((Below.refl _ _).alloc (Nat.le_refl _) _).drew | exact (((Below.refl _ _).alloc (Nat.le_refl _) _).alloc (by simp) _).drew | exact R.out | exact R.out.alloc hz _ | exact (R.out.alloc hz _).alloc (by simp; omega) _)); (· first | exact FN.out | exact feeV_next FN.out ((Below.refl _ _).alloc (Nat.le_refl _) _) | exact feeV_next (feeV_next FN.out ((Below.refl _ _).alloc (Nat.le_refl _) _)) ((Below.refl _ _).alloc (Nat.le_refl _) _)); rintro e W3 ⟨⟨A3, c3, rfl, hrow⟩, hb⟩; have ROW3 := Lib.hid (hrow.base_ (Nat.zero_le _)); have HB3 := Lib.hid hb; have sz3 := hb.size; (try simp at sz3); have R := Lib.hid (below_go (U := wv) hb (by (first | exact (Below.refl _ _).drew | exact ((Below.refl _ _).alloc (Nat.le_refl _) _).drew | exact (((Below.refl _ _).alloc (Nat.le_refl _) _).alloc (by simp) _).drew | exact R.out | exact R.out.alloc hz _ | exact (R.out.alloc hz _).alloc (by simp; omega) _))); have hz : wv.heap.size ≤ W3.heap.size := R.out.size; clear hrow hb)
              refine hK.out _ _ ?_ (fun hHeld => ?_)
              · (try dsimp only); (first | exact KE.out _ (Below.refl _ _).drew | exact KE.out _ ((Below.refl _ _).alloc (Nat.le_refl _) _).drew | exact KE.out _ (((Below.refl _ _).alloc (Nat.le_refl _) _).alloc (by simp) _).drew | exact KE.out _ R.out | exact KE.out _ (R.out.alloc hz _) | exact KE.out _ ((R.out.alloc hz _).alloc (by simp; omega) _))
              clear hK K
              try simp only [Act.put, List.setIfInBounds_toArray, List.set_cons_zero, List.set_cons_succ]
              refine wpAnyH_ready (rs := [8, 9]) (by kernel_rfl) (by simp) ?_
              refine AllReadyH.cons (o := (⟨some 8, _, _, _, _, _⟩ : Oper)) rfl (fun K hK => ?_) ?_
              · go_simp
                refine hK.out _ _ ?_ (fun hHeld => ?_)
                · (try dsimp only); (first | exact KE.out _ (Below.refl _ _).drew | exact KE.out _ ((Below.refl _ _).alloc (Nat.le_refl _) _).drew | exact KE.out _ (((Below.refl _ _).alloc (Nat.le_refl _) _).alloc (by simp) _).drew | exact KE.out _ R.out | exact KE.out _ (R.out.alloc hz _) | exact KE.out _ ((R.out.alloc hz _).alloc (by simp; omega) _))
                clear hK K
                try simp only [Act.put, List.setIfInBounds_toArray, List.set_cons_zero, List.set_cons_succ]
                refine wpAnyH_ready (rs := [9]) (by kernel_rfl) (by simp) ?_
                refine AllReadyH.cons (o := (⟨some 9, _, _, _, _, _⟩ : Oper)) rfl (fun K hK => ?_) ?_
                · go_simp
                  refine hK.out _ _ ?_ (fun hHeld => ?_)
                  · (try dsimp only); (first | exact KE.out _ (Below.refl _ _).drew | exact KE.out _ ((Below.refl _ _).alloc (Nat.le_refl _) _).drew | exact KE.out _ (((Below.refl _ _).alloc (Nat.le_refl _) _).alloc (by simp) _).drew | exact KE.out _ R.out | exact KE.out _ (R.out.alloc hz _) | exact KE.out _ ((R.out.alloc hz _).alloc (by simp; omega) _))
                  clear hK K
                  try simp only [Act.put, List.setIfInBounds_toArray, List.set_cons_zero, List.set_cons_succ]
                  refine wpAnyH_ready (rs := [10]) (by kernel_rfl) (by simp) ?_
                  refine AllReadyH.cons (o := (⟨none, _, _, _, _, _⟩ : Oper)) rfl (fun K hK => ?_) ?_
                  · (refine store_fee_step rfl (.tmp 8) (.tmp 39) rfl _ _ _ _ _ _ _ _ _ _ _ rfl rfl ?_ ?_; (· repeat (first | exact heap_alloc_new _ _ | exact heap_alloc_new1 _ _ _ | refine blk_alloc ?_ | refine blk_hid HB3 ?_ | refine blk_hid HB2 ?_ | refine blk_hid HB1 ?_ | refine blk_drew ?_)); intro W5 h5 u5; have R := Lib.hid (below_upd (V := wv) u5 (by (first | exact (Below.refl _ _).drew | exact ((Below.refl _ _).alloc (Nat.le_refl _) _).drew | exact (((Below.refl _ _).alloc (Nat.le_refl _) _).alloc (by simp) _).drew | exact R.out | exact R.out.alloc hz _ | exact (R.out.alloc hz _).alloc (by simp; omega) _)) (Nat.le_refl _) (by first | omega | (simp; omega))); have hz : wv.heap.size ≤ W5.heap.size := R.out.size)
                    refine hK.out _ _ ?_ (fun hHeld => ?_)
                    · (try dsimp only); (first | exact KE.out _ (Below.refl _ _).drew | exact KE.out _ ((Below.refl _ _).alloc (Nat.le_refl _) _).drew | exact KE.out _ (((Below.refl _ _).alloc (Nat.le_refl _) _).alloc (by simp) _).drew | exact KE.out _ R.out | exact KE.out _ (R.out.alloc hz _) | exact KE.out _ ((R.out.alloc hz _).alloc (by simp; omega) _))
                    clear hK K
                    try simp only [Act.put, List.setIfInBounds_toArray, List.set_cons_zero, List.set_cons_succ]
                    refine wpAnyH_ready (rs := [11]) (by kernel_rfl) (by simp) ?_
                    refine AllReadyH.cons (o := (⟨none, _, _, _, _, _⟩ : Oper)) rfl (fun K hK => ?_) ?_
                    · (refine store_fee_step rfl (.tmp 9) (.tmp 44) rfl _ _ _ _ _ _ _ _ _ _ _ rfl rfl (upd_zero u5 ?_ ?_) ?_; (· repeat (first | exact heap_alloc_new _ _ | exact heap_alloc_new1 _ _ _ | refine blk_alloc ?_ | refine blk_hid HB3 ?_ | refine blk_hid HB2 ?_ | refine blk_hid HB1 ?_ | refine blk_drew ?_)); (· first | omega | (simp; omega)); intro W6 h6 u6; have R := Lib.hid (below_upd u6 R.out (Nat.le_refl _) (by first | omega | (simp; omega))); have hz : wv.heap.size ≤ W6.heap.size := R.out.size)
                      refine hK.out _ _ ?_ (fun hHeld => ?_)
                      · (try dsimp only); (first | exact KE.out _ (Below.refl _ _).drew | exact KE.out _ ((Below.refl _ _).alloc (Nat.le_refl _) _).drew | exact KE.out _ (((Below.refl _ _).alloc (Nat.le_refl _) _).alloc (by simp) _).drew | exact KE.out _ R.out | exact KE.out _ (R.out.alloc hz _) | exact KE.out _ ((R.out.alloc hz _).alloc (by simp; omega) _))
                      clear hK K
                      try simp only [Act.put, List.setIfInBounds_toArray, List.set_cons_zero, List.set_cons_succ]
                      refine wpAnyH_done (by kernel_rfl) ?_ _
                      go_wp2_with fail
                      go_meet
                      refine ⟨_, _, A1, c1, A3, c3, rfl, rfl, upd_zero u6 h5 ?_, h6, row_upd (cur := _) u6 (row_upd u5 ?_ (by repeat (first | exact heap_alloc_new _ _ | exact heap_alloc_new1 _ _ _ | refine blk_alloc ?_ | refine blk_hid HB3 ?_ | refine blk_hid HB2 ?_ | refine blk_hid HB1 ?_ | refine blk_drew ?_))) (upd_zero u5 (by repeat (first | exact heap_alloc_new _ _ | exact heap_alloc_new1 _ _ _ | refine blk_alloc ?_ | refine blk_hid HB3 ?_ | refine blk_hid HB2 ?_ | refine blk_hid HB1 ?_ | refine blk_drew ?_)) ?_), row_upd u6 (row_upd u5 ?_ (by repeat (first | exact heap_alloc_new _ _ | exact heap_alloc_new1 _ _ _ | refine blk_alloc ?_ | refine blk_hid HB3 ?_ | refine blk_hid HB2 ?_ | refine blk_hid HB1 ?_ | refine blk_drew ?_))) (upd_zero u5 (by repeat (first | exact heap_alloc_new _ _ | exact heap_alloc_new1 _ _ _ | refine blk_alloc ?_ | refine blk_hid HB3 ?_ | refine blk_hid HB2 ?_ | refine blk_hid HB1 ?_ | refine blk_drew ?_)) ?_), R.out⟩
                      all_goals
                        first
                          | omega
                          | (simp; omega)
                          | (repeat (first | exact ROW3.out | exact ROW1.out | refine row_alloc ?_ | refine row_hid HB3 ?_ | refine row_hid HB2 ?_))
                    exact AllReadyH.nil
                  exact AllReadyH.nil
                exact AllReadyH.nil
              refine AllReadyH.cons (o := (⟨some 9, _, _, _, _, _⟩ : Oper)) rfl (fun K hK => ?_) ?_
              · go_simp
                refine hK.out _ _ ?_ (fun hHeld => ?_)
                · (try dsimp only); (first | exact KE.out _ (Below.refl _ _).drew | exact KE.out _ ((Below.refl _ _).alloc (Nat.le_refl _) _).drew | exact KE.out _ (((Below.refl _ _).alloc (Nat.le_refl _) _).alloc (by simp) _).drew | exact KE.out _ R.out | exact KE.out _ (R.out.alloc hz _) | exact KE.out _ ((R.out.alloc hz _).alloc (by simp; omega) _))
                clear hK K
                try simp only [Act.put, List.setIfInBounds_toArray, List.set_cons_zero, List.set_cons_succ]
                refine wpAnyH_ready (rs := [8]) (by kernel_rfl) (by simp) ?_
                refine AllReadyH.cons (o := (⟨some 8, _, _, _, _, _⟩ : Oper)) rfl (fun K hK => ?_) ?_
                · go_simp
                  refine hK.out _ _ ?_ (fun hHeld => ?_)
                  · (try dsimp only); (first | exact KE.out _ (Below.refl _ _).drew | exact KE.out _ ((Below.refl _ _).alloc (Nat.le_refl _) _).drew | exact KE.out _ (((Below.refl _ _).alloc (Nat.le_refl _) _).alloc (by simp) _).drew | exact KE.out _ R.out | exact KE.out _ (R.out.alloc hz _) | exact KE.out _ ((R.out.alloc hz _).alloc (by simp; omega) _))
                  clear hK K
                  try simp only [Act.put, List.setIfInBounds_toArray, List.set_cons_zero, List.set_cons_succ]
                  refine wpAnyH_ready (rs := [10]) (by kernel_rfl) (by simp) ?_
                  refine AllReadyH.cons (o := (⟨none, _, _, _, _, _⟩ : Oper)) rfl (fun K hK => ?_) ?_
                  · (refine store_fee_step rfl (.tmp 8) (.tmp 39) rfl _ _ _ _ _ _ _ _ _ _ _ rfl rfl ?_ ?_; (· repeat (first | exact heap_alloc_new _ _ | exact heap_alloc_new1 _ _ _ | refine blk_alloc ?_ | refine blk_hid HB3 ?_ | refine blk_hid HB2 ?_ | refine blk_hid HB1 ?_ | refine blk_drew ?_)); intro W5 h5 u5; have R := Lib.hid (below_upd (V := wv) u5 (by (first | exact (Below.refl _ _).drew | exact ((Below.refl _ _).alloc (Nat.le_refl _) _).drew | exact (((Below.refl _ _).alloc (Nat.le_refl _) _).alloc (by simp) _).drew | exact R.out | exact R.out.alloc hz _ | exact (R.out.alloc hz _).alloc (by simp; omega) _)) (Nat.le_refl _) (by first | omega | (simp; omega))); have hz : wv.heap.size ≤ W5.heap.size := R.out.size)
                    refine hK.out _ _ ?_ (fun hHeld => ?_)
                    · (try dsimp only); (first | exact KE.out _ (Below.refl _ _).drew | exact KE.out _ ((Below.refl _ _).alloc (Nat.le_refl _) _).drew | exact KE.out _ (((Below.refl _ _).alloc (Nat.le_refl _) _).alloc (by simp) _).drew | exact KE.out _ R.out | exact KE.out _ (R.out.alloc hz _) | exact KE.out _ ((R.out.alloc hz _).alloc (by simp; omega) _))
                    clear hK K
                    try simp only [Act.put, List.setIfInBounds_toArray, List.set_cons_zero, List.set_cons_succ]
                    refine wpAnyH_ready (rs := [11]) (by kernel_rfl) (by simp) ?_
                    refine AllReadyH.cons (o := (⟨none, _, _, _, _, _⟩ : Oper)) rfl (fun K hK => ?_) ?_
                    · (refine store_fee_step rfl (.tmp 9) (.tmp 44) rfl _ _ _ _ _ _ _ _ _ _ _ rfl rfl (upd_zero u5 ?_ ?_) ?_; (· repeat (first | exact heap_alloc_new _ _ | exact heap_alloc_new1 _ _ _ | refine blk_alloc ?_ | refine blk_hid HB3 ?_ | refine blk_hid HB2 ?_ | refine blk_hid HB1 ?_ | refine blk_drew ?_)); (· first | omega | (simp; omega)); intro W6 h6 u6; have R := Lib.hid (below_upd u6 R.out (Nat.le_refl _) (by first | omega | (simp; omega))); have hz : wv.heap.size ≤ W6.heap.size := R.out.size)
                      refine hK.out _ _ ?_ (fun hHeld => ?_)
                      · (try dsimp only); (first | exact KE.out _ (Below.refl _ _).drew | exact KE.out _ ((Below.refl _ _).alloc (Nat.le_refl _) _).drew | exact KE.out _ (((Below.refl _ _).alloc (Nat.le_refl _) _).alloc (by simp) _).drew | exact KE.out _ R.out | exact KE.out _ (R.out.alloc hz _) | exact KE.out _ ((R.out.alloc hz _).alloc (by simp; omega) _))
                      clear hK K
                      try simp only [Act.put, List.setIfInBounds_toArray, List.set_cons_zero, List.set_cons_succ]
                      refine wpAnyH_done (by kernel_rfl) ?_ _
                      go_wp2_with fail
                      go_meet
                      refine ⟨_, _, A1, c1, A3, c3, rfl, rfl, upd_zero u6 h5 ?_, h6, row_upd (cur := _) u6 (row_upd u5 ?_ (by repeat (first | exact heap_alloc_new _ _ | exact heap_alloc_new1 _ _ _ | refine blk_alloc ?_ | refine blk_hid HB3 ?_ | refine blk_hid HB2 ?_ | refine blk_hid HB1 ?_ | refine blk_drew ?_))) (upd_zero u5 (by repeat (first | exact heap_alloc_new _ _ | exact heap_alloc_new1 _ _ _ | refine blk_alloc ?_ | refine blk_hid HB3 ?_ | refine blk_hid HB2 ?_ | refine blk_hid HB1 ?_ | refine blk_drew ?_)) ?_), row_upd u6 (row_upd u5 ?_ (by repeat (first | exact heap_alloc_new _ _ | exact heap_alloc_new1 _ _ _ | refine blk_alloc ?_ | refine blk_hid HB3 ?_ | refine blk_hid HB2 ?_ | refine blk_hid HB1 ?_ | refine blk_drew ?_))) (upd_zero u5 (by repeat (first | exact heap_alloc_new _ _ | exact heap_alloc_new1 _ _ _ | refine blk_alloc ?_ | refine blk_hid HB3 ?_ | refine blk_hid HB2 ?_ | refine blk_hid HB1 ?_ | refine blk_drew ?_)) ?_), R.out⟩
                      all_goals
                        first
                          | omega
                          | (simp; omega)
                          | (repeat (first | exact ROW3.out | exact ROW1.out | refine row_alloc ?_ | refine row_hid HB3 ?_ | refine row_hid HB2 ?_))
                    exact AllReadyH.nil
                  exact AllReadyH.nil
                exact AllReadyH.nil
              exact AllReadyH.nil
            refine AllReadyH.cons (o := (⟨some 8, _, _, _, _, _⟩ : Oper)) rfl (fun K hK => ?_) ?_
            · go_simp
              refine hK.out _ _ ?_ (fun hHeld => ?_)
              · (try dsimp only); (first | exact KE.out _ (Below.refl _ _).drew | exact KE.out _ ((Below.refl _ _).alloc (Nat.le_refl _) _).drew | exact KE.out _ (((Below.refl _ _).alloc (Nat.le_refl _) _).alloc (by simp) _).drew | exact KE.out _ R.out | exact KE.out _ (R.out.alloc hz _) | exact KE.out _ ((R.out.alloc hz _).alloc (by simp; omega) _))
              clear hK K
              try simp only [Act.put, List.setIfInBounds_toArray, List.set_cons_zero, List.set_cons_succ]
              refine wpAnyH_ready (rs := [7, 9]) (by kernel_rfl) (by simp) ?_
              refine AllReadyH.cons (o := (⟨some 44, _, _, _, _, _⟩ : Oper)) rfl (fun K hK => ?_) ?_
              · go_simp
                (go_at_call 6; (with_reducible refine (HANX.out _ An cn ?_ ?_).mono ?_); (· refine HBV.out.trans (Below.mono ?_ hv); (first | exact (Below.refl _ _).drew | exact ((Below.refl _ _).alloc (Nat.le_refl _) _).drew | exact (((Below.refl _ _).alloc (Nat.le_refl _) _).alloc (by simp) _).drew | exact R.out | exact R.out.alloc hz _ | exact (R.out.alloc hz _).alloc (by simp; omega) _)); (· first | exact FN.out | exact feeV_next FN.out ((Below.refl _ _).alloc (Nat.le_refl _) _) | exact feeV_next (feeV_next FN.out ((Below.refl _ _).alloc (Nat.le_refl _) _)) ((Below.refl _ _).alloc (Nat.le_refl _) _)); rintro e W3 ⟨⟨A3, c3, rfl, hrow⟩, hb⟩; have ROW3 := Lib.hid (hrow.base_ (Nat.zero_le _)); have HB3 := Lib.hid hb; have sz3 := hb.size; (try simp at sz3); have R := Lib.hid (below_go (U := wv) hb (by (first | exact (Below.refl _ _).drew | exact ((Below.refl _ _).alloc (Nat.le_refl _) _).drew | exact (((Below.refl _ _).alloc (Nat.le_refl _) _).alloc (by simp) _).drew | exact R.out | exact R.out.alloc hz _ | exact (R.out.alloc hz _).alloc (by simp; omega) _))); have hz : wv.heap.size ≤ W3.heap.size := R.out.size; clear hrow hb)
                refine hK.out _ _ ?_ (fun hHeld => ?_)
                · (try dsimp only); (first | exact KE.out _ (Below.refl _ _).drew | exact KE.out _ ((Below.refl _ _).alloc (Nat.le_refl _) _).drew | exact KE.out _ (((Below.refl _ _).alloc (Nat.le_refl _) _).alloc (by simp) _).drew | exact KE.out _ R.out | exact KE.out _ (R.out.alloc hz _) | exact KE.out _ ((R.out.alloc hz _).alloc (by simp; omega) _))
                clear hK K
                try simp only [Act.put, List.setIfInBounds_toArray, List.set_cons_zero, List.set_cons_succ]
                refine wpAnyH_ready (rs := [9]) (by kernel_rfl) (by simp) ?_
                refine AllReadyH.cons (o := (⟨some 9, _, _, _, _, _⟩ : Oper)) rfl (fun K hK => ?_) ?_
                · go_simp
                  refine hK.out _ _ ?_ (fun hHeld => ?_)
                  · (try dsimp only); (first | exact KE.out _ (Below.refl _ _).drew | exact KE.out _ ((Below.refl _ _).alloc (Nat.le_refl _) _).drew | exact KE.out _ (((Below.refl _ _).alloc (Nat.le_refl _) _).alloc (by simp) _).drew | exact KE.out _ R.out | exact KE.out _ (R.out.alloc hz _) | exact KE.out _ ((R.out.alloc hz _).alloc (by simp; omega) _))
                  clear hK K
                  try simp only [Act.put, List.setIfInBounds_toArray, List.set_cons_zero, List.set_cons_succ]
                  refine wpAnyH_ready (rs := [10]) (by kernel_rfl) (by simp) ?_
                  refine AllReadyH.cons (o := (⟨none, _, _, _, _, _⟩ : Oper)) rfl (fun K hK => ?_) ?_
                  · (refine store_fee_step rfl (.tmp 8) (.tmp 39) rfl _ _ _ _ _ _ _ _ _ _ _ rfl rfl ?_ ?_; (· repeat (first | exact heap_alloc_new _ _ | exact heap_alloc_new1 _ _ _ | refine blk_alloc ?_ | refine blk_hid HB3 ?_ | refine blk_hid HB2 ?_ | refine blk_hid HB1 ?_ | refine blk_drew ?_)); intro W5 h5 u5; have R := Lib.hid (below_upd (V := wv) u5 (by (first | exact (Below.refl _ _).drew | exact ((Below.refl _ _).alloc (Nat.le_refl _) _).drew | exact (((Below.refl _ _).alloc (Nat.le_refl _) _).alloc (by simp) _).drew | exact R.out | exact R.out.alloc hz _ | exact (R.out.alloc hz _).alloc (by simp; omega) _)) (Nat.le_refl _) (by first | omega | (simp; omega))); have hz : wv.heap.size ≤ W5.heap.size := R.out.size)
                    refine hK.out _ _ ?_ (fun hHeld => ?_)
                    · (try dsimp only); (first | exact KE.out _ (Below.refl _ _).drew | exact KE.out _ ((Below.refl _ _).alloc (Nat.le_refl _) _).drew | exact KE.out _ (((Below.refl _ _).alloc (Nat.le_refl _) _).alloc (by simp) _).drew | exact KE.out _ R.out | exact KE.out _ (R.out.alloc hz _) | exact KE.out _ ((R.out.alloc hz _).alloc (by simp; omega) _))
                    clear hK K
                    try simp only [Act.put, List.setIfInBounds_toArray, List.set_cons_zero, List.set_cons_succ]
                    refine wpAnyH_ready (rs := [11]) (by kernel_rfl) (by simp) ?_
                    refine AllReadyH.cons (o := (⟨none, _, _, _, _, _⟩ : Oper)) rfl (fun K hK => ?_) ?_
                    · (refine store_fee_step rfl (.tmp 9) (.tmp 44) rfl _ _ _ _ _ _ _ _ _ _ _ rfl rfl (upd_zero u5 ?_ ?_) ?_; (· repeat (first | exact heap_alloc_new _ _ | exact heap_alloc_new1 _ _ _ | refine blk_alloc ?_ | refine blk_hid HB3 ?_ | refine blk_hid HB2 ?_ | refine blk_hid HB1 ?_ | refine blk_drew ?_)); (· first | omega | (simp; omega)); intro W6 h6 u6; have R := Lib.hid (below_upd u6 R.out (Nat.le_refl _) (by first | omega | (simp; omega))); have hz : wv.heap.size ≤ W6.heap.size := R.out.size)
                      refine hK.out _ _ ?_ (fun hHeld => ?_)
                      · (try dsimp only); (first | exact KE.out _ (Below.refl _ _).drew | exact KE.out _ ((Below.refl _ _).alloc (Nat.le_refl _) _).drew | exact KE.out _ (((Below.refl _ _).alloc (Nat.le_refl _) _).alloc (by simp) _).drew | exact KE.out _ R.out | exact KE.out _ (R.out.alloc hz _) | exact KE.out _ ((R.out.alloc hz _).alloc (by simp; omega) _))
                      clear hK K
                      try simp only [Act.put, List.setIfInBounds_toArray, List.set_cons_zero, List.set_cons_succ]
                      refine wpAnyH_done (by kernel_rfl) ?_ _
                      go_wp2_with fail
                      go_meet
                      refine ⟨_, _, A1, c1, A3, c3, rfl, rfl, upd_zero u6 h5 ?_, h6, row_upd (cur := _) u6 (row_upd u5 ?_ (by repeat (first | exact heap_alloc_new _ _ | exact heap_alloc_new1 _ _ _ | refine blk_alloc ?_ | refine blk_hid HB3 ?_ | refine blk_hid HB2 ?_ | refine blk_hid HB1 ?_ | refine blk_drew ?_))) (upd_zero u5 (by repeat (first | exact heap_alloc_new _ _ | exact heap_alloc_new1 _ _ _ | refine blk_alloc ?_ | refine blk_hid HB3 ?_ | refine blk_hid HB2 ?_ | refine blk_hid HB1 ?_ | refine blk_drew ?_)) ?_), row_upd u6 (row_upd u5 ?_ (by repeat (first | exact heap_alloc_new _ _ | exact heap_alloc_new1 _ _ _ | refine blk_alloc ?_ | refine blk_hid HB3 ?_ | refine blk_hid HB2 ?_ | refine blk_hid HB1 ?_ | refine blk_drew ?_))) (upd_zero u5 (by repeat (first | exact heap_alloc_new _ _ | exact heap_alloc_new1 _ _ _ | refine blk_alloc ?_ | refine blk_hid HB3 ?_ | refine blk_hid HB2 ?_ | refine blk_hid HB1 ?_ | refine blk_drew ?_)) ?_), R.out⟩
                      all_goals
                        first
                          | omega
                          | (simp; omega)
                          | (repeat (first | exact ROW3.out | exact ROW1.out | refine row_alloc ?_ | refine row_hid HB3 ?_ | refine row_hid HB2 ?_))
                    exact AllReadyH.nil
                  exact AllReadyH.nil
                exact AllReadyH.nil
              refine AllReadyH.cons (o := (⟨some 9, _, _, _, _, _⟩ : Oper)) rfl (fun K hK => ?_) ?_
              · go_simp
                refine hK.out _ _ ?_ (fun hHeld => ?_)
                · (try dsimp only); (first | exact KE.out _ (Below.refl _ _).drew | exact KE.out _ ((Below.refl _ _).alloc (Nat.le_refl _) _).drew | exact KE.out _ (((Below.refl _ _).alloc (Nat.le_refl _) _).alloc (by simp) _).drew | exact KE.out _ R.out | exact KE.out _ (R.out.alloc hz _) | exact KE.out _ ((R.out.alloc hz _).alloc (by simp; omega) _))
                clear hK K
                try simp only [Act.put, List.setIfInBounds_toArray, List.set_cons_zero, List.set_cons_succ]
                refine wpAnyH_ready (rs := [7]) (by kernel_rfl) (by simp) ?_
                refine AllReadyH.cons (o := (⟨some 44, _, _, _, _, _⟩ : Oper)) rfl (fun K hK => ?_) ?_
                · go_simp
                  (go_at_call 6; (with_reducible refine (HANX.out _ An cn ?_ ?_).mono ?_); (· refine HBV.out.trans (Below.mono ?_ hv); (first | exact (Below.refl _ _).drew | exact ((Below.refl _ _).alloc (Nat.le_refl _) _).drew | exact (((Below.refl _ _).alloc (Nat.le_refl _) _).alloc (by simp) _).drew | exact R.out | exact R.out.alloc hz _ | exact (R.out.alloc hz _).alloc (by simp; omega) _)); (· first | exact FN.out | exact feeV_next FN.out ((Below.refl _ _).alloc (Nat.le_refl _) _) | exact feeV_next (feeV_next FN.out ((Below.refl _ _).alloc (Nat.le_refl _) _)) ((Below.refl _ _).alloc (Nat.le_refl _) _)); rintro e W3 ⟨⟨A3, c3, rfl, hrow⟩, hb⟩; have ROW3 := Lib.hid (hrow.base_ (Nat.zero_le _)); have HB3 := Lib.hid hb; have sz3 := hb.size; (try simp at sz3); have R := Lib.hid (below_go (U := wv) hb (by (first | exact (Below.refl _ _).drew | exact ((Below.refl _ _).alloc (Nat.le_refl _) _).drew | exact (((Below.refl _ _).alloc (Nat.le_refl _) _).alloc (by simp) _).drew | exact R.out | exact R.out.alloc hz _ | exact (R.out.alloc hz _).alloc (by simp; omega) _))); have hz : wv.heap.size ≤ W3.heap.size := R.out.size; clear hrow hb)
                  refine hK.out _ _ ?_ (fun hHeld => ?_)
                  · (try dsimp only); (first | exact KE.out _ (Below.refl _ _).drew | exact KE.out _ ((Below.refl _ _).alloc (Nat.le_refl _) _).drew | exact KE.out _ (((Below.refl _ _).alloc (Nat.le_refl _) _).alloc (by simp) _).drew | exact KE.out _ R.out | exact KE.out _ (R.out.alloc hz _) | exact KE.out _ ((R.out.alloc hz _).alloc (by simp; omega) _))
                  clear hK K
                  try simp only [Act.put, List.setIfInBounds_toArray, List.set_cons_zero, List.set_cons_succ]
                  refine wpAnyH_ready (rs := [10]) (by kernel_rfl) (by simp) ?_
                  refine AllReadyH.cons (o := (⟨none, _, _, _, _, _⟩ : Oper)) rfl (fun K hK => ?_) ?_
                  · (refine store_fee_step rfl (.tmp 8) (.tmp 39) rfl _ _ _ _ _ _ _ _ _ _ _ rfl rfl ?_ ?_; (· repeat (first | exact heap_alloc_new _ _ | exact heap_alloc_new1 _ _ _ | refine blk_alloc ?_ | refine blk_hid HB3 ?_ | refine blk_hid HB2 ?_ | refine blk_hid HB1 ?_ | refine blk_drew ?_)); intro W5 h5 u5; have R := Lib.hid (below_upd (V := wv) u5 (by (first | exact (Below.refl _ _).drew | exact ((Below.refl _ _).alloc (Nat.le_refl _) _).drew | exact (((Below.refl _ _).alloc (Nat.le_refl _) _).alloc (by simp) _).drew | exact R.out | exact R.out.alloc hz _ | exact (R.out.alloc hz _).alloc (by simp; omega) _)) (Nat.le_refl _) (by first | omega | (simp; omega))); have hz : wv.heap.size ≤ W5.heap.size := R.out.size)
                    refine hK.out _ _ ?_ (fun hHeld => ?_)
                    · (try dsimp only); (first | exact KE.out _ (Below.refl _ _).drew | exact KE.out _ ((Below.refl _ _).alloc (Nat.le_refl _) _).drew | exact KE.out _ (((Below.refl _ _).alloc (Nat.le_refl _) _).alloc (by simp) _).drew | exact KE.out _ R.out | exact KE.out _ (R.out.alloc hz _) | exact KE.out _ ((R.out.alloc hz _).alloc (by simp; omega) _))
                    clear hK K
                    try simp only [Act.put, List.setIfInBounds_toArray, List.set_cons_zero, List.set_cons_succ]
                    refine wpAnyH_ready (rs := [11]) (by kernel_rfl) (by simp) ?_
                    refine AllReadyH.cons (o := (⟨none, _, _, _, _, _⟩ : Oper)) rfl (fun K hK => ?_) ?_
                    · (refine store_fee_step rfl (.tmp 9) (.tmp 44) rfl _ _ _ _ _ _ _ _ _ _ _ rfl rfl (upd_zero u5 ?_ ?_) ?_; (· repeat (first | exact heap_alloc_new _ _ | exact heap_alloc_new1 _ _ _ | refine blk_alloc ?_ | refine blk_hid HB3 ?_ | refine blk_hid HB2 ?_ | refine blk_hid HB1 ?_ | refine blk_drew ?_)); (· first | omega | (simp; omega)); intro W6 h6 u6; have R := Lib.hid (below_upd u6 R.out (Nat.le_refl _) (by first | omega | (simp; omega))); have hz : wv.heap.size ≤ W6.heap.size := R.out.size)
                      refine hK.out _ _ ?_ (fun hHeld => ?_)
                      · (try dsimp only); (first | exact KE.out _ (Below.refl _ _).drew | exact KE.out _ ((Below.refl _ _).alloc (Nat.le_refl _) _).drew | exact KE.out _ (((Below.refl _ _).alloc (Nat.le_refl _) _).alloc (by simp) _).drew | exact KE.out _ R.out | exact KE.out _ (R.out.alloc hz _) | exact KE.out _ ((R.out.alloc hz _).alloc (by simp; omega) _))
                      clear hK K
                      try simp only [Act.put, List.setIfInBounds_toArray, List.set_cons_zero, List.set_cons_succ]
                      refine wpAnyH_done (by kernel_rfl) ?_ _
                      go_wp2_with fail
                      go_meet
                      refine ⟨_, _, A1, c1, A3, c3, rfl, rfl, upd_zero u6 h5 ?_, h6, row_upd (cur := _) u6 (row_upd u5 ?_ (by repeat (first | exact heap_alloc_new _ _ | exact heap_alloc_new1 _ _ _ | refine blk_alloc ?_ | refine blk_hid HB3 ?_ | refine blk_hid HB2 ?_ | refine blk_hid HB1 ?_ | refine blk_drew ?_))) (upd_zero u5 (by repeat (first | exact heap_alloc_new _ _ | exact heap_alloc_new1 _ _ _ | refine blk_alloc ?_ | refine blk_hid HB3 ?_ | refine blk_hid HB2 ?_ | refine blk_hid HB1 ?_ | refine blk_drew ?_)) ?_), row_upd u6 (row_upd u5 ?_ (by repeat (first | exact heap_alloc_new _ _ | exact heap_alloc_new1 _ _ _ | refine blk_alloc ?_ | refine blk_hid HB3 ?_ | refine blk_hid HB2 ?_ | refine blk_hid HB1 ?_ | refine blk_drew ?_))) (upd_zero u5 (by repeat (first | exact heap_alloc_new _ _ | exact heap_alloc_new1 _ _ _ | refine blk_alloc ?_ | refine blk_hid HB3 ?_ | refine blk_hid HB2 ?_ | refine blk_hid HB1 ?_ | refine blk_drew ?_)) ?_), R.out⟩
                      all_goals
                        first
                          | omega
                          | (simp; omega)
                          | (repeat (first | exact ROW3.out | exact ROW1.out | refine row_alloc ?_ | refine row_hid HB3 ?_ | refine row_hid HB2 ?_))
                    exact AllReadyH.nil
                  exact AllReadyH.nil
                exact AllReadyH.nil
              exact AllReadyH.nil
            refine AllReadyH.cons (o := (⟨some 9, _, _, _, _, _⟩ : Oper)) rfl (fun K hK => ?_) ?_
            · go_simp
              refine hK.out _ _ ?_ (fun hHeld => ?_)
              · (try dsimp only); (first | exact KE.out _ (Below.refl _ _).drew | exact KE.out _ ((Below.refl _ _).alloc (Nat.le_refl _) _).drew | exact KE.out _ (((Below.refl _ _).alloc (Nat.le_refl _) _).alloc (by simp) _).drew | exact KE.out _ R.out | exact KE.out _ (R.out.alloc hz _) | exact KE.out _ ((R.out.alloc hz _).alloc (by simp; omega) _))
              clear hK K
              try simp only [Act.put, List.setIfInBounds_toArray, List.set_cons_zero, List.set_cons_succ]
              refine wpAnyH_ready (rs := [7, 8]) (by kernel_rfl) (by simp) ?_
              refine AllReadyH.cons (o := (⟨some 44, _, _, _, _, _⟩ : Oper)) rfl (fun K hK => ?_) ?_
              · go_simp
                (go_at_call 6; (with_reducible refine (HANX.out _ An cn ?_ ?_).mono ?_); (· refine HBV.out.trans (Below.mono ?_ hv); (first | exact (Below.refl _ _).drew | exact ((Below.refl _ _).alloc (Nat.le_refl _) _).drew | exact (((Below.refl _ _).alloc (Nat.le_refl _) _).alloc (by simp) _).drew | exact R.out | exact R.out.alloc hz _ | exact (R.out.alloc hz _).alloc (by simp; omega) _)); (· first | exact FN.out | exact feeV_next FN.out ((Below.refl _ _).alloc (Nat.le_refl _) _) | exact feeV_next (feeV_next FN.out ((Below.refl _ _).alloc (Nat.le_refl _) _)) ((Below.refl _ _).alloc (Nat.le_refl _) _)); rintro e W3 ⟨⟨A3, c3, rfl, hrow⟩, hb⟩; have ROW3 := Lib.hid (hrow.base_ (Nat.zero_le _)); have HB3 := Lib.hid hb; have sz3 := hb.size; (try simp at sz3); have R := Lib.hid (below_go (U := wv) hb (by (first | exact (Below.refl _ _).drew | exact ((Below.refl _ _).alloc (Nat.le_refl _) _).drew | exact (((Below.refl _ _).alloc (Nat.le_refl _) _).alloc (by simp) _).drew | exact R.out | exact R.out.alloc hz _ | exact (R.out.alloc hz _).alloc (by simp; omega) _))); have hz : wv.heap.size ≤ W3.heap.size := R.out.size; clear hrow hb)
                refine hK.out _ _ ?_ (fun hHeld => ?_)
                · (try dsimp only); (first | exact KE.out _ (Below.refl _ _).drew | exact KE.out _ ((Below.refl _ _).alloc (Nat.le_refl _) _).drew | exact KE.out _ (((Below.refl _ _).alloc (Nat.le_refl _) _).alloc (by simp) _).drew | exact KE.out _ R.out | exact KE.out _ (R.out.alloc hz _) | exact KE.out _ ((R.out.alloc hz _).alloc (by simp; omega) _))
                clear hK K
                try simp only [Act.put, List.setIfInBounds_toArray, List.set_cons_zero, List.set_cons_succ]
                refine wpAnyH_ready (rs := [8]) (by kernel_rfl) (by simp) ?_
                refine AllReadyH.cons (o := (⟨some 8, _, _, _, _, _⟩ : Oper)) rfl (fun K hK => ?_) ?_
                · go_simp
                  refine hK.out _ _ ?_ (fun hHeld => ?_)
                  · (try dsimp only); (first | exact KE.out _ (Below.refl _ _).drew | exact KE.out _ ((Below.refl _ _).alloc (Nat.le_refl _) _).drew | exact KE.out _ (((Below.refl _ _).alloc (Nat.le_refl _) _).alloc (by simp) _).drew | exact KE.out _ R.out | exact KE.out _ (R.out.alloc hz _) | exact KE.out _ ((R.out.alloc hz _).alloc (by simp; omega) _))
                  clear hK K
                  try simp only [Act.put, List.setIfInBounds_toArray, List.set_cons_zero, List.set_cons_succ]
                  refine wpAnyH_ready (rs := [10]) (by kernel_rfl) (by simp) ?_
                  refine AllReadyH.cons (o := (⟨none, _, _, _, _, _⟩ : Oper)) rfl (fun K hK => ?_) ?_
                  · (refine store_fee_step rfl (.tmp 8) (.tmp 39) rfl _ _ _ _ _ _ _ _ _ _ _ rfl rfl ?_ ?_; (· repeat (first | exact heap_alloc_new _ _ | exact heap_alloc_new1 _ _ _ | refine blk_alloc ?_ | refine blk_hid HB3 ?_ | refine blk_hid HB2 ?_ | refine blk_hid HB1 ?_ | refine blk_drew ?_)); intro W5 h5 u5; have R := Lib.hid (below_upd (V := wv) u5 (by (first | exact (Below.refl _ _).drew | exact ((Below.refl _ _).alloc (Nat.le_refl _) _).drew | exact (((Below.refl _ _).alloc (Nat.le_refl _) _).alloc (by simp) _).drew | exact R.out | exact R.out.alloc hz _ | exact (R.out.alloc hz _).alloc (by simp; omega) _)) (Nat.le_refl _) (by first | omega | (simp; omega))); have hz : wv.heap.size ≤ W5.heap.size := R.out.size)
                    refine hK.out _ _ ?_ (fun hHeld => ?_)
                    · (try dsimp only); (first | exact KE.out _ (Below.refl _ _).drew | exact KE.out _ ((Below.refl _ _).alloc (Nat.le_refl _) _).drew | exact KE.out _ (((Below.refl _ _).alloc (Nat.le_refl _) _).alloc (by simp) _).drew | exact KE.out _ R.out | exact KE.out _ (R.out.alloc hz _) | exact KE.out _ ((R.out.alloc hz _).alloc (by simp; omega) _))
                    clear hK K
                    try simp only [Act.put, List.setIfInBounds_toArray, List.set_cons_zero, List.set_cons_succ]
                    refine wpAnyH_ready (rs := [11]) (by kernel_rfl) (by simp) ?_
                    refine AllReadyH.cons (o := (⟨none, _, _, _, _, _⟩ : Oper)) rfl (fun K hK => ?_) ?_
                    · (refine store_fee_step rfl (.tmp 9) (.tmp 44) rfl _ _ _ _ _ _ _ _ _ _ _ rfl rfl (upd_zero u5 ?_ ?_) ?_; (· repeat (first | exact heap_alloc_new _ _ | exact heap_alloc_new1 _ _ _ | refine blk_alloc ?_ | refine blk_hid HB3 ?_ | refine blk_hid HB2 ?_ | refine blk_hid HB1 ?_ | refine blk_drew ?_)); (· first | omega | (simp; omega)); intro W6 h6 u6; have R := Lib.hid (below_upd u6 R.out (Nat.le_refl _) (by first | omega | (simp; omega))); have hz : wv.heap.size ≤ W6.heap.size := R.out.size)
                      refine hK.out _ _ ?_ (fun hHeld => ?_)
                      · (try dsimp only); (first | exact KE.out _ (Below.refl _ _).drew | exact KE.out _ ((Below.refl _ _).alloc (Nat.le_refl _) _).drew | exact KE.out _ (((Below.refl _ _).alloc (Nat.le_refl _) _).alloc (by simp) _).drew | exact KE.out _ R.out | exact KE.out _ (R.out.alloc hz _) | exact KE.out _ ((R.out.alloc hz _).alloc (by simp; omega) _))
                      clear hK K
                      try simp only [Act.put, List.setIfInBounds_toArray, List.set_cons_zero, List.set_cons_succ]
                      refine wpAnyH_done (by kernel_rfl) ?_ _
                      go_wp2_with fail
                      go_meet
                      refine ⟨_, _, A1, c1, A3, c3, rfl, rfl, upd_zero u6 h5 ?_, h6, row_upd (cur := _) u6 (row_upd u5 ?_ (by repeat (first | exact heap_alloc_new _ _ | exact heap_alloc_new1 _ _ _ | refine blk_alloc ?_ | refine blk_hid HB3 ?_ | refine blk_hid HB2 ?_ | refine blk_hid HB1 ?_ | refine blk_drew ?_))) (upd_zero u5 (by repeat (first | exact heap_alloc_new _ _ | exact heap_alloc_new1 _ _ _ | refine blk_alloc ?_ | refine blk_hid HB3 ?_ | refine blk_hid HB2 ?_ | refine blk_hid HB1 ?_ | refine blk_drew ?_)) ?_), row_upd u6 (row_upd u5 ?_ (by repeat (first | exact heap_alloc_new _ _ | exact heap_alloc_new1 _ _ _ | refine blk_alloc ?_ | refine blk_hid HB3 ?_ | refine blk_hid HB2 ?_ | refine blk_hid HB1 ?_ | refine blk_drew ?_))) (upd_zero u5 (by repeat (first | exact heap_alloc_new _ _ | exact heap_alloc_new1 _ _ _ | refine blk_alloc ?_ | refine blk_hid HB3 ?_ | refine blk_hid HB2 ?_ | refine blk_hid HB1 ?_ | refine blk_drew ?_)) ?_), R.out⟩
                      all_goals
                        first
                          | omega
                          | (simp; omega)
                          | (repeat (first | exact ROW3.out | exact ROW1.out | refine row_alloc ?_ | refine row_hid HB3 ?_ | refine row_hid HB2 ?_))
                    exact AllReadyH.nil
                  exact AllReadyH.nil
                exact AllReadyH.nil
              refine AllReadyH.cons (o := (⟨some 8, _, _, _, _, _⟩ : Oper)) rfl (fun K hK => ?_) ?_
              · go_simp
                refine hK.out _ _ ?_ (fun hHeld => ?_)
                · (try dsimp only); (first | exact KE.out _ (Below.refl _ _).drew | exact KE.out _ ((Below.refl _ _).alloc (Nat.le_refl _) _).drew | exact KE.out _ (((Below.refl _ _).alloc (Nat.le_refl _) _).alloc (by simp) _).drew | exact KE.out _ R.out | exact KE.out _ (R.out.alloc hz _) | exact KE.out _ ((R.out.alloc hz _).alloc (by simp; omega) _))
                clear hK K
                try simp only [Act.put, List.setIfInBounds_toArray, List.set_cons_zero, List.set_cons_succ]
                refine wpAnyH_ready (rs := [7]) (by kernel_rfl) (by simp) ?_
                refine AllReadyH.cons (o := (⟨some 44, _, _, _, _, _⟩ : Oper)) rfl (fun K hK => ?_) ?_
                · go_simp
                  (go_at_call 6; (with_reducible refine (HANX.out _ An cn ?_ ?_).mono ?_); (· refine HBV.out.trans (Below.mono ?_ hv); (first | exact (Below.refl _ _).drew | exact ((Below.refl _ _).alloc (Nat.le_refl _) _).drew | exact (((Below.refl _ _).alloc (Nat.le_refl _) _).alloc (by simp) _).drew | exact R.out | exact R.out.alloc hz _ | exact (R.out.alloc hz _).alloc (by simp; omega) _)); (· first | exact FN.out | exact feeV_next FN.out ((Below.refl _ _).alloc (Nat.le_refl _) _) | exact feeV_next (feeV_next FN.out ((Below.refl _ _).alloc (Nat.le_refl _) _)) ((Below.refl _ _).alloc (Nat.le_refl _) _)); rintro e W3 ⟨⟨A3, c3, rfl, hrow⟩, hb⟩; have ROW3 := Lib.hid (hrow.base_ (Nat.zero_le _)); have HB3 := Lib.hid hb; have sz3 := hb.size; (try simp at sz3); have R := Lib.hid (below_go (U := wv) hb (by (first | exact (Below.refl _ _).drew | exact ((Below.refl _ _).alloc (Nat.le_refl _) _).drew | exact (((Below.refl _ _).alloc (Nat.le_refl _) _).alloc (by simp) _).drew | exact R.out | exact R.out.alloc hz _ | exact (R.out.alloc hz _).alloc (by simp; omega) _))); have hz : wv.heap.size ≤ W3.heap.size := R.out.size; clear hrow hb)
                  refine hK.out _ _ ?_ (fun hHeld => ?_)
                  · (try dsimp only); (first | exact KE.out _ (Below.refl _ _).drew | exact KE.out _ ((Below.refl _ _).alloc (Nat.le_refl _) _).drew | exact KE.out _ (((Below.refl _ _).alloc (Nat.le_refl _) _).alloc (by simp) _).drew | exact KE.out _ R.out | exact KE.out _ (R.out.alloc hz _) | exact KE.out _ ((R.out.alloc hz _).alloc (by simp; omega) _))
                  clear hK K
                  try simp only [Act.put, List.setIfInBounds_toArray, List.set_cons_zero, List.set_cons_succ]
                  refine wpAnyH_ready (rs := [10]) (by kernel_rfl) (by simp) ?_
                  refine AllReadyH.cons (o := (⟨none, _, _, _, _, _⟩ : Oper)) rfl (fun K hK => ?_) ?_
                  · (refine store_fee_step rfl (.tmp 8) (.tmp 39) rfl _ _ _ _ _ _ _ _ _ _ _ rfl rfl ?_ ?_; (· repeat (first | exact heap_alloc_new _ _ | exact heap_alloc_new1 _ _ _ | refine blk_alloc ?_ | refine blk_hid HB3 ?_ | refine blk_hid HB2 ?_ | refine blk_hid HB1 ?_ | refine blk_drew ?_)); intro W5 h5 u5; have R := Lib.hid (below_upd (V := wv) u5 (by (first | exact (Below.refl _ _).drew | exact ((Below.refl _ _).alloc (Nat.le_refl _) _).drew | exact (((Below.refl _ _).alloc (Nat.le_refl _) _).alloc (by simp) _).drew | exact R.out | exact R.out.alloc hz _ | exact (R.out.alloc hz _).alloc (by simp; omega) _)) (Nat.le_refl _) (by first | omega | (simp; omega))); have hz : wv.heap.size ≤ W5.heap.size := R.out.size)
                    refine hK.out _ _ ?_ (fun hHeld => ?_)
                    · (try dsimp only); (first | exact KE.out _ (Below.refl _ _).drew | exact KE.out _ ((Below.refl _ _).alloc (Nat.le_refl _) _).drew | exact KE.out _ (((Below.refl _ _).alloc (Nat.le_refl _) _).alloc (by simp) _).drew | exact KE.out _ R.out | exact KE.out _ (R.out.alloc hz _) | exact KE.out _ ((R.out.alloc hz _).alloc (by simp; omega) _))
                    clear hK K
                    try simp only [Act.put, List.setIfInBounds_toArray, List.set_cons_zero, List.set_cons_succ]
                    refine wpAnyH_ready (rs := [11]) (by kernel_rfl) (by simp) ?_
                    refine AllReadyH.cons (o := (⟨none, _, _, _, _, _⟩ : Oper)) rfl (fun K hK => ?_) ?_
                    · (refine store_fee_step rfl (.tmp 9) (.tmp 44) rfl _ _ _ _ _ _ _ _ _ _ _ rfl rfl (upd_zero u5 ?_ ?_) ?_; (· repeat (first | exact heap_alloc_new _ _ | exact heap_alloc_new1 _ _ _ | refine blk_alloc ?_ | refine blk_hid HB3 ?_ | refine blk_hid HB2 ?_ | refine blk_hid HB1 ?_ | refine blk_drew ?_)); (· first | omega | (simp; omega)); intro W6 h6 u6; have R := Lib.hid (below_upd u6 R.out (Nat.le_refl _) (by first | omega | (simp; omega))); have hz : wv.heap.size ≤ W6.heap.size := R.out.size)
                      refine hK.out _ _ ?_ (fun hHeld => ?_)
                      · (try dsimp only); (first | exact KE.out _ (Below.refl _ _).drew | exact KE.out _ ((Below.refl _ _).alloc (Nat.le_refl _) _).drew | exact KE.out _ (((Below.refl _ _).alloc (Nat.le_refl _) _).alloc (by simp) _).drew | exact KE.out _ R.out | exact KE.out _ (R.out.alloc hz _) | exact KE.out _ ((R.out.alloc hz _).alloc (by simp; omega) _))
                      clear hK K
                      try simp only [Act.put, List.setIfInBounds_toArray, List.set_cons_zero, List.set_cons_succ]
                      refine wpAnyH_done (by kernel_rfl) ?_ _
                      go_wp2_with fail
                      go_meet
                      refine ⟨_, _, A1, c1, A3, c3, rfl, rfl, upd_zero u6 h5 ?_, h6, row_upd (cur := _) u6 (row_upd u5 ?_ (by repeat (first | exact heap_alloc_new _ _ | exact heap_alloc_new1 _ _ _ | refine blk_alloc ?_ | refine blk_hid HB3 ?_ | refine blk_hid HB2 ?_ | refine blk_hid HB1 ?_ | refine blk_drew ?_))) (upd_zero u5 (by repeat (first | exact heap_alloc_new _ _ | exact heap_alloc_new1 _ _ _ | refine blk_alloc ?_ | refine blk_hid HB3 ?_ | refine blk_hid HB2 ?_ | refine blk_hid HB1 ?_ | refine blk_drew ?_)) ?_), row_upd u6 (row_upd u5 ?_ (by repeat (first | exact heap_alloc_new _ _ | exact heap_alloc_new1 _ _ _ | refine blk_alloc ?_ | refine blk_hid HB3 ?_ | refine blk_hid HB2 ?_ | refine blk_hid HB1 ?_ | refine blk_drew ?_))) (upd_zero u5 (by repeat (first | exact heap_alloc_new _ _ | exact heap_alloc_new1 _ _ _ | refine blk_alloc ?_ | refine blk_hid HB3 ?_ | refine blk_hid HB2 ?_ | refine blk_hid HB1 ?_ | refine blk_drew ?_)) ?_), R.out⟩
                      all_goals
                        first
                          | omega
                          | (simp; omega)
                          | (repeat (first | exact ROW3.out | exact ROW1.out | refine row_alloc ?_ | refine row_hid HB3 ?_ | refine row_hid HB2 ?_))
                    exact AllReadyH.nil
                  exact AllReadyH.nil
                exact AllReadyH.nil
              exact AllReadyH.nil
            exact AllReadyH.nil
          refine AllReadyH.cons (o := (⟨some 8, _, _, _, _, _⟩ : Oper)) rfl (fun K hK => ?_) ?_
          · go_simp
            refine hK.out _ _ ?_ (fun hHeld => ?_)
            · (try dsimp only); (first | exact KE.out _ (Below.refl _ _).drew | exact KE.out _ ((Below.refl _ _).alloc (Nat.le_refl _) _).drew | exact KE.out _ (((Below.refl _ _).alloc (Nat.le_refl _) _).alloc (by simp) _).drew | exact KE.out _ R.out | exact KE.out _ (R.out.alloc hz _) | exact KE.out _ ((R.out.alloc hz _).alloc (by simp; omega) _))
            clear hK K
            try simp only [Act.put, List.setIfInBounds_toArray, List.set_cons_zero, List.set_cons_succ]
            refine wpAnyH_ready (rs := [6, 9]) (by kernel_rfl) (by simp) ?_
            refine AllReadyH.cons (o := (⟨some 43, _, _, _, _, _⟩ : Oper)) rfl (fun K hK => ?_) ?_
            · go_simp
              (go_at_call 6; (with_reducible refine (HBCL.out _ ?_).mono ?_); (· refine HBV.out.trans (Below.mono ?_ hv); (first | exact (Below.refl _ _).drew | exact ((Below.refl _ _).alloc (Nat.le_refl _) _).drew | exact (((Below.refl _ _).alloc (Nat.le_refl _) _).alloc (by simp) _).drew | exact R.out | exact R.out.alloc hz _ | exact (R.out.alloc hz _).alloc (by simp; omega) _)); rintro e W2 ⟨⟨An, cn, rfl, hrow⟩, hb⟩; have FN := Lib.hid (latR_feeV hrow); have HB2 := Lib.hid hb; have sz2 := hb.size; (try simp at sz2); have R := Lib.hid (below_go (U := wv) hb (by (first | exact (Below.refl _ _).drew | exact ((Below.refl _ _).alloc (Nat.le_refl _) _).drew | exact (((Below.refl _ _).alloc (Nat.le_refl _) _).alloc (by simp) _).drew | exact R.out | exact R.out.alloc hz _ | exact (R.out.alloc hz _).alloc (by simp; omega) _))); have hz : wv.heap.size ≤ W2.heap.size := R.out.size; clear hrow hb)
              refine hK.out _ _ ?_ (fun hHeld => ?_)
              · (try dsimp only); (first | exact KE.out _ (Below.refl _ _).drew | exact KE.out _ ((Below.refl _ _).alloc (Nat.le_refl _) _).drew | exact KE.out _ (((Below.refl _ _).alloc (Nat.le_refl _) _).alloc (by simp) _).drew | exact KE.out _ R.out | exact KE.out _ (R.out.alloc hz _) | exact KE.out _ ((R.out.alloc hz _).alloc (by simp; omega) _))
              clear hK K
              try simp only [Act.put, List.setIfInBounds_toArray, List.set_cons_zero, List.set_cons_succ]
              refine wpAnyH_ready (rs := [7, 9]) (by kernel_rfl) (by simp) ?_
              refine AllReadyH.cons (o := (⟨some 44, _, _, _, _, _⟩ : Oper)) rfl (fun K hK => ?_) ?_
              · go_simp
                (go_at_call 6; (with_reducible refine (HANX.out _ An cn ?_ ?_).mono ?_); (· refine HBV.out.trans (Below.mono ?_ hv); (first | exact (Below.refl _ _).drew | exact ((Below.refl _ _).alloc (Nat.le_refl _) _).drew | exact (((Below.refl _ _).alloc (Nat.le_refl _) _).alloc (by simp) _).drew | exact R.out | exact R.out.alloc hz _ | exact (R.out.alloc hz _).alloc (by simp; omega) _)); (· first | exact FN.out | exact feeV_next FN.out ((Below.refl _ _).alloc (Nat.le_refl _) _) | exact feeV_next (feeV_next FN.out ((Below.refl _ _).alloc (Nat.le_refl _) _)) ((Below.refl _ _).alloc (Nat.le_refl _) _)); rintro e W3 ⟨⟨A3, c3, rfl, hrow⟩, hb⟩; have ROW3 := Lib.hid (hrow.base_ (Nat.zero_le _)); have HB3 := Lib.hid hb; have sz3 := hb.size; (try simp at sz3); have R := Lib.hid (below_go (U := wv) hb (by (first | exact (Below.refl _ _).drew | exact ((Below.refl _ _).alloc (Nat.le_refl _) _).drew | exact (((Below.refl _ _).alloc (Nat.le_refl _) _).alloc (by simp) _).drew | exact R.out | exact R.out.alloc hz _ | exact (R.out.alloc hz _).alloc (by simp; omega) _))); have hz : wv.heap.size ≤ W3.heap.size := R.out.size; clear hrow hb)
                refine hK.out _ _ ?_ (fun hHeld => ?_)
                · (try dsimp only); (first | exact KE.out _ (Below.refl _ _).drew | exact KE.out _ ((Below.refl _ _).alloc (Nat.le_refl _) _).drew | exact KE.out _ (((Below.refl _ _).alloc (Nat.le_refl _) _).alloc (by simp) _).drew | exact KE.out _ R.out | exact KE.out _ (R.out.alloc hz _) | exact KE.out _ ((R.out.alloc hz _).alloc (by simp; omega) _))
                clear hK K
                try simp only [Act.put, List.setIfInBounds_toArray, List.set_cons_zero, List.set_cons_succ]
                refine wpAnyH_ready (rs := [9]) (by kernel_rfl) (by simp) ?_
                refine AllReadyH.cons (o := (⟨some 9, _, _, _, _, _⟩ : Oper)) rfl (fun K hK => ?_) ?_
                · go_simp
                  refine hK.out _ _ ?_ (fun hHeld => ?_)
                  · (try dsimp only); (first | exact KE.out _ (Below.refl _ _).drew | exact KE.out _ ((Below.refl _ _).alloc (Nat.le_refl _) _).drew | exact KE.out _ (((Below.refl _ _).alloc (Nat.le_refl _) _).alloc (by simp) _).drew | exact KE.out _ R.out | exact KE.out _ (R.out.alloc hz _) | exact KE.out _ ((R.out.alloc hz _).alloc (by simp; omega) _))
                  clear hK K
                  try simp only [Act.put, List.setIfInBounds_toArray, List.set_cons_zero, List.set_cons_succ]
                  refine wpAnyH_ready (rs := [10]) (by kernel_rfl) (by simp) ?_
                  refine AllReadyH.cons (o := (⟨none, _, _, _, _, _⟩ : Oper)) rfl (fun K hK => ?_) ?_
                  · (refine store_fee_step rfl (.tmp 8) (.tmp 39) rfl _ _ _ _ _ _ _ _ _ _ _ rfl rfl ?_ ?_; (· repeat (first | exact heap_alloc_new _ _ | exact heap_alloc_new1 _ _ _ | refine blk_alloc ?_ | refine blk_hid HB3 ?_ | refine blk_hid HB2 ?_ | refine blk_hid HB1 ?_ | refine blk_drew ?_)); intro W5 h5 u5; have R := Lib.hid (below_upd (V := wv) u5 (by (first | exact (Below.refl _ _).drew | exact ((Below.refl _ _).alloc (Nat.le_refl _) _).drew | exact (((Below.refl _ _).alloc (Nat.le_refl _) _).alloc (by simp) _).drew | exact R.out | exact R.out.alloc hz _ | exact (R.out.alloc hz _).alloc (by simp; omega) _)) (Nat.le_refl _) (by first | omega | (simp; omega))); have hz : wv.heap.size ≤ W5.heap.size := R.out.size)
                    refine hK.out _ _ ?_ (fun hHeld => ?_)
                    · (try dsimp only); (first | exact KE.out _ (Below.refl _ _).drew | exact KE.out _ ((Below.refl _ _).alloc (Nat.le_refl _) _).drew | exact KE.out _ (((Below.refl _ _).alloc (Nat.le_refl _) _).alloc (by simp) _).drew | exact KE.out _ R.out | exact KE.out _ (R.out.alloc hz _) | exact KE.out _ ((R.out.alloc hz _).alloc (by simp; omega) _))
                    clear hK K
                    try simp only [Act.put, List.setIfInBounds_toArray, List.set_cons_zero, List.set_cons_succ]
                    refine wpAnyH_ready (rs := [11]) (by kernel_rfl) (by simp) ?_
                    refine AllReadyH.cons (o := (⟨none, _, _, _, _, _⟩ : Oper)) rfl (fun K hK => ?_) ?_
                    · (refine store_fee_step rfl (.tmp 9) (.tmp 44) rfl _ _ _ _ _ _ _ _ _ _ _ rfl rfl (upd_zero u5 ?_ ?_) ?_; (· repeat (first | exact heap_alloc_new _ _ | exact heap_alloc_new1 _ _ _ | refine blk_alloc ?_ | refine blk_hid HB3 ?_ | refine blk_hid HB2 ?_ | refine blk_hid HB1 ?_ | refine blk_drew ?_)); (· first | omega | (simp; omega)); intro W6 h6 u6; have R := Lib.hid (below_upd u6 R.out (Nat.le_refl _) (by first | omega | (simp; omega))); have hz : wv.heap.size ≤ W6.heap.size := R.out.size)
                      refine hK.out _ _ ?_ (fun hHeld => ?_)
                      · (try dsimp only); (first | exact KE.out _ (Below.refl _ _).drew | exact KE.out _ ((Below.refl _ _).alloc (Nat.le_refl _) _).drew | exact KE.out _ (((Below.refl _ _).alloc (Nat.le_refl _) _).alloc (by simp) _).drew | exact KE.out _ R.out | exact KE.out _ (R.out.alloc hz _) | exact KE.out _ ((R.out.alloc hz _).alloc (by simp; omega) _))
                      clear hK K
                      try simp only [Act.put, List.setIfInBounds_toArray, List.set_cons_zero, List.set_cons_succ]
                      refine wpAnyH_done (by kernel_rfl) ?_ _
                      go_wp2_with fail
                      go_meet
                      refine ⟨_, _, A1, c1, A3, c3, rfl, rfl, upd_zero u6 h5 ?_, h6, row_upd (cur := _) u6 (row_upd u5 ?_ (by repeat (first | exact heap_alloc_new _ _ | exact heap_alloc_new1 _ _ _ | refine blk_alloc ?_ | refine blk_hid HB3 ?_ | refine blk_hid HB2 ?_ | refine blk_hid HB1 ?_ | refine blk_drew ?_))) (upd_zero u5 (by repeat (first | exact heap_alloc_new _ _ | exact heap_alloc_new1 _ _ _ | refine blk_alloc ?_ | refine blk_hid HB3 ?_ | refine blk_hid HB2 ?_ | refine blk_hid HB1 ?_ | refine blk_drew ?_)) ?_), row_upd u6 (row_upd u5 ?_ (by repeat (first | exact heap_alloc_new _ _ | exact heap_alloc_new1 _ _ _ | refine blk_alloc ?_ | refine blk_hid HB3 ?_ | refine blk_hid HB2 ?_ | refine blk_hid HB1 ?_ | refine blk_drew ?_))) (upd_zero u5 (by repeat (first | exact heap_alloc_new _ _ | exact heap_alloc_new1 _ _ _ | refine blk_alloc ?_ | refine blk_hid HB3 ?_ | refine blk_hid HB2 ?_ | refine blk_hid HB1 ?_ | refine blk_drew ?_)) ?_), R.out⟩
                      all_goals
                        first
                          | omega
                          | (simp; omega)
                          | (repeat (first | exact ROW3.out | exact ROW1.out | refine row_alloc ?_ | refine row_hid HB3 ?_ | refine row_hid HB2 ?_))
                    exact AllReadyH.nil
                  exact AllReadyH.nil
                exact AllReadyH.nil
              refine AllReadyH.cons (o := (⟨some 9, _, _, _, _, _⟩ : Oper)) rfl (fun K hK => ?_) ?_
              · go_simp
                refine hK.out _ _ ?_ (fun hHeld => ?_)
                · (try dsimp only); (first | exact KE.out _ (Below.refl _ _).drew | exact KE.out _ ((Below.refl _ _).alloc (Nat.le_refl _) _).drew | exact KE.out _ (((Below.refl _ _).alloc (Nat.le_refl _) _).alloc (by simp) _).drew | exact KE.out _ R.out | exact KE.out _ (R.out.alloc hz _) | exact KE.out _ ((R.out.alloc hz _).alloc (by simp; omega) _))
                clear hK K
                try simp only [Act.put, List.setIfInBounds_toArray, List.set_cons_zero, List.set_cons_succ]
                refine wpAnyH_ready (rs := [7]) (by kernel_rfl) (by simp) ?_
                refine AllReadyH.cons (o := (⟨some 44, _, _, _, _, _⟩ : Oper)) rfl (fun K hK => ?_) ?_
                · go_simp
                  (go_at_call 6; (with_reducible refine (HANX.out _ An cn ?_ ?_).mono ?_); (· refine HBV.out.trans (Below.mono ?_ hv); (first | exact (Below.refl _ _).drew | exact ((Below.refl _ _).alloc (Nat.le_refl _) _).drew | exact (((Below.refl _ _).alloc (Nat.le_refl _) _).alloc (by simp) _).drew | exact R.out | exact R.out.alloc hz _ | exact (R.out.alloc hz _).alloc (by simp; omega) _)); (· first | exact FN.out | exact feeV_next FN.out ((Below.refl _ _).alloc (Nat.le_refl _) _) | exact feeV_next (feeV_next FN.out ((Below.refl _ _).alloc (Nat.le_refl _) _)) ((Below.refl _ _).alloc (Nat.le_refl _) _)); rintro e W3 ⟨⟨A3, c3, rfl, hrow⟩, hb⟩; have ROW3 := Lib.hid (hrow.base_ (Nat.zero_le _)); have HB3 := Lib.hid hb; have sz3 := hb.size; (try simp at sz3); have R := Lib.hid (below_go (U := wv) hb (by (first | exact (Below.refl _ _).drew | exact ((Below.refl _ _).alloc (Nat.le_refl _) _).drew | exact (((Below.refl _ _).alloc (Nat.le_refl _) _).alloc (by simp) _).drew | exact R.out | exact R.out.alloc hz _ | exact (R.out.alloc hz _).alloc (by simp; omega) _))); have hz : wv.heap.size ≤ W3.heap.size := R.out.size; clear hrow hb)
                  refine hK.out _ _ ?_ (fun hHeld => ?_)
                  · (try dsimp only); (first | exact KE.out _ (Below.refl _ _).drew | exact KE.out _ ((Below.refl _ _).alloc (Nat.le_refl _) _).drew | exact KE.out _ (((Below.refl _ _).alloc (Nat.le_refl _) _).alloc (by simp) _).drew | exact KE.out _ R.out | exact KE.out _ (R.out.alloc hz _) | exact KE.out _ ((R.out.alloc hz _).alloc (by simp; omega) _))
                  clear hK K
                  try simp only [Act.put, List.setIfInBounds_toArray, List.set_cons_zero, List.set_cons_succ]
                  refine wpAnyH_ready (rs := [10]) (by kernel_rfl) (by simp) ?_
                  refine AllReadyH.cons (o := (⟨none, _, _, _, _, _⟩ : Oper)) rfl (fun K hK => ?_) ?_
                  · (refine store_fee_step rfl (.tmp 8) (.tmp 39) rfl _ _ _ _ _ _ _ _ _ _ _ rfl rfl ?_ ?_; (· repeat (first | exact heap_alloc_new _ _ | exact heap_alloc_new1 _ _ _ | refine blk_alloc ?_ | refine blk_hid HB3 ?_ | refine blk_hid HB2 ?_ | refine blk_hid HB1 ?_ | refine blk_drew ?_)); intro W5 h5 u5; have R := Lib.hid (below_upd (V := wv) u5 (by (first | exact (Below.refl _ _).drew | exact ((Below.refl _ _).alloc (Nat.le_refl _) _).drew | exact (((Below.refl _ _).alloc (Nat.le_refl _) _).alloc (by simp) _).drew | exact R.out | exact R.out.alloc hz _ | exact (R.out.alloc hz _).alloc (by simp; omega) _)) (Nat.le_refl _) (by first | omega | (simp; omega))); have hz : wv.heap.size ≤ W5.heap.size := R.out.size)
                    refine hK.out _ _ ?_ (fun hHeld => ?_)
                    · (try dsimp only); (first | exact KE.out _ (Below.refl _ _).drew | exact KE.out _ ((Below.refl _ _).alloc (Nat.le_refl _) _).drew | exact KE.out _ (((Below.refl _ _).alloc (Nat.le_refl _) _).alloc (by simp) _).drew | exact KE.out _ R.out | exact KE.out _ (R.out.alloc hz _) | exact KE.out _ ((R.out.alloc hz _).alloc (by simp; omega) _))
                    clear hK K
                    try simp only [Act.put, List.setIfInBounds_toArray, List.set_cons_zero, List.set_cons_succ]
                    refine wpAnyH_ready (rs := [11]) (by kernel_rfl) (by simp) ?_
                    refine AllReadyH.cons (o := (⟨none, _, _, _, _, _⟩ : Oper)) rfl (fun K hK => ?_) ?_
                    · (refine store_fee_step rfl (.tmp 9) (.tmp 44) rfl _ _ _ _ _ _ _ _ _ _ _ rfl rfl (upd_zero u5 ?_ ?_) ?_; (· repeat (first | exact heap_alloc_new _ _ | exact heap_alloc_new1 _ _ _ | refine blk_alloc ?_ | refine blk_hid HB3 ?_ | refine blk_hid HB2 ?_ | refine blk_hid HB1 ?_ | refine blk_drew ?_)); (· first | omega | (simp; omega)); intro W6 h6 u6; have R := Lib.hid (below_upd u6 R.out (Nat.le_refl _) (by first | omega | (simp; omega))); have hz : wv.heap.size ≤ W6.heap.size := R.out.size)
                      refine hK.out _ _ ?_ (fun hHeld => ?_)
                      · (try dsimp only); (first | exact KE.out _ (Below.refl _ _).drew | exact KE.out _ ((Below.refl _ _).alloc (Nat.le_refl _) _).drew | exact KE.out _ (((Below.refl _ _).alloc (Nat.le_refl _) _).alloc (by simp) _).drew | exact KE.out _ R.out | exact KE.out _ (R.out.alloc hz _) | exact KE.out _ ((R.out.alloc hz _).alloc (by simp; omega) _))
                      clear hK K
                      try simp only [Act.put, List.setIfInBounds_toArray, List.set_cons_zero, List.set_cons_succ]
                      refine wpAnyH_done (by kernel_rfl) ?_ _
                      go_wp2_with fail
                      go_meet
                      refine ⟨_, _, A1, c1, A3, c3, rfl, rfl, upd_zero u6 h5 ?_, h6, row_upd (cur := _) u6 (row_upd u5 ?_ (by repeat (first | exact heap_alloc_new _ _ | exact heap_alloc_new1 _ _ _ | refine blk_alloc ?_ | refine blk_hid HB3 ?_ | refine blk_hid HB2 ?_ | refine blk_hid HB1 ?_ | refine blk_drew ?_))) (upd_zero u5 (by repeat (first | exact heap_alloc_new _ _ | exact heap_alloc_new1 _ _ _ | refine blk_alloc ?_ | refine blk_hid HB3 ?_ | refine blk_hid HB2 ?_ | refine blk_hid HB1 ?_ | refine blk_drew ?_)) ?_), row_upd u6 (row_upd u5 ?_ (by repeat (first | exact heap_alloc_new _ _ | exact heap_alloc_new1 _ _ _ | refine blk_alloc ?_ | refine blk_hid HB3 ?_ | refine blk_hid HB2 ?_ | refine blk_hid HB1 ?_ | refine blk_drew ?_))) (upd_zero u5 (by repeat (first | exact heap_alloc_new _ _ | exact heap_alloc_new1 _ _ _ | refine blk_alloc ?_ | refine blk_hid HB3 ?_ | refine blk_hid HB2 ?_ | refine blk_hid HB1 ?_ | refine blk_drew ?_)) ?_), R.out⟩
                      all_goals
                        first
                          | omega
                          | (simp; omega)
                          | (repeat (first | exact ROW3.out | exact ROW1.out | refine row_alloc ?_ | refine row_hid HB3 ?_ | refine row_hid HB2 ?_))
                    exact AllReadyH.nil
                  exact AllReadyH.nil
                exact AllReadyH.nil
              exact AllReadyH.nil
            refine AllReadyH.cons (o := (⟨some 9, _, _, _, _, _⟩ : Oper)) rfl (fun K hK => ?_) ?_
            · go_simp
              refine hK.out _ _ ?_ (fun hHeld => ?_)
              · (try dsimp only); (first | exact KE.out _ (Below.refl _ _).drew | exact KE.out _ ((Below.refl _ _).alloc (Nat.le_refl _) _).drew | exact KE.out _ (((Below.refl _ _).alloc (Nat.le_refl _) _).alloc (by simp) _).drew | exact KE.out _ R.out | exact KE.out _ (R.out.alloc hz _) | exact KE.out _ ((R.out.alloc hz _).alloc (by simp; omega) _))
              clear hK K
              try simp only [Act.put, List.setIfInBounds_toArray, List.set_cons_zero, List.set_cons_succ]
              refine wpAnyH_ready (rs := [6]) (by kernel_rfl) (by simp) ?_
              refine AllReadyH.cons (o := (⟨some 43, _, _, _, _, _⟩ : Oper)) rfl (fun K hK => ?_) ?_
              · go_simp
                (go_at_call 6; (with_reducible refine (HBCL.out _ ?_).mono ?_); (· refine HBV.out.trans (Below.mono ?_ hv); (first | exact (Below.refl _ _).drew | exact ((Below.refl _ _).alloc (Nat.le_refl _) _).drew | exact (((Below.refl _ _).alloc (Nat.le_refl _) _).alloc (by simp) _).drew | exact R.out | exact R.out.alloc hz _ | exact (R.out.alloc hz _).alloc (by simp; omega) _)); rintro e W2 ⟨⟨An, cn, rfl, hrow⟩, hb⟩; have FN := Lib.hid (latR_feeV hrow); have HB2 := Lib.hid hb; have sz2 := hb.size; (try simp at sz2); have R := Lib.hid (below_go (U := wv) hb (by (first | exact (Below.refl _ _).drew | exact ((Below.refl _ _).alloc (Nat.le_refl _) _).drew | exact (((Below.refl _ _).alloc (Nat.le_refl _) _).alloc (by simp) _).drew | exact R.out | exact R.out.alloc hz _ | exact (R.out.alloc hz _).alloc (by simp; omega) _))); have hz : wv.heap.size ≤ W2.heap.size := R.out.size; clear hrow hb)
                refine hK.out _ _ ?_ (fun hHeld => ?_)
                · (try dsimp only); (first | exact KE.out _ (Below.refl _ _).drew | exact KE.out _ ((Below.refl _ _).alloc (Nat.le_refl _) _).drew | exact KE.out _ (((Below.refl _ _).alloc (Nat.le_refl _) _).alloc (by simp) _).drew | exact KE.out _ R.out | exact KE.out _ (R.out.alloc hz _) | exact KE.out _ ((R.out.alloc hz _).alloc (by simp; omega) _))
                clear hK K
                try simp only [Act.put, List.setIfInBounds_toArray, List.set_cons_zero, List.set_cons_succ]
                refine wpAnyH_ready (rs := [7]) (by kernel_rfl) (by simp) ?_
                refine AllReadyH.cons (o := (⟨some 44, _, _, _, _, _⟩ : Oper)) rfl (fun K hK => ?_) ?_
                · go_simp
                  (go_at_call 6; (with_reducible refine (HANX.out _ An cn ?_ ?_).mono ?_); (· refine HBV.out.trans (Below.mono ?_ hv); (first | exact (Below.refl _ _).drew | exact ((Below.refl _ _).alloc (Nat.le_refl _) _).drew | exact (((Below.refl _ _).alloc (Nat.le_refl _) _).alloc (by simp) _).drew | exact R.out | exact R.out.alloc hz _ | exact (R.out.alloc hz _).alloc (by simp; omega) _)); (· first | exact FN.out | exact feeV_next FN.out ((Below.refl _ _).alloc (Nat.le_refl _) _) | exact feeV_next (feeV_next FN.out ((Below.refl _ _).alloc (Nat.le_refl _) _)) ((Below.refl _ _).alloc (Nat.le_refl _) _)); rintro e W3 ⟨⟨A3, c3, rfl, hrow⟩, hb⟩; have ROW3 := Lib.hid (hrow.base_ (Nat.zero_le _)); have HB3 := Lib.hid hb; have sz3 := hb.size; (try simp at sz3); have R := Lib.hid (below_go (U := wv) hb (by (first | exact (Below.refl _ _).drew | exact ((Below.refl _ _).alloc (Nat.le_refl _) _).drew | exact (((Below.refl _ _).alloc (Nat.le_refl _) _).alloc (by simp) _).drew | exact R.out | exact R.out.alloc hz _ | exact (R.out.alloc hz _).alloc (by simp; omega) _))); have hz : wv.heap.size ≤ W3.heap.size := R.out.size; clear hrow hb)
                  refine hK.out _ _ ?_ (fun hHeld => ?_)
                  · (try dsimp only); (first | exact KE.out _ (Below.refl _ _).drew | exact KE.out _ ((Below.refl _ _).alloc (Nat.le_refl _) _).drew | exact KE.out _ (((Below.refl _ _).alloc (Nat.le_refl _) _).alloc (by simp) _).drew | exact KE.out _ R.out | exact KE.out _ (R.out.alloc hz _) | exact KE.out _ ((R.out.alloc hz _).alloc (by simp; omega) _))
                  clear hK K
                  try simp only [Act.put, List.setIfInBounds_toArray, List.set_cons_zero, List.set_cons_succ]
                  refine wpAnyH_ready (rs := [10]) (by kernel_rfl) (by simp) ?_
                  refine AllReadyH.cons (o := (⟨none, _, _, _, _, _⟩ : Oper)) rfl (fun K hK => ?_) ?_
                  · (refine store_fee_step rfl (.tmp 8) (.tmp 39) rfl _ _ _ _ _ _ _ _ _ _ _ rfl rfl ?_ ?_; (· repeat (first | exact heap_alloc_new _ _ | exact heap_alloc_new1 _ _ _ | refine blk_alloc ?_ | refine blk_hid HB3 ?_ | refine blk_hid HB2 ?_ | refine blk_hid HB1 ?_ | refine blk_drew ?_)); intro W5 h5 u5; have R := Lib.hid (below_upd (V := wv) u5 (by (first | exact (Below.refl _ _).drew | exact ((Below.refl _ _).alloc (Nat.le_refl _) _).drew | exact (((Below.refl _ _).alloc (Nat.le_refl _) _).alloc (by simp) _).drew | exact R.out | exact R.out.alloc hz _ | exact (R.out.alloc hz _).alloc (by simp; omega) _)) (Nat.le_refl _) (by first | omega | (simp; omega))); have hz : wv.heap.size ≤ W5.heap.size := R.out.size)
                    refine hK.out _ _ ?_ (fun hHeld => ?_)
                    · (try dsimp only); (first | exact KE.out _ (Below.refl _ _).drew | exact KE.out _ ((Below.refl _ _).alloc (Nat.le_refl _) _).drew | exact KE.out _ (((Below.refl _ _).alloc (Nat.le_refl _) _).alloc (by simp) _).drew | exact KE.out _ R.out | exact KE.out _ (R.out.alloc hz _) | exact KE.out _ ((R.out.alloc hz _).alloc (by simp; omega) _))
                    clear hK K
                    try simp only [Act.put, List.setIfInBounds_toArray, List.set_cons_zero, List.set_cons_succ]
                    refine wpAnyH_ready (rs := [11]) (by kernel_rfl) (by simp) ?_
                    refine AllReadyH.cons (o := (⟨none, _, _, _, _, _⟩ : Oper)) rfl (fun K hK => ?_) ?_
                    · (refine store_fee_step rfl (.tmp 9) (.tmp 44) rfl _ _ _ _ _ _ _ _ _ _ _ rfl rfl (upd_zero u5 ?_ ?_) ?_; (· repeat (first | exact heap_alloc_new _ _ | exact heap_alloc_new1 _ _ _ | refine blk_alloc ?_ | refine blk_hid HB3 ?_ | refine blk_hid HB2 ?_ | refine blk_hid HB1 ?_ | refine blk_drew ?_)); (· first | omega | (simp; omega)); intro W6 h6 u6; have R := Lib.hid (below_upd u6 R.out (Nat.le_refl _) (by first | omega | (simp; omega))); have hz : wv.heap.size ≤ W6.heap.size := R.out.size)
                      refine hK.out _ _ ?_ (fun hHeld => ?_)
                      · (try dsimp only); (first | exact KE.out _ (Below.refl _ _).drew | exact KE.out _ ((Below.refl _ _).alloc (Nat.le_refl _) _).drew | exact KE.out _ (((Below.refl _ _).alloc (Nat.le_refl _) _).alloc (by simp) _).drew | exact KE.out _ R.out | exact KE.out _ (R.out.alloc hz _) | exact KE.out _ ((R.out.alloc hz _).alloc (by simp; omega) _))
                      clear hK K
                      try simp only [Act.put, List.setIfInBounds_toArray, List.set_cons_zero, List.set_cons_succ]
                      refine wpAnyH_done (by kernel_rfl) ?_ _
                      go_wp2_with fail
                      go_meet
                      refine ⟨_, _, A1, c1, A3, c3, rfl, rfl, upd_zero u6 h5 ?_, h6, row_upd (cur := _) u6 (row_upd u5 ?_ (by repeat (first | exact heap_alloc_new _ _ | exact heap_alloc_new1 _ _ _ | refine blk_alloc ?_ | refine blk_hid HB3 ?_ | refine blk_hid HB2 ?_ | refine blk_hid HB1 ?_ | refine blk_drew ?_))) (upd_zero u5 (by repeat (first | exact heap_alloc_new _ _ | exact heap_alloc_new1 _ _ _ | refine blk_alloc ?_ | refine blk_hid HB3 ?_ | refine blk_hid HB2 ?_ | refine blk_hid HB1 ?_ | refine blk_drew ?_)) ?_), row_upd u6 (row_upd u5 ?_ (by repeat (first | exact heap_alloc_new _ _ | exact heap_alloc_new1 _ _ _ | refine blk_alloc ?_ | refine blk_hid HB3 ?_ | refine blk_hid HB2 ?_ | refine blk_hid HB1 ?_ | refine blk_drew ?_))) (upd_zero u5 (by repeat (first | exact heap_alloc_new _ _ | exact heap_alloc_new1 _ _ _ | refine blk_alloc ?_ | refine blk_hid HB3 ?_ | refine blk_hid HB2 ?_ | refine blk_hid HB1 ?_ | refine blk_drew ?_)) ?_), R.out⟩
                      all_goals
                        first
                          | omega
                          | (simp; omega)
                          | (repeat (first | exact ROW3.out | exact ROW1.out | refine row_alloc ?_ | refine row_hid HB3 ?_ | refine row_hid HB2 ?_))
                    exact AllReadyH.nil
                  exact AllReadyH.nil
                exact AllReadyH.nil
              exact AllReadyH.nil
            exact AllReadyH.nil
          refine AllReadyH.cons (o := (⟨some 9, _, _, _, _, _⟩ : Oper)) rfl (fun K hK => ?_) ?_
          · go_simp
            refine hK.out _ _ ?_ (fun hHeld => ?_)
            · (try dsimp only); (first | exact KE.out _ (Below.refl _ _).drew | exact KE.out _ ((Below.refl _ _).alloc (Nat.le_refl _) _).drew | exact KE.out _ (((Below.refl _ _).alloc (Nat.le_refl _) _).alloc (by simp) _).drew | exact KE.out _ R.out | exact KE.out _ (R.out.alloc hz _) | exact KE.out _ ((R.out.alloc hz _).alloc (by simp; omega) _))
            clear hK K
            try simp only [Act.put, List.setIfInBounds_toArray, List.set_cons_zero, List.set_cons_succ]
            refine wpAnyH_ready (rs := [6, 8]) (by kernel_rfl) (by simp) ?_
            refine AllReadyH.cons (o := (⟨some 43, _, _, _, _, _⟩ : Oper)) rfl (fun K hK => ?_) ?_
            · go_simp
              (go_at_call 6; (with_reducible refine (HBCL.out _ ?_).mono ?_); (· refine HBV.out.trans (Below.mono ?_ hv); (first | exact (Below.refl _ _).drew | exact ((Below.refl _ _).alloc (Nat.le_refl _) _).drew | exact (((Below.refl _ _).alloc (Nat.le_refl _) _).alloc (by simp) _).drew | exact R.out | exact R.out.alloc hz _ | exact (R.out.alloc hz _).alloc (by simp; omega) _)); rintro e W2 ⟨⟨An, cn, rfl, hrow⟩, hb⟩; have FN := Lib.hid (latR_feeV hrow); have HB2 := Lib.hid hb; have sz2 := hb.size; (try simp at sz2); have R := Lib.hid (below_go (U := wv) hb (by (first | exact (Below.refl _ _).drew | exact ((Below.refl _ _).alloc (Nat.le_refl _) _).drew | exact (((Below.refl _ _).alloc (Nat.le_refl _) _).alloc (by simp) _).drew | exact R.out | exact R.out.alloc hz _ | exact (R.out.alloc hz _).alloc (by simp; omega) _))); have hz : wv.heap.size ≤ W2.heap.size := R.out.size; clear hrow hb)
              refine hK.out _ _ ?_ (fun hHeld => ?_)
              · (try dsimp only); (first | exact KE.out _ (Below.refl _ _).drew | exact KE.out _ ((Below.refl _ _).alloc (Nat.le_refl _) _).drew | exact KE.out _ (((Below.refl _ _).alloc (Nat.le_refl _) _).alloc (by simp) _).drew | exact KE.out _ R.out | exact KE.out _ (R.out.alloc hz _) | exact KE.out _ ((R.out.alloc hz _).alloc (by simp; omega) _))
              clear hK K
              try simp only [Act.put, List.setIfInBounds_toArray, List.set_cons_zero, List.set_cons_succ]
              refine wpAnyH_ready (rs := [7, 8]) (by kernel_rfl) (by simp) ?_
              refine AllReadyH.cons (o := (⟨some 44, _, _, _, _, _⟩ : Oper)) rfl (fun K hK => ?_) ?_
              · go_simp
                (go_at_call 6; (with_reducible refine (HANX.out _ An cn ?_ ?_).mono ?_); (· refine HBV.out.trans (Below.mono ?_ hv); (first | exact (Below.refl _ _).drew | exact ((Below.refl _ _).alloc (Nat.le_refl _) _).drew | exact (((Below.refl _ _).alloc (Nat.le_refl _) _).alloc (by simp) _).drew | exact R.out | exact R.out.alloc hz _ | exact (R.out.alloc hz _).alloc (by simp; omega) _)); (· first | exact FN.out | exact feeV_next FN.out ((Below.refl _ _).alloc (Nat.le_refl _) _) | exact feeV_next (feeV_next FN.out ((Below.refl _ _).alloc (Nat.le_refl _) _)) ((Below.refl _ _).alloc (Nat.le_refl _) _)); rintro e W3 ⟨⟨A3, c3, rfl, hrow⟩, hb⟩; have ROW3 := Lib.hid (hrow.base_ (Nat.zero_le _)); have HB3 := Lib.hid hb; have sz3 := hb.size; (try simp at sz3); have R := Lib.hid (below_go (U := wv) hb (by (first | exact (Below.refl _ _).drew | exact ((Below.refl _ _).alloc (Nat.le_refl _) _).drew | exact (((Below.refl _ _).alloc (Nat.le_refl _) _).alloc (by simp) _).drew | exact R.out | exact R.out.alloc hz _ | exact (R.out.alloc hz _).alloc (by simp; omega) _))); have hz : wv.heap.size ≤ W3.heap.size := R.out.size; clear hrow hb)
                refine hK.out _ _ ?_ (fun hHeld => ?_)
                · (try dsimp only); (first | exact KE.out _ (Below.refl _ _).drew | exact KE.out _ ((Below.refl _ _).alloc (Nat.le_refl _) _).drew | exact KE.out _ (((Below.refl _ _).alloc (Nat.le_refl _) _).alloc (by simp) _).drew | exact KE.out _ R.out | exact KE.out _ (R.out.alloc hz _) | exact KE.out _ ((R.out.alloc hz _).alloc (by simp; omega) _))
                clear hK K
                try simp only [Act.put, List.setIfInBounds_toArray, List.set_cons_zero, List.set_cons_succ]
                refine wpAnyH_ready (rs := [8]) (by kernel_rfl) (by simp) ?_
                refine AllReadyH.cons (o := (⟨some 8, _, _, _, _, _⟩ : Oper)) rfl (fun K hK => ?_) ?_
                · go_simp
                  refine hK.out _ _ ?_ (fun hHeld => ?_)
                  · (try dsimp only); (first | exact KE.out _ (Below.refl _ _).drew | exact KE.out _ ((Below.refl _ _).alloc (Nat.le_refl _) _).drew | exact KE.out _ (((Below.refl _ _).alloc (Nat.le_refl _) _).alloc (by simp) _).drew | exact KE.out _ R.out | exact KE.out _ (R.out.alloc hz _) | exact KE.out _ ((R.out.alloc hz _).alloc (by simp; omega) _))
                  clear hK K
                  try simp only [Act.put, List.setIfInBounds_toArray, List.set_cons_zero, List.set_cons_succ]
                  refine wpAnyH_ready (rs := [10]) (by kernel_rfl) (by simp) ?_
                  refine AllReadyH.cons (o := (⟨none, _, _, _, _, _⟩ : Oper)) rfl (fun K hK => ?_) ?_
                  · (refine store_fee_step rfl (.tmp 8) (.tmp 39) rfl _ _ _ _ _ _ _ _ _ _ _ rfl rfl ?_ ?_; (· repeat (first | exact heap_alloc_new _ _ | exact heap_alloc_new1 _ _ _ | refine blk_alloc ?_ | refine blk_hid HB3 ?_ | refine blk_hid HB2 ?_ | refine blk_hid HB1 ?_ | refine blk_drew ?_)); intro W5 h5 u5; have R := Lib.hid (below_upd (V := wv) u5 (by (first | exact (Below.refl _ _).drew | exact ((Below.refl _ _).alloc (Nat.le_refl _) _).drew | exact (((Below.refl _ _).alloc (Nat.le_refl _) _).alloc (by simp) _).drew | exact R.out | exact R.out.alloc hz _ | exact (R.out.alloc hz _).alloc (by simp; omega) _)) (Nat.le_refl _) (by first | omega | (simp; omega))); have hz : wv.heap.size ≤ W5.heap.size := R.out.size)
                    refine hK.out _ _ ?_ (fun hHeld => ?_)
                    · (try dsimp only); (first | exact KE.out _ (Below.refl _ _).drew | exact KE.out _ ((Below.refl _ _).alloc (Nat.le_refl _) _).drew | exact KE.out _ (((Below.refl _ _).alloc (Nat.le_refl _) _).alloc (by simp) _).drew | exact KE.out _ R.out | exact KE.out _ (R.out.alloc hz _) | exact KE.out _ ((R.out.alloc hz _).alloc (by simp; omega) _))
                    clear hK K
                    try simp only [Act.put, List.setIfInBounds_toArray, List.set_cons_zero, List.set_cons_succ]
                    refine wpAnyH_ready (rs := [11]) (by kernel_rfl) (by simp) ?_
                    refine AllReadyH.cons (o := (⟨none, _, _, _, _, _⟩ : Oper)) rfl (fun K hK => ?_) ?_
                    · (refine store_fee_step rfl (.tmp 9) (.tmp 44) rfl _ _ _ _ _ _ _ _ _ _ _ rfl rfl (upd_zero u5 ?_ ?_) ?_; (· repeat (first | exact heap_alloc_new _ _ | exact heap_alloc_new1 _ _ _ | refine blk_alloc ?_ | refine blk_hid HB3 ?_ | refine blk_hid HB2 ?_ | refine blk_hid HB1 ?_ | refine blk_drew ?_)); (· first | omega | (simp; omega)); intro W6 h6 u6; have R := Lib.hid (below_upd u6 R.out (Nat.le_refl _) (by first | omega | (simp; omega))); have hz : wv.heap.size ≤ W6.heap.size := R.out.size)
                      refine hK.out _ _ ?_ (fun hHeld => ?_)
                      · (try dsimp only); (first | exact KE.out _ (Below.refl _ _).drew | exact KE.out _ ((Below.refl _ _).alloc (Nat.le_refl _) _).drew | exact KE.out _ (((Below.refl _ _).alloc (Nat.le_refl _) _).alloc (by simp) _).drew | exact KE.out _ R.out | exact KE.out _ (R.out.alloc hz _) | exact KE.out _ ((R.out.alloc hz _).alloc (by simp; omega) _))
                      clear hK K
                      try simp only [Act.put, List.setIfInBounds_toArray, List.set_cons_zero, List.set_cons_succ]
                      refine wpAnyH_done (by kernel_rfl) ?_ _
                      go_wp2_with fail
                      go_meet
                      refine ⟨_, _, A1, c1, A3, c3, rfl, rfl, upd_zero u6 h5 ?_, h6, row_upd (cur := _) u6 (row_upd u5 ?_ (by repeat (first | exact heap_alloc_new _ _ | exact heap_alloc_new1 _ _ _ | refine blk_alloc ?_ | refine blk_hid HB3 ?_ | refine blk_hid HB2 ?_ | refine blk_hid HB1 ?_ | refine blk_drew ?_))) (upd_zero u5 (by repeat (first | exact heap_alloc_new _ _ | exact heap_alloc_new1 _ _ _ | refine blk_alloc ?_ | refine blk_hid HB3 ?_ | refine blk_hid HB2 ?_ | refine blk_hid HB1 ?_ | refine blk_drew ?_)) ?_), row_upd u6 (row_upd u5 ?_ (by repeat (first | exact heap_alloc_new _ _ | exact heap_alloc_new1 _ _ _ | refine blk_alloc ?_ | refine blk_hid HB3 ?_ | refine blk_hid HB2 ?_ | refine blk_hid HB1 ?_ | refine blk_drew ?_))) (upd_zero u5 (by repeat (first | exact heap_alloc_new _ _ | exact heap_alloc_new1 _ _ _ | refine blk_alloc ?_ | refine blk_hid HB3 ?_ | refine blk_hid HB2 ?_ | refine blk_hid HB1 ?_ | refine blk_drew ?_)) ?_), R.out⟩
                      all_goals
                        first
                          | omega
                          | (simp; omega)
                          | (repeat (first | exact ROW3.out | exact ROW1.out | refine row_alloc ?_ | refine row_hid HB3 ?_ | refine row_hid HB2 ?_))
                    exact AllReadyH.nil
                  exact AllReadyH.nil
                exact AllReadyH.nil
              refine AllReadyH.cons (o := (⟨some 8, _, _, _, _, _⟩ : Oper)) rfl (fun K hK => ?_) ?_
              · go_simp
                refine hK.out _ _ ?_ (fun hHeld => ?_)
                · (try dsimp only); (first | exact KE.out _ (Below.refl _ _).drew | exact KE.out _ ((Below.refl _ _).alloc (Nat.le_refl _) _).drew | exact KE.out _ (((Below.refl _ _).alloc (Nat.le_refl _) _).alloc (by simp) _).drew | exact KE.out _ R.out | exact KE.out _ (R.out.alloc hz _) | exact KE.out _ ((R.out.alloc hz _).alloc (by simp; omega) _))
                clear hK K
                try simp only [Act.put, List.setIfInBounds_toArray, List.set_cons_zero, List.set_cons_succ]
                refine wpAnyH_ready (rs := [7]) (by kernel_rfl) (by simp) ?_
                refine AllReadyH.cons (o := (⟨some 44, _, _, _, _, _⟩ : Oper)) rfl (fun K hK => ?_) ?_
                · go_simp
                  (go_at_call 6; (with_reducible refine (HANX.out _ An cn ?_ ?_).mono ?_); (· refine HBV.out.trans (Below.mono ?_ hv); (first | exact (Below.refl _ _).drew | exact ((Below.refl _ _).alloc (Nat.le_refl _) _).drew | exact (((Below.refl _ _).alloc (Nat.le_refl _) _).alloc (by simp) _).drew | exact R.out | exact R.out.alloc hz _ | exact (R.out.alloc hz _).alloc (by simp; omega) _)); (· first | exact FN.out | exact feeV_next FN.out ((Below.refl _ _).alloc (Nat.le_refl _) _) | exact feeV_next (feeV_next FN.out ((Below.refl _ _).alloc (Nat.le_refl _) _)) ((Below.refl _ _).alloc (Nat.le_refl _) _)); rintro e W3 ⟨⟨A3, c3, rfl, hrow⟩, hb⟩; have ROW3 := Lib.hid (hrow.base_ (Nat.zero_le _)); have HB3 := Lib.hid hb; have sz3 := hb.size; (try simp at sz3); have R := Lib.hid (below_go (U := wv) hb (by (first | exact (Below.refl _ _).drew | exact ((Below.refl _ _).alloc (Nat.le_refl _) _).drew | exact (((Below.refl _ _).alloc (Nat.le_refl _) _).alloc (by simp) _).drew | exact R.out | exact R.out.alloc hz _ | exact (R.out.alloc hz _).alloc (by simp; omega) _))); have hz : wv.heap.size ≤ W3.heap.size := R.out.size; clear hrow hb)
                  refine hK.out _ _ ?_ (fun hHeld => ?_)
                  · (try dsimp only); (first | exact KE.out _ (Below.refl _ _).drew | exact KE.out _ ((Below.refl _ _).alloc (Nat.le_refl _) _).drew | exact KE.out _ (((Below.refl _ _).alloc (Nat.le_refl _) _).alloc (by simp) _).drew | exact KE.out _ R.out | exact KE.out _ (R.out.alloc hz _) | exact KE.out _ ((R.out.alloc hz _).alloc (by simp; omega) _))
                  clear hK K
                  try simp only [Act.put, List.setIfInBounds_toArray, List.set_cons_zero, List.set_cons_succ]
                  refine wpAnyH_ready (rs := [10]) (by kernel_rfl) (by simp) ?_
                  refine AllReadyH.cons (o := (⟨none, _, _, _, _, _⟩ : Oper)) rfl (fun K hK => ?_) ?_
                  · (refine store_fee_step rfl (.tmp 8) (.tmp 39) rfl _ _ _ _ _ _ _ _ _ _ _ rfl rfl ?_ ?_; (· repeat (first | exact heap_alloc_new _ _ | exact heap_alloc_new1 _ _ _ | refine blk_alloc ?_ | refine blk_hid HB3 ?_ | refine blk_hid HB2 ?_ | refine blk_hid HB1 ?_ | refine blk_drew ?_)); intro W5 h5 u5; have R := Lib.hid (below_upd (V := wv) u5 (by (first | exact (Below.refl _ _).drew | exact ((Below.refl _ _).alloc (Nat.le_refl _) _).drew | exact (((Below.refl _ _).alloc (Nat.le_refl _) _).alloc (by simp) _).drew | exact R.out | exact R.out.alloc hz _ | exact (R.out.alloc hz _).alloc (by simp; omega) _)) (Nat.le_refl _) (by first | omega | (simp; omega))); have hz : wv.heap.size ≤ W5.heap.size := R.out.size)
                    refine hK.out _ _ ?_ (fun hHeld => ?_)
                    · (try dsimp only); (first | exact KE.out _ (Below.refl _ _).drew | exact KE.out _ ((Below.refl _ _).alloc (Nat.le_refl _) _).drew | exact KE.out _ (((Below.refl _ _).alloc (Nat.le_refl _) _).alloc (by simp) _).drew | exact KE.out _ R.out | exact KE.out _ (R.out.alloc hz _) | exact KE.out _ ((R.out.alloc hz _).alloc (by simp; omega) _))
                    clear hK K
                    try simp only [Act.put, List.setIfInBounds_toArray, List.set_cons_zero, List.set_cons_succ]
                    refine wpAnyH_ready (rs := [11]) (by kernel_rfl) (by simp) ?_
                    refine AllReadyH.cons (o := (⟨none, _, _, _, _, _⟩ : Oper)) rfl (fun K hK => ?_) ?_
                    · (refine store_fee_step rfl (.tmp 9) (.tmp 44) rfl _ _ _ _ _ _ _ _ _ _ _ rfl rfl (upd_zero u5 ?_ ?_) ?_; (· repeat (first | exact heap_alloc_new _ _ | exact heap_alloc_new1 _ _ _ | refine blk_alloc ?_ | refine blk_hid HB3 ?_ | refine blk_hid HB2 ?_ | refine blk_hid HB1 ?_ | refine blk_drew ?_)); (· first | omega | (simp; omega)); intro W6 h6 u6; have R := Lib.hid (below_upd u6 R.out (Nat.le_refl _) (by first | omega | (simp; omega))); have hz : wv.heap.size ≤ W6.heap.size := R.out.size)
                      refine hK.out _ _ ?_ (fun hHeld => ?_)
                      · (try dsimp only); (first | exact KE.out _ (Below.refl _ _).drew | exact KE.out _ ((Below.refl _ _).alloc (Nat.le_refl _) _).drew | exact KE.out _ (((Below.refl _ _).alloc (Nat.le_refl _) _).alloc (by simp) _).drew | exact KE.out _ R.out | exact KE.out _ (R.out.alloc hz _) | exact KE.out _ ((R.out.alloc hz _).alloc (by simp; omega) _))
                      clear hK K
                      try simp only [Act.put, List.setIfInBounds_toArray, List.set_cons_zero, List.set_cons_succ]
                      refine wpAnyH_done (by kernel_rfl) ?_ _
                      go_wp2_with fail
                      go_meet
                      refine ⟨_, _, A1, c1, A3, c3, rfl, rfl, upd_zero u6 h5 ?_, h6, row_upd (cur := _) u6 (row_upd u5 ?_ (by repeat (first | exact heap_alloc_new _ _ | exact heap_alloc_new1 _ _ _ | refine blk_alloc ?_ | refine blk_hid HB3 ?_ | refine blk_hid HB2 ?_ | refine blk_hid HB1 ?_ | refine blk_drew ?_))) (upd_zero u5 (by repeat (first | exact heap_alloc_new _ _ | exact heap_alloc_new1 _ _ _ | refine blk_alloc ?_ | refine blk_hid HB3 ?_ | refine blk_hid HB2 ?_ | refine blk_hid HB1 ?_ | refine blk_drew ?_)) ?_), row_upd u6 (row_upd u5 ?_ (by repeat (first | exact heap_alloc_new _ _ | exact heap_alloc_new1 _ _ _ | refine blk_alloc ?_ | refine blk_hid HB3 ?_ | refine blk_hid HB2 ?_ | refine blk_hid HB1 ?_ | refine blk_drew ?_))) (upd_zero u5 (by repeat (first | exact heap_alloc_new _ _ | exact heap_alloc_new1 _ _ _ | refine blk_alloc ?_ | refine blk_hid HB3 ?_ | refine blk_hid HB2 ?_ | refine blk_hid HB1 ?_ | refine blk_drew ?_)) ?_), R.out⟩
                      all_goals
                        first
                          | omega
                          | (simp; omega)
                          | (repeat (first | exact ROW3.out | exact ROW1.out | refine row_alloc ?_ | refine row_hid HB3 ?_ | refine row_hid HB2 ?_))
                    exact AllReadyH.nil
                  exact AllReadyH.nil
                exact AllReadyH.nil
              exact AllReadyH.nil
            refine AllReadyH.cons (o := (⟨some 8, _, _, _, _, _⟩ : Oper)) rfl (fun K hK => ?_) ?_
            · go_simp
              refine hK.out _ _ ?_ (fun hHeld => ?_)
              · (try dsimp only); (first | exact KE.out _ (Below.refl _ _).drew | exact KE.out _ ((Below.refl _ _).alloc (Nat.le_refl _) _).drew | exact KE.out _ (((Below.refl _ _).alloc (Nat.le_refl _) _).alloc (by simp) _).drew | exact KE.out _ R.out | exact KE.out _ (R.out.alloc hz _) | exact KE.out _ ((R.out.alloc hz _).alloc (by simp; omega) _))
              clear hK K
              try simp only [Act.put, List.setIfInBounds_toArray, List.set_cons_zero, List.set_cons_succ]
              refine wpAnyH_ready (rs := [6]) (by kernel_rfl) (by simp) ?_
              refine AllReadyH.cons (o := (⟨some 43, _, _, _, _, _⟩ : Oper)) rfl (fun K hK => ?_) ?_
              · go_simp
                (go_at_call 6; (with_reducible refine (HBCL.out _ ?_).mono ?_); (· refine HBV.out.trans (Below.mono ?_ hv); (first | exact (Below.refl _ _).drew | exact ((Below.refl _ _).alloc (Nat.le_refl _) _).drew | exact (((Below.refl _ _).alloc (Nat.le_refl _) _).alloc (by simp) _).drew | exact R.out | exact R.out.alloc hz _ | exact (R.out.alloc hz _).alloc (by simp; omega) _)); rintro e W2 ⟨⟨An, cn, rfl, hrow⟩, hb⟩; have FN := Lib.hid (latR_feeV hrow); have HB2 := Lib.hid hb; have sz2 := hb.size; (try simp at sz2); have R := Lib.hid (below_go (U := wv) hb (by (first | exact (Below.refl _ _).drew | exact ((Below.refl _ _).alloc (Nat.le_refl _) _).drew | exact (((Below.refl _ _).alloc (Nat.le_refl _) _).alloc (by simp) _).drew | exact R.out | exact R.out.alloc hz _ | exact (R.out.alloc hz _).alloc (by simp; omega) _))); have hz : wv.heap.size ≤ W2.heap.size := R.out.size; clear hrow hb)
                refine hK.out _ _ ?_ (fun hHeld => ?_)
                · (try dsimp only); (first | exact KE.out _ (Below.refl _ _).drew | exact KE.out _ ((Below.refl _ _).alloc (Nat.le_refl _) _).drew | exact KE.out _ (((Below.refl _ _).alloc (Nat.le_refl _) _).alloc (by simp) _).drew | exact KE.out _ R.out | exact KE.out _ (R.out.alloc hz _) | exact KE.out _ ((R.out.alloc hz _).alloc (by simp; omega) _))
                clear hK K
                try simp only [Act.put, List.setIfInBounds_toArray, List.set_cons_zero, List.set_cons_succ]
                refine wpAnyH_ready (rs := [7]) (by kernel_rfl) (by simp) ?_
                refine AllReadyH.cons (o := (⟨some 44, _, _, _, _, _⟩ : Oper)) rfl (fun K hK => ?_) ?_
                · go_simp
                  (go_at_call 6; (with_reducible refine (HANX.out _ An cn ?_ ?_).mono ?_); (· refine HBV.out.trans (Below.mono ?_ hv); (first | exact (Below.refl _ _).drew | exact ((Below.refl _ _).alloc (Nat.le_refl _) _).drew | exact (((Below.refl _ _).alloc (Nat.le_refl _) _).alloc (by simp) _).drew | exact R.out | exact R.out.alloc hz _ | exact (R.out.alloc hz _).alloc (by simp; omega) _)); (· first | exact FN.out | exact feeV_next FN.out ((Below.refl _ _).alloc (Nat.le_refl _) _) | exact feeV_next (feeV_next FN.out ((Below.refl _ _).alloc (Nat.le_refl _) _)) ((Below.refl _ _).alloc (Nat.le_refl _) _)); rintro e W3 ⟨⟨A3, c3, rfl, hrow⟩, hb⟩; have ROW3 := Lib.hid (hrow.base_ (Nat.zero_le _)); have HB3 := Lib.hid hb; have sz3 := hb.size; (try simp at sz3); have R := Lib.hid (below_go (U := wv) hb (by (first | exact (Below.refl _ _).drew | exact ((Below.refl _ _).alloc (Nat.le_refl _) _).drew | exact (((Below.refl _ _).alloc (Nat.le_refl _) _).alloc (by simp) _).drew | exact R.out | exact R.out.alloc hz _ | exact (R.out.alloc hz _).alloc (by simp; omega) _))); have hz : wv.heap.size ≤ W3.heap.size := R.out.size; clear hrow hb)
                  refine hK.out _ _ ?_ (fun hHeld => ?_)
                  · (try dsimp only); (first | exact KE.out _ (Below.refl _ _).drew | exact KE.out _ ((Below.refl _ _).alloc (Nat.le_refl _) _).drew | exact KE.out _ (((Below.refl _ _).alloc (Nat.le_refl _) _).alloc (by simp) _).drew | exact KE.out _ R.out | exact KE.out _ (R.out.alloc hz _) | exact KE.out _ ((R.out.alloc hz _).alloc (by simp; omega) _))
                  clear hK K
                  try simp only [Act.put, List.setIfInBounds_toArray, List.set_cons_zero, List.set_cons_succ]
                  refine wpAnyH_ready (rs := [10]) (by kernel_rfl) (by simp) ?_
                  refine AllReadyH.cons (o := (⟨none, _, _, _, _, _⟩ : Oper)) rfl (fun K hK => ?_) ?_
                  · (refine store_fee_step rfl (.tmp 8) (.tmp 39) rfl _ _ _ _ _ _ _ _ _ _ _ rfl rfl ?_ ?_; (· repeat (first | exact heap_alloc_new _ _ | exact heap_alloc_new1 _ _ _ | refine blk_alloc ?_ | refine blk_hid HB3 ?_ | refine blk_hid HB2 ?_ | refine blk_hid HB1 ?_ | refine blk_drew ?_)); intro W5 h5 u5; have R := Lib.hid (below_upd (V := wv) u5 (by (first | exact (Below.refl _ _).drew | exact ((Below.refl _ _).alloc (Nat.le_refl _) _).drew | exact (((Below.refl _ _).alloc (Nat.le_refl _) _).alloc (by simp) _).drew | exact R.out | exact R.out.alloc hz _ | exact (R.out.alloc hz _).alloc (by simp; omega) _)) (Nat.le_refl _) (by first | omega | (simp; omega))); have hz : wv.heap.size ≤ W5.heap.size := R.out.size)
                    refine hK.out _ _ ?_ (fun hHeld => ?_)
                    · (try dsimp only); (first | exact KE.out _ (Below.refl _ _).drew | exact KE.out _ ((Below.refl _ _).alloc (Nat.le_refl _) _).drew | exact KE.out _ (((Below.refl _ _).alloc (Nat.le_refl _) _).alloc (by simp) _).drew | exact KE.out _ R.out | exact KE.out _ (R.out.alloc hz _) | exact KE.out _ ((R.out.alloc hz _).alloc (by simp; omega) _))
                    clear hK K
                    try simp only [Act.put, List.setIfInBounds_toArray, List.set_cons_zero, List.set_cons_succ]
                    refine wpAnyH_ready (rs := [11]) (by kernel_rfl) (by simp) ?_
                    refine AllReadyH.cons (o := (⟨none, _, _, _, _, _⟩ : Oper)) rfl (fun K hK => ?_) ?_
                    · (refine store_fee_step rfl (.tmp 9) (.tmp 44) rfl _ _ _ _ _ _ _ _ _ _ _ rfl rfl (upd_zero u5 ?_ ?_) ?_; (· repeat (first | exact heap_alloc_new _ _ | exact heap_alloc_new1 _ _ _ | refine blk_alloc ?_ | refine blk_hid HB3 ?_ | refine blk_hid HB2 ?_ | refine blk_hid HB1 ?_ | refine blk_drew ?_)); (· first | omega | (simp; omega)); intro W6 h6 u6; have R := Lib.hid (below_upd u6 R.out (Nat.le_refl _) (by first | omega | (simp; omega))); have hz : wv.heap.size ≤ W6.heap.size := R.out.size)
                      refine hK.out _ _ ?_ (fun hHeld => ?_)
                      · (try dsimp only); (first | exact KE.out _ (Below.refl _ _).drew | exact KE.out _ ((Below.refl _ _).alloc (Nat.le_refl _) _).drew | exact KE.out _ (((Below.refl _ _).alloc (Nat.le_refl _) _).alloc (by simp) _).drew | exact KE.out _ R.out | exact KE.out _ (R.out.alloc hz _) | exact KE.out _ ((R.out.alloc hz _).alloc (by simp; omega) _))
                      clear hK K
                      try simp only [Act.put, List.setIfInBounds_toArray, List.set_cons_zero, List.set_cons_succ]
                      refine wpAnyH_done (by kernel_rfl) ?_ _
                      go_wp2_with fail
                      go_meet
                      refine ⟨_, _, A1, c1, A3, c3, rfl, rfl, upd_zero u6 h5 ?_, h6, row_upd (cur := _) u6 (row_upd u5 ?_ (by repeat (first | exact heap_alloc_new _ _ | exact heap_alloc_new1 _ _ _ | refine blk_alloc ?_ | refine blk_hid HB3 ?_ | refine blk_hid HB2 ?_ | refine blk_hid HB1 ?_ | refine blk_drew ?_))) (upd_zero u5 (by repeat (first | exact heap_alloc_new _ _ | exact heap_alloc_new1 _ _ _ | refine blk_alloc ?_ | refine blk_hid HB3 ?_ | refine blk_hid HB2 ?_ | refine blk_hid HB1 ?_ | refine blk_drew ?_)) ?_), row_upd u6 (row_upd u5 ?_ (by repeat (first | exact heap_alloc_new _ _ | exact heap_alloc_new1 _ _ _ | refine blk_alloc ?_ | refine blk_hid HB3 ?_ | refine blk_hid HB2 ?_ | refine blk_hid HB1 ?_ | refine blk_drew ?_))) (upd_zero u5 (by repeat (first | exact heap_alloc_new _ _ | exact heap_alloc_new1 _ _ _ | refine blk_alloc ?_ | refine blk_hid HB3 ?_ | refine blk_hid HB2 ?_ | refine blk_hid HB1 ?_ | refine blk_drew ?_)) ?_), R.out⟩
                      all_goals
                        first
                          | omega
                          | (simp; omega)
                          | (repeat (first | exact ROW3.out | exact ROW1.out | refine row_alloc ?_ | refine row_hid HB3 ?_ | refine row_hid HB2 ?_))
                    exact AllReadyH.nil
                  exact AllReadyH.nil
                exact AllReadyH.nil
              exact AllReadyH.nil
            exact AllReadyH.nil
          exact AllReadyH.nil
        refine AllReadyH.cons (o := (⟨some 8, _, _, _, _, _⟩ : Oper)) rfl (fun K hK => ?_) ?_
        · go_simp
          refine hK.out _ _ ?_ (fun hHeld => ?_)
          · (try dsimp only); (first | exact KE.out _ (Below.refl _ _).drew | exact KE.out _ ((Below.refl _ _).alloc (Nat.le_refl _) _).drew | exact KE.out _ (((Below.refl _ _).alloc (Nat.le_refl _) _).alloc (by simp) _).drew | exact KE.out _ R.out | exact KE.out _ (R.out.alloc hz _) | exact KE.out _ ((R.out.alloc hz _).alloc (by simp; omega) _))
          clear hK K
          try simp only [Act.put, List.setIfInBounds_toArray, List.set_cons_zero, List.set_cons_succ]
          refine wpAnyH_ready (rs := [2, 9]) (by kernel_rfl) (by simp) ?_
          refine AllReadyH.cons (o := (⟨some 39, _, _, _, _, _⟩ : Oper)) rfl (fun K hK => ?_) ?_
          · go_simp
            (go_at_call 6; (with_reducible refine (HXCX.out _ Ax cx ?_ (FV1.out _ ?_)).mono ?_); (· refine HBV.out.trans (Below.mono ?_ hv); (first | exact (Below.refl _ _).drew | exact ((Below.refl _ _).alloc (Nat.le_refl _) _).drew | exact (((Below.refl _ _).alloc (Nat.le_refl _) _).alloc (by simp) _).drew | exact R.out | exact R.out.alloc hz _ | exact (R.out.alloc hz _).alloc (by simp; omega) _)); (· (first | exact (Below.refl _ _).drew | exact ((Below.refl _ _).alloc (Nat.le_refl _) _).drew | exact (((Below.refl _ _).alloc (Nat.le_refl _) _).alloc (by simp) _).drew | exact R.out | exact R.out.alloc hz _ | exact (R.out.alloc hz _).alloc (by simp; omega) _)); rintro e W1 ⟨⟨A1, c1, rfl, hrow⟩, hb⟩; have ROW1 := Lib.hid (hrow.base_ (Nat.zero_le _)); have HB1 := Lib.hid hb; have sz1 := hb.size; (try simp at sz1); have R := Lib.hid (below_go (U := wv) hb (by (first | exact (Below.refl _ _).drew | exact ((Below.refl _ _).alloc (Nat.le_refl _) _).drew | exact (((Below.refl _ _).alloc (Nat.le_refl _) _).alloc (by simp) _).drew | exact R.out | exact R.out.alloc hz _ | exact (R.out.alloc hz _).alloc (by simp; omega) _))); have hz : wv.heap.size ≤ W1.heap.size := R.out.size; clear hrow hb)
            refine hK.out _ _ ?_ (fun hHeld => ?_)
            · (try dsimp only); (first | exact KE.out _ (Below.refl _ _).drew | exact KE.out _ ((Below.refl _ _).alloc (Nat.le_refl _) _).drew | exact KE.out _ (((Below.refl _ _).alloc (Nat.le_refl _) _).alloc (by simp) _).drew | exact KE.out _ R.out | exact KE.out _ (R.out.alloc hz _) | exact KE.out _ ((R.out.alloc hz _).alloc (by simp; omega) _))
            clear hK K
            try simp only [Act.put, List.setIfInBounds_toArray, List.set_cons_zero, List.set_cons_succ]
            refine wpAnyH_ready (rs := [6, 9]) (by kernel_rfl) (by simp) ?_
            refine AllReadyH.cons (o := (⟨some 43, _, _, _, _, _⟩ : Oper)) rfl (fun K hK => ?_) ?_
            · go_simp
              (go_at_call 6; (with_reducible refine (HBCL.out _ ?_).mono ?_); (· refine HBV.out.trans (Below.mono ?_ hv); (first | exact (Below.refl _ _).drew | exact ((Below.refl _ _).alloc (Nat.le_refl _) _).drew | exact (((Below.refl _ _).alloc (Nat.le_refl _) _).alloc (by simp) _).drew | exact R.out | exact R.out.alloc hz _ | exact (R.out.alloc hz _).alloc (by simp; omega) _)); rintro e W2 ⟨⟨An, cn, rfl, hrow⟩, hb⟩; have FN := Lib.hid (latR_feeV hrow); have HB2 := Lib.hid hb; have sz2 := hb.size; (try simp at sz2); have R := Lib.hid (below_go (U := wv) hb (by (first | exact (Below.refl _ _).drew | exact ((Below.refl _ _).alloc (Nat.le_refl _) _).drew | exact (((Below.refl _ _).alloc (Nat.le_refl _) _).alloc (by simp) _).drew | exact R.out | exact R.out.alloc hz _ | exact (R.out.alloc hz _).alloc (by simp; omega) _))); have hz : wv.heap.size ≤ W2.heap.size := R.out.size; clear hrow hb)
              refine hK.out _ _ ?_ (fun hHeld => ?_)
              · (try dsimp only); (first | exact KE.out _ (Below.refl _ _).drew | exact KE.out _ ((Below.refl _ _).alloc (Nat.le_refl _) _).drew | exact KE.out _ (((Below.refl _ _).alloc (Nat.le_refl _) _).alloc (by simp) _).drew | exact KE.out _ R.out | exact KE.out _ (R.out.alloc hz _) | exact KE.out _ ((R.out.alloc hz _).alloc (by simp; omega) _))
              clear hK K
              try simp only [Act.put, List.setIfInBounds_toArray, List.set_cons_zero, List.set_cons_succ]
              refine wpAnyH_ready (rs := [7, 9]) (by kernel_rfl) (by simp) ?_
              refine AllReadyH.cons (o := (⟨some 44, _, _, _, _, _⟩ : Oper)) rfl (fun K hK => ?_) ?_
              · go_simp
                (go_at_call 6; (with_reducible refine (HANX.out _ An cn ?_ ?_).mono ?_); (· refine HBV.out.trans (Below.mono ?_ hv); (first | exact (Below.refl _ _).drew | exact ((Below.refl _ _).alloc (Nat.le_refl _) _).drew | exact (((Below.refl _ _).alloc (Nat.le_refl _) _).alloc (by simp) _).drew | exact R.out | exact R.out.alloc hz _ | exact (R.out.alloc hz _).alloc (by simp; omega) _)); (· first | exact FN.out | exact feeV_next FN.out ((Below.refl _ _).alloc (Nat.le_refl _) _) | exact feeV_next (feeV_next FN.out ((Below.refl _ _).alloc (Nat.le_refl _) _)) ((Below.refl _ _).alloc (Nat.le_refl _) _)); rintro e W3 ⟨⟨A3, c3, rfl, hrow⟩, hb⟩; have ROW3 := Lib.hid (hrow.base_ (Nat.zero_le _)); have HB3 := Lib.hid hb; have sz3 := hb.size; (try simp at sz3); have R := Lib.hid (below_go (U := wv) hb (by (first | exact (Below.refl _ _).drew | exact ((Below.refl _ _).alloc (Nat.le_refl _) _).drew | exact (((Below.refl _ _).alloc (Nat.le_refl _) _).alloc (by simp) _).drew | exact R.out | exact R.out.alloc hz _ | exact (R.out.alloc hz _).alloc (by simp; omega) _))); have hz : wv.heap.size ≤ W3.heap.size := R.out.size; clear hrow hb)
                refine hK.out _ _ ?_ (fun hHeld => ?_)
                · (try dsimp only); (first | exact KE.out _ (Below.refl _ _).drew | exact KE.out _ ((Below.refl _ _).alloc (Nat.le_refl _) _).drew | exact KE.out _ (((Below.refl _ _).alloc (Nat.le_refl _) _).alloc (by simp) _).drew | exact KE.out _ R.out | exact KE.out _ (R.out.alloc hz _) | exact KE.out _ ((R.out.alloc hz _).alloc (by simp; omega) _))
                clear hK K
                try simp only [Act.put, List.setIfInBounds_toArray, List.set_cons_zero, List.set_cons_succ]
                refine wpAnyH_ready (rs := [9]) (by kernel_rfl) (by simp) ?_
                refine AllReadyH.cons (o := (⟨some 9, _, _, _, _, _⟩ : Oper)) rfl (fun K hK => ?_) ?_
                · go_simp
                  refine hK.out _ _ ?_ (fun hHeld => ?_)
                  · (try dsimp only); (first | exact KE.out _ (Below.refl _ _).drew | exact KE.out _ ((Below.refl _ _).alloc (Nat.le_refl _) _).drew | exact KE.out _ (((Below.refl _ _).alloc (Nat.le_refl _) _).alloc (by simp) _).drew | exact KE.out _ R.out | exact KE.out _ (R.out.alloc hz _) | exact KE.out _ ((R.out.alloc hz _).alloc (by simp; omega) _))
                  clear hK K
                  try simp only [Act.put, List.setIfInBounds_toArray, List.set_cons_zero, List.set_cons_succ]
                  refine wpAnyH_ready (rs := [10]) (by kernel_rfl) (by simp) ?_
                  refine AllReadyH.cons (o := (⟨none, _, _, _, _, _⟩ : Oper)) rfl (fun K hK => ?_) ?_
                  · (refine store_fee_step rfl (.tmp 8) (.tmp 39) rfl _ _ _ _ _ _ _ _ _ _ _ rfl rfl ?_ ?_; (· repeat (first | exact heap_alloc_new _ _ | exact heap_alloc_new1 _ _ _ | refine blk_alloc ?_ | refine blk_hid HB3 ?_ | refine blk_hid HB2 ?_ | refine blk_hid HB1 ?_ | refine blk_drew ?_)); intro W5 h5 u5; have R := Lib.hid (below_upd (V := wv) u5 (by (first | exact (Below.refl _ _).drew | exact ((Below.refl _ _).alloc (Nat.le_refl _) _).drew | exact (((Below.refl _ _).alloc (Nat.le_refl _) _).alloc (by simp) _).drew | exact R.out | exact R.out.alloc hz _ | exact (R.out.alloc hz _).alloc (by simp; omega) _)) (Nat.le_refl _) (by first | omega | (simp; omega))); have hz : wv.heap.size ≤ W5.heap.size := R.out.size)
                    refine hK.out _ _ ?_ (fun hHeld => ?_)
                    · (try dsimp only); (first | exact KE.out _ (Below.refl _ _).drew | exact KE.out _ ((Below.refl _ _).alloc (Nat.le_refl _) _).drew | exact KE.out _ (((Below.refl _ _).alloc (Nat.le_refl _) _).alloc (by simp) _).drew | exact KE.out _ R.out | exact KE.out _ (R.out.alloc hz _) | exact KE.out _ ((R.out.alloc hz _).alloc (by simp; omega) _))
                    clear hK K
                    try simp only [Act.put, List.setIfInBounds_toArray, List.set_cons_zero, List.set_cons_succ]
                    refine wpAnyH_ready (rs := [11]) (by kernel_rfl) (by simp) ?_
                    refine AllReadyH.cons (o := (⟨none, _, _, _, _, _⟩ : Oper)) rfl (fun K hK => ?_) ?_
                    · (refine store_fee_step rfl (.tmp 9) (.tmp 44) rfl _ _ _ _ _ _ _ _ _ _ _ rfl rfl (upd_zero u5 ?_ ?_) ?_; (· repeat (first | exact heap_alloc_new _ _ | exact heap_alloc_new1 _ _ _ | refine blk_alloc ?_ | refine blk_hid HB3 ?_ | refine blk_hid HB2 ?_ | refine blk_hid HB1 ?_ | refine blk_drew ?_)); (· first | omega | (simp; omega)); intro W6 h6 u6; have R := Lib.hid (below_upd u6 R.out (Nat.le_refl _) (by first | omega | (simp; omega))); have hz : wv.heap.size ≤ W6.heap.size := R.out.size)
                      refine hK.out _ _ ?_ (fun hHeld => ?_)
                      · (try dsimp only); (first | exact KE.out _ (Below.refl _ _).drew | exact KE.out _ ((Below.refl _ _).alloc (Nat.le_refl _) _).drew | exact KE.out _ (((Below.refl _ _).alloc (Nat.le_refl _) _).alloc (by simp) _).drew | exact KE.out _ R.out | exact KE.out _ (R.out.alloc hz _) | exact KE.out _ ((R.out.alloc hz _).alloc (by simp; omega) _))
                      clear hK K
                      try simp only [Act.put, List.setIfInBounds_toArray, List.set_cons_zero, List.set_cons_succ]
                      refine wpAnyH_done (by kernel_rfl) ?_ _
                      go_wp2_with fail
                      go_meet
                      refine ⟨_, _, A1, c1, A3, c3, rfl, rfl, upd_zero u6 h5 ?_, h6, row_upd (cur := _) u6 (row_upd u5 ?_ (by repeat (first | exact heap_alloc_new _ _ | exact heap_alloc_new1 _ _ _ | refine blk_alloc ?_ | refine blk_hid HB3 ?_ | refine blk_hid HB2 ?_ | refine blk_hid HB1 ?_ | refine blk_drew ?_))) (upd_zero u5 (by repeat (first | exact heap_alloc_new _ _ | exact heap_alloc_new1 _ _ _ | refine blk_alloc ?_ | refine blk_hid HB3 ?_ | refine blk_hid HB2 ?_ | refine blk_hid HB1 ?_ | refine blk_drew ?_)) ?_), row_upd u6 (row_upd u5 ?_ (by repeat (first | exact heap_alloc_new _ _ | exact heap_alloc_new1 _ _ _ | refine blk_alloc ?_ | refine blk_hid HB3 ?_ | refine blk_hid HB2 ?_ | refine blk_hid HB1 ?_ | refine blk_drew ?_))) (upd_zero u5 (by repeat (first | exact heap_alloc_new _ _ | exact heap_alloc_new1 _ _ _ | refine blk_alloc ?_ | refine blk_hid HB3 ?_ | refine blk_hid HB2 ?_ | refine blk_hid HB1 ?_ | refine blk_drew ?_)) ?_), R.out⟩
                      all_goals
                        first
                          | omega
                          | (simp; omega)
                          | (repeat (first | exact ROW3.out | exact ROW1.out | refine row_alloc ?_ | refine row_hid HB3 ?_ | refine row_hid HB2 ?_))
                    exact AllReadyH.nil
                  exact AllReadyH.nil
                exact AllReadyH.nil
              refine AllReadyH.cons (o := (⟨some 9, _, _, _, _, _⟩ : Oper)) rfl (fun K hK => ?_) ?_
              · go_simp
                refine hK.out _ _ ?_ (fun hHeld => ?_)
                · (try dsimp only); (first | exact KE.out _ (Below.refl _ _).drew | exact KE.out _ ((Below.refl _ _).alloc (Nat.le_refl _) _).drew | exact KE.out _ (((Below.refl _ _).alloc (Nat.le_refl _) _).alloc (by simp) _).drew | exact KE.out _ R.out | exact KE.out _ (R.out.alloc hz _) | exact KE.out _ ((R.out.alloc hz _).alloc (by simp; omega) _))
                clear hK K
                try simp only [Act.put, List.setIfInBounds_toArray, List.set_cons_zero, List.set_cons_succ]
                refine wpAnyH_ready (rs := [7]) (by kernel_rfl) (by simp) ?_
                refine AllReadyH.cons (o := (⟨some 44, _, _, _, _, _⟩ : Oper)) rfl (fun K hK => ?_) ?_
                · go_simp
                  (go_at_call 6; (with_reducible refine (HANX.out _ An cn ?_ ?_).mono ?_); (· refine HBV.out.trans (Below.mono ?_ hv); (first | exact (Below.refl _ _).drew | exact ((Below.refl _ _).alloc (Nat.le_refl _) _).drew | exact (((Below.refl _ _).alloc (Nat.le_refl _) _).alloc (by simp) _).drew | exact R.out | exact R.out.alloc hz _ | exact (R.out.alloc hz _).alloc (by simp; omega) _)); (· first | exact FN.out | exact feeV_next FN.out ((Below.refl _ _).alloc (Nat.le_refl _) _) | exact feeV_next (feeV_next FN.out ((Below.refl _ _).alloc (Nat.le_refl _) _)) ((Below.refl _ _).alloc (Nat.le_refl _) _)); rintro e W3 ⟨⟨A3, c3, rfl, hrow⟩, hb⟩; have ROW3 := Lib.hid (hrow.base_ (Nat.zero_le _)); have HB3 := Lib.hid hb; have sz3 := hb.size; (try simp at sz3); have R := Lib.hid (below_go (U := wv) hb (by (first | exact (Below.refl _ _).drew | exact ((Below.refl _ _).alloc (Nat.le_refl _) _).drew | exact (((Below.refl _ _).alloc (Nat.le_refl _) _).alloc (by simp) _).drew | exact R.out | exact R.out.alloc hz _ | exact (R.out.alloc hz _).alloc (by simp; omega) _))); have hz : wv.heap.size ≤ W3.heap.size := R.out.size; clear hrow hb)
                  refine hK.out _ _ ?_ (fun hHeld => ?_)
                  · (try dsimp only); (first | exact KE.out _ (Below.refl _ _).drew | exact KE.out _ ((Below.refl _ _).alloc (Nat.le_refl _) _).drew | exact KE.out _ (((Below.refl _ _).alloc (Nat.le_refl _) _).alloc (by simp) _).drew | exact KE.out _ R.out | exact KE.out _ (R.out.alloc hz _) | exact KE.out _ ((R.out.alloc hz _).alloc (by simp; omega) _))
                  clear hK K
                  try simp only [Act.put, List.setIfInBounds_toArray, List.set_cons_zero, List.set_cons_succ]
                  refine wpAnyH_ready (rs := [10]) (by kernel_rfl) (by simp) ?_
                  refine AllReadyH.cons (o := (⟨none, _, _, _, _, _⟩ : Oper)) rfl (fun K hK => ?_) ?_
                  · (refine store_fee_step rfl (.tmp 8) (.tmp 39) rfl _ _ _ _ _ _ _ _ _ _ _ rfl rfl ?_ ?_; (· repeat (first | exact heap_alloc_new _ _ | exact heap_alloc_new1 _ _ _ | refine blk_alloc ?_ | refine blk_hid HB3 ?_ | refine blk_hid HB2 ?_ | refine blk_hid HB1 ?_ | refine blk_drew ?_)); intro W5 h5 u5; have R := Lib.hid (below_upd (V := wv) u5 (by (first | exact (Below.refl _ _).drew | exact ((Below.refl _ _).alloc (Nat.le_refl _) _).drew | exact (((Below.refl _ _).alloc (Nat.le_refl _) _).alloc (by simp) _).drew | exact R.out | exact R.out.alloc hz _ | exact (R.out.alloc hz _).alloc (by simp; omega) _)) (Nat.le_refl _) (by first | omega | (simp; omega))); have hz : wv.heap.size ≤ W5.heap.size := R.out.size)
                    refine hK.out _ _ ?_ (fun hHeld => ?_)
                    · (try dsimp only); (first | exact KE.out _ (Below.refl _ _).drew | exact KE.out _ ((Below.refl _ _).alloc (Nat.le_refl _) _).drew | exact KE.out _ (((Below.refl _ _).alloc (Nat.le_refl _) _).alloc (by simp) _).drew | exact KE.out _ R.out | exact KE.out _ (R.out.alloc hz _) | exact KE.out _ ((R.out.alloc hz _).alloc (by simp; omega) _))
                    clear hK K
                    try simp only [Act.put, List.setIfInBounds_toArray, List.set_cons_zero, List.set_cons_succ]
                    refine wpAnyH_ready (rs := [11]) (by kernel_rfl) (by simp) ?_
                    refine AllReadyH.cons (o := (⟨none, _, _, _, _, _⟩ : Oper)) rfl (fun K hK => ?_) ?_
                    · (refine store_fee_step rfl (.tmp 9) (.tmp 44) rfl _ _ _ _ _ _ _ _ _ _ _ rfl rfl (upd_zero u5 ?_ ?_) ?_; (· repeat (first | exact heap_alloc_new _ _ | exact heap_alloc_new1 _ _ _ | refine blk_alloc ?_ | refine blk_hid HB3 ?_ | refine blk_hid HB2 ?_ | refine blk_hid HB1 ?_ | refine blk_drew ?_)); (· first | omega | (simp; omega)); intro W6 h6 u6; have R := Lib.hid (below_upd u6 R.out (Nat.le_refl _) (by first | omega | (simp; omega))); have hz : wv.heap.size ≤ W6.heap.size := R.out.size)
                      refine hK.out _ _ ?_ (fun hHeld => ?_)
                      · (try dsimp only); (first | exact KE.out _ (Below.refl _ _).drew | exact KE.out _ ((Below.refl _ _).alloc (Nat.le_refl _) _).drew | exact KE.out _ (((Below.refl _ _).alloc (Nat.le_refl _) _).alloc (by simp) _).drew | exact KE.out _ R.out | exact KE.out _ (R.out.alloc hz _) | exact KE.out _ ((R.out.alloc hz _).alloc (by simp; omega) _))
                      clear hK K
                      try simp only [Act.put, List.setIfInBounds_toArray, List.set_cons_zero, List.set_cons_succ]
                      refine wpAnyH_done (by kernel_rfl) ?_ _
                      go_wp2_with fail
                      go_meet
                      refine ⟨_, _, A1, c1, A3, c3, rfl, rfl, upd_zero u6 h5 ?_, h6, row_upd (cur := _) u6 (row_upd u5 ?_ (by repeat (first | exact heap_alloc_new _ _ | exact heap_alloc_new1 _ _ _ | refine blk_alloc ?_ | refine blk_hid HB3 ?_ | refine blk_hid HB2 ?_ | refine blk_hid HB1 ?_ | refine blk_drew ?_))) (upd_zero u5 (by repeat (first | exact heap_alloc_new _ _ | exact heap_alloc_new1 _ _ _ | refine blk_alloc ?_ | refine blk_hid HB3 ?_ | refine blk_hid HB2 ?_ | refine blk_hid HB1 ?_ | refine blk_drew ?_)) ?_), row_upd u6 (row_upd u5 ?_ (by repeat (first | exact heap_alloc_new _ _ | exact heap_alloc_new1 _ _ _ | refine blk_alloc ?_ | refine blk_hid HB3 ?_ | refine blk_hid HB2 ?_ | refine blk_hid HB1 ?_ | refine blk_drew ?_))) (upd_zero u5 (by repeat (first | exact heap_alloc_new _ _ | exact heap_alloc_new1 _ _ _ | refine blk_alloc ?_ | refine blk_hid HB3 ?_ | refine blk_hid HB2 ?_ | refine blk_hid HB1 ?_ | refine blk_drew ?_)) ?_), R.out⟩
                      all_goals
                        first
                          | omega
                          | (simp; omega)
                          | (repeat (first | exact ROW3.out | exact ROW1.out | refine row_alloc ?_ | refine row_hid HB3 ?_ | refine row_hid HB2 ?_))
                    exact AllReadyH.nil
                  exact AllReadyH.nil
                exact AllReadyH.nil
              exact AllReadyH.nil
            refine AllReadyH.cons (o := (⟨some 9, _, _, _, _, _⟩ : Oper)) rfl (fun K hK => ?_) ?_
            · go_simp
              refine hK.out _ _ ?_ (fun hHeld => ?_)
              · (try dsimp only); (first | exact KE.out _ (Below.refl _ _).drew | exact KE.out _ ((Below.refl _ _).alloc (Nat.le_refl _) _).drew | exact KE.out _ (((Below.refl _ _).alloc (Nat.le_refl _) _).alloc (by simp) _).drew | exact KE.out _ R.out | exact KE.out _ (R.out.alloc hz _) | exact KE.out _ ((R.out.alloc hz _).alloc (by simp; omega) _))
              clear hK K
              try simp only [Act.put, List.setIfInBounds_toArray, List.set_cons_zero, List.set_cons_succ]
              refine wpAnyH_ready (rs := [6]) (by kernel_rfl) (by simp) ?_
              refine AllReadyH.cons (o := (⟨some 43, _, _, _, _, _⟩ : Oper)) rfl (fun K hK => ?_) ?_
              · go_simp
                (go_at_call 6; (with_reducible refine (HBCL.out _ ?_).mono ?_); (· refine HBV.out.trans (Below.mono ?_ hv); (first | exact (Below.refl _ _).drew | exact ((Below.refl _ _).alloc (Nat.le_refl _) _).drew | exact (((Below.refl _ _).alloc (Nat.le_refl _) _).alloc (by simp) _).drew | exact R.out | exact R.out.alloc hz _ | exact (R.out.alloc hz _).alloc (by simp; omega) _)); rintro e W2 ⟨⟨An, cn, rfl, hrow⟩, hb⟩; have FN := Lib.hid (latR_feeV hrow); have HB2 := Lib.hid hb; have sz2 := hb.size; (try simp at sz2); have R := Lib.hid (below_go (U := wv) hb (by (first | exact (Below.refl _ _).drew | exact ((Below.refl _ _).alloc (Nat.le_refl _) _).drew | exact (((Below.refl _ _).alloc (Nat.le_refl _) _).alloc (by simp) _).drew | exact R.out | exact R.out.alloc hz _ | exact (R.out.alloc hz _).alloc (by simp; omega) _))); have hz : wv.heap.size ≤ W2.heap.size := R.out.size; clear hrow hb)
                refine hK.out _ _ ?_ (fun hHeld => ?_)
                · (try dsimp only); (first | exact KE.out _ (Below.refl _ _).drew | exact KE.out _ ((Below.refl _ _).alloc (Nat.le_refl _) _).drew | exact KE.out _ (((Below.refl _ _).alloc (Nat.le_refl _) _).alloc (by simp) _).drew | exact KE.out _ R.out | exact KE.out _ (R.out.alloc hz _) | exact KE.out _ ((R.out.alloc hz _).alloc (by simp; omega) _))
                clear hK K
                try simp only [Act.put, List.setIfInBounds_toArray, List.set_cons_zero, List.set_cons_succ]
                refine wpAnyH_ready (rs := [7]) (by kernel_rfl) (by simp) ?_
                refine AllReadyH.cons (o := (⟨some 44, _, _, _, _, _⟩ : Oper)) rfl (fun K hK => ?_) ?_
                · go_simp
                  (go_at_call 6; (with_reducible refine (HANX.out _ An cn ?_ ?_).mono ?_); (· refine HBV.out.trans (Below.mono ?_ hv); (first | exact (Below.refl _ _).drew | exact ((Below.refl _ _).alloc (Nat.le_refl _) _).drew | exact (((Below.refl _ _).alloc (Nat.le_refl _) _).alloc (by simp) _).drew | exact R.out | exact R.out.alloc hz _ | exact (R.out.alloc hz _).alloc (by simp; omega) _)); (· first | exact FN.out | exact feeV_next FN.out ((Below.refl _ _).alloc (Nat.le_refl _) _) | exact feeV_next (feeV_next FN.out ((Below.refl _ _).alloc (Nat.le_refl _) _)) ((Below.refl _ _).alloc (Nat.le_refl _) _)); rintro e W3 ⟨⟨A3, c3, rfl, hrow⟩, hb⟩; have ROW3 := Lib.hid (hrow.base_ (Nat.zero_le _)); have HB3 := Lib.hid hb; have sz3 := hb.size; (try simp at sz3); have R := Lib.hid (below_go (U := wv) hb (by (first | exact (Below.refl _ _).drew | exact ((Below.refl _ _).alloc (Nat.le_refl _) _).drew | exact (((Below.refl _ _).alloc (Nat.le_refl _) _).alloc (by simp) _).drew | exact R.out | exact R.out.alloc hz _ | exact (R.out.alloc hz _).alloc (by simp; omega) _))); have hz : wv.heap.size ≤ W3.heap.size := R.out.size; clear hrow hb)
                  refine hK.out _ _ ?_ (fun hHeld => ?_)
                  · (try dsimp only); (first | exact KE.out _ (Below.refl _ _).drew | exact KE.out _ ((Below.refl _ _).alloc (Nat.le_refl _) _).drew | exact KE.out _ (((Below.refl _ _).alloc (Nat.le_refl _) _).alloc (by simp) _).drew | exact KE.out _ R.out | exact KE.out _ (R.out.alloc hz _) | exact KE.out _ ((R.out.alloc hz _).alloc (by simp; omega) _))
                  clear hK K
                  try simp only [Act.put, List.setIfInBounds_toArray, List.set_cons_zero, List.set_cons_succ]
                  refine wpAnyH_ready (rs := [10]) (by kernel_rfl) (by simp) ?_
                  refine AllReadyH.cons (o := (⟨none, _, _, _, _, _⟩ : Oper)) rfl (fun K hK => ?_) ?_
                  · (refine store_fee_step rfl (.tmp 8) (.tmp 39) rfl _ _ _ _ _ _ _ _ _ _ _ rfl rfl ?_ ?_; (· repeat (first | exact heap_alloc_new _ _ | exact heap_alloc_new1 _ _ _ | refine blk_alloc ?_ | refine blk_hid HB3 ?_ | refine blk_hid HB2 ?_ | refine blk_hid HB1 ?_ | refine blk_drew ?_)); intro W5 h5 u5; have R := Lib.hid (below_upd (V := wv) u5 (by (first | exact (Below.refl _ _).drew | exact ((Below.refl _ _).alloc (Nat.le_refl _) _).drew | exact (((Below.refl _ _).alloc (Nat.le_refl _) _).alloc (by simp) _).drew | exact R.out | exact R.out.alloc hz _ | exact (R.out.alloc hz _).alloc (by simp; omega) _)) (Nat.le_refl _) (by first | omega | (simp; omega))); have hz : wv.heap.size ≤ W5.heap.size := R.out.size)
                    refine hK.out _ _ ?_ (fun hHeld => ?_)
                    · (try dsimp only); (first | exact KE.out _ (Below.refl _ _).drew | exact KE.out _ ((Below.refl _ _).alloc (Nat.le_refl _) _).drew | exact KE.out _ (((Below.refl _ _).alloc (Nat.le_refl _) _).alloc (by simp) _).drew | exact KE.out _ R.out | exact KE.out _ (R.out.alloc hz _) | exact KE.out _ ((R.out.alloc hz _).alloc (by simp; omega) _))
                    clear hK K
                    try simp only [Act.put, List.setIfInBounds_toArray, List.set_cons_zero, List.set_cons_succ]
                    refine wpAnyH_ready (rs := [11]) (by kernel_rfl) (by simp) ?_
                    refine AllReadyH.cons (o := (⟨none, _, _, _, _, _⟩ : Oper)) rfl (fun K hK => ?_) ?_
                    · (refine store_fee_step rfl (.tmp 9) (.tmp 44) rfl _ _ _ _ _ _ _ _ _ _ _ rfl rfl (upd_zero u5 ?_ ?_) ?_; (· repeat (first | exact heap_alloc_new _ _ | exact heap_alloc_new1 _ _ _ | refine blk_alloc ?_ | refine blk_hid HB3 ?_ | refine blk_hid HB2 ?_ | refine blk_hid HB1 ?_ | refine blk_drew ?_)); (· first | omega | (simp; omega)); intro W6 h6 u6; have R := Lib.hid (below_upd u6 R.out (Nat.le_refl _) (by first | omega | (simp; omega))); have hz : wv.heap.size ≤ W6.heap.size := R.out.size)
                      refine hK.out _ _ ?_ (fun hHeld => ?_)
                      · (try dsimp only); (first | exact KE.out _ (Below.refl _ _).drew | exact KE.out _ ((Below.refl _ _).alloc (Nat.le_refl _) _).drew | exact KE.out _ (((Below.refl _ _).alloc (Nat.le_refl _) _).alloc (by simp) _).drew | exact KE.out _ R.out | exact KE.out _ (R.out.alloc hz _) | exact KE.out _ ((R.out.alloc hz _).alloc (by simp; omega) _))
                      clear hK K
                      try simp only [Act.put, List.setIfInBounds_toArray, List.set_cons_zero, List.set_cons_succ]
                      refine wpAnyH_done (by kernel_rfl) ?_ _
                      go_wp2_with fail
                      go_meet
                      refine ⟨_, _, A1, c1, A3, c3, rfl, rfl, upd_zero u6 h5 ?_, h6, row_upd (cur := _) u6 (row_upd u5 ?_ (by repeat (first | exact heap_alloc_new _ _ | exact heap_alloc_new1 _ _ _ | refine blk_alloc ?_ | refine blk_hid HB3 ?_ | refine blk_hid HB2 ?_ | refine blk_hid HB1 ?_ | refine blk_drew ?_))) (upd_zero u5 (by repeat (first | exact heap_alloc_new _ _ | exact heap_alloc_new1 _ _ _ | refine blk_alloc ?_ | refine blk_hid HB3 ?_ | refine blk_hid HB2 ?_ | refine blk_hid HB1 ?_ | refine blk_drew ?_)) ?_), row_upd u6 (row_upd u5 ?_ (by repeat (first | exact heap_alloc_new _ _ | exact heap_alloc_new1 _ _ _ | refine blk_alloc ?_ | refine blk_hid HB3 ?_ | refine blk_hid HB2 ?_ | refine blk_hid HB1 ?_ | refine blk_drew ?_))) (upd_zero u5 (by repeat (first | exact heap_alloc_new _ _ | exact heap_alloc_new1 _ _ _ | refine blk_alloc ?_ | refine blk_hid HB3 ?_ | refine blk_hid HB2 ?_ | refine blk_hid HB1 ?_ | refine blk_drew ?_)) ?_), R.out⟩
                      all_goals
                        first
                          | omega
                          | (simp; omega)
                          | (repeat (first | exact ROW3.out | exact ROW1.out | refine row_alloc ?_ | refine row_hid HB3 ?_ | refine row_hid HB2 ?_))
                    exact AllReadyH.nil
                  exact AllReadyH.nil
                exact AllReadyH.nil
              exact AllReadyH.nil
            exact AllReadyH.nil
          refine AllReadyH.cons (o := (⟨some 9, _, _, _, _, _⟩ : Oper)) rfl (fun K hK => ?_) ?_
          · go_simp
            refine hK.out _ _ ?_ (fun hHeld => ?_)
            · (try dsimp only); (first | exact KE.out _ (Below.refl _ _).drew | exact KE.out _ ((Below.refl _ _).alloc (Nat.le_refl _) _).drew | exact KE.out _ (((Below.refl _ _).alloc (Nat.le_refl _) _).alloc (by simp) _).drew | exact KE.out _ R.out | exact KE.out _ (R.out.alloc hz _) | exact KE.out _ ((R.out.alloc hz _).alloc (by simp; omega) _))
            clear hK K
            try simp only [Act.put, List.setIfInBounds_toArray, List.set_cons_zero, List.set_cons_succ]
            refine wpAnyH_ready (rs := [2]) (by kernel_rfl) (by simp) ?_
            refine AllReadyH.cons (o := (⟨some 39, _, _, _, _, _⟩ : Oper)) rfl (fun K hK => ?_) ?_
            · go_simp
              (go_at_call 6; (with_reducible refine (HXCX.out _ Ax cx ?_ (FV1.out _ ?_)).mono ?_); (· refine HBV.out.trans (Below.mono ?_ hv); (first | exact (Below.refl _ _).drew | exact ((Below.refl _ _).alloc (Nat.le_refl _) _).drew | exact (((Below.refl _ _).alloc (Nat.le_refl _) _).alloc (by simp) _).drew | exact R.out | exact R.out.alloc hz _ | exact (R.out.alloc hz _).alloc (by simp; omega) _)); (· (first | exact (Below.refl _ _).drew | exact ((Below.refl _ _).alloc (Nat.le_refl _) _).drew | exact (((Below.refl _ _).alloc (Nat.le_refl _) _).alloc (by simp) _).drew | exact R.out | exact R.out.alloc hz _ | exact (R.out.alloc hz _).alloc (by simp; omega) _)); rintro e W1 ⟨⟨A1, c1, rfl, hrow⟩, hb⟩; have ROW1 := Lib.hid (hrow.base_ (Nat.zero_le _)); have HB1 := Lib.hid hb; have sz1 := hb.size; (try simp at sz1); have R := Lib.hid (below_go (U := wv) hb (by (first | exact (Below.refl _ _).drew | exact ((Below.refl _ _).alloc (Nat.le_refl _) _).drew | exact (((Below.refl _ _).alloc (Nat.le_refl _) _).alloc (by simp) _).drew | exact R.out | exact R.out.alloc hz _ | exact (R.out.alloc hz _).alloc (by simp; omega) _))); have hz : wv.heap.size ≤ W1.heap.size := R.out.size; clear hrow hb)
              refine hK.out _ _ ?_ (fun hHeld => ?_)
              · (try dsimp only); (first | exact KE.out _ (Below.refl _ _).drew | exact KE.out _ ((Below.refl _ _).alloc (Nat.le_refl _) _).drew | exact KE.out _ (((Below.refl _ _).alloc (Nat.le_refl _) _).alloc (by simp) _).drew | exact KE.out _ R.out | exact KE.out _ (R.out.alloc hz _) | exact KE.out _ ((R.out.alloc hz _).alloc (by simp; omega) _))
              clear hK K
              try simp only [Act.put, List.setIfInBounds_toArray, List.set_cons_zero, List.set_cons_succ]
              refine wpAnyH_ready (rs := [6]) (by kernel_rfl) (by simp) ?_
              refine AllReadyH.cons (o := (⟨some 43, _, _, _, _, _⟩ : Oper)) rfl (fun K hK => ?_) ?_
              · go_simp
                (go_at_call 6; (with_reducible refine (HBCL.out _ ?_).mono ?_); (· refine HBV.out.trans (Below.mono ?_ hv); (first | exact (Below.refl _ _).drew | exact ((Below.refl _ _).alloc (Nat.le_refl _) _).drew | exact (((Below.refl _ _).alloc (Nat.le_refl _) _).alloc (by simp) _).drew | exact R.out | exact R.out.alloc hz _ | exact (R.out.alloc hz _).alloc (by simp; omega) _)); rintro e W2 ⟨⟨An, cn, rfl, hrow⟩, hb⟩; have FN := Lib.hid (latR_feeV hrow); have HB2 := Lib.hid hb; have sz2 := hb.size; (try simp at sz2); have R := Lib.hid (below_go (U := wv) hb (by (first | exact (Below.refl _ _).drew | exact ((Below.refl _ _).alloc (Nat.le_refl _) _).drew | exact (((Below.refl _ _).alloc (Nat.le_refl _) _).alloc (by simp) _).drew | exact R.out | exact R.out.alloc hz _ | exact (R.out.alloc hz _).alloc (by simp; omega) _))); have hz : wv.heap.size ≤ W2.heap.size := R.out.size; clear hrow hb)
                refine hK.out _ _ ?_ (fun hHeld => ?_)
                · (try dsimp only); (first | exact KE.out _ (Below.refl _ _).drew | exact KE.out _ ((Below.refl _ _).alloc (Nat.le_refl _) _).drew | exact KE.out _ (((Below.refl _ _).alloc (Nat.le_refl _) _).alloc (by simp) _).drew | exact KE.out _ R.out | exact KE.out _ (R.out.alloc hz _) | exact KE.out _ ((R.out.alloc hz _).alloc (by simp; omega) _))
                clear hK K
                try simp only [Act.put, List.setIfInBounds_toArray, List.set_cons_zero, List.set_cons_succ]
                refine wpAnyH_ready (rs := [7]) (by kernel_rfl) (by simp) ?_
                refine AllReadyH.cons (o := (⟨some 44, _, _, _, _, _⟩ : Oper)) rfl (fun K hK => ?_) ?_
                · go_simp
                  (go_at_call 6; (with_reducible refine (HANX.out _ An cn ?_ ?_).mono ?_); (· refine HBV.out.trans (Below.mono ?_ hv); (first | exact (Below.refl _ _).drew | exact ((Below.refl _ _).alloc (Nat.le_refl _) _).drew | exact (((Below.refl _ _).alloc (Nat.le_refl _) _).alloc (by simp) _).drew | exact R.out | exact R.out.alloc hz _ | exact (R.out.alloc hz _).alloc (by simp; omega) _)); (· first | exact FN.out | exact feeV_next FN.out ((Below.refl _ _).alloc (Nat.le_refl _) _) | exact feeV_next (feeV_next FN.out ((Below.refl _ _).alloc (Nat.le_refl _) _)) ((Below.refl _ _).alloc (Nat.le_refl _) _)); rintro e W3 ⟨⟨A3, c3, rfl, hrow⟩, hb⟩; have ROW3 := Lib.hid (hrow.base_ (Nat.zero_le _)); have HB3 := Lib.hid hb; have sz3 := hb.size; (try simp at sz3); have R := Lib.hid (below_go (U := wv) hb (by (first | exact (Below.refl _ _).drew | exact ((Below.refl _ _).alloc (Nat.le_refl _) _).drew | exact (((Below.refl _ _).alloc (Nat.le_refl _) _).alloc (by simp) _).drew | exact R.out | exact R.out.alloc hz _ | exact (R.out.alloc hz _).alloc (by simp; omega) _))); have hz : wv.heap.size ≤ W3.heap.size := R.out.size; clear hrow hb)
                  refine hK.out _ _ ?_ (fun hHeld => ?_)
                  · (try dsimp only); (first | exact KE.out _ (Below.refl _ _).drew | exact KE.out _ ((Below.refl _ _).alloc (Nat.le_refl _) _).drew | exact KE.out _ (((Below.refl _ _).alloc (Nat.le_refl _) _).alloc (by simp) _).drew | exact KE.out _ R.out | exact KE.out _ (R.out.alloc hz _) | exact KE.out _ ((R.out.alloc hz _).alloc (by simp; omega) _))
                  clear hK K
                  try simp only [Act.put, List.setIfInBounds_toArray, List.set_cons_zero, List.set_cons_succ]
                  refine wpAnyH_ready (rs := [10]) (by kernel_rfl) (by simp) ?_
                  refine AllReadyH.cons (o := (⟨none, _, _, _, _, _⟩ : Oper)) rfl (fun K hK => ?_) ?_
                  · (refine store_fee_step rfl (.tmp 8) (.tmp 39) rfl _ _ _ _ _ _ _ _ _ _ _ rfl rfl ?_ ?_; (· repeat (first | exact heap_alloc_new _ _ | exact heap_alloc_new1 _ _ _ | refine blk_alloc ?_ | refine blk_hid HB3 ?_ | refine blk_hid HB2 ?_ | refine blk_hid HB1 ?_ | refine blk_drew ?_)); intro W5 h5 u5; have R := Lib.hid (below_upd (V := wv) u5 (by (first | exact (Below.refl _ _).drew | exact ((Below.refl _ _).alloc (Nat.le_refl _) _).drew | exact (((Below.refl _ _).alloc (Nat.le_refl _) _).alloc (by simp) _).drew | exact R.out | exact R.out.alloc hz _ | exact (R.out.alloc hz _).alloc (by simp; omega) _)) (Nat.le_refl _) (by first | omega | (simp; omega))); have hz : wv.heap.size ≤ W5.heap.size := R.out.size)
                    refine hK.out _ _ ?_ (fun hHeld => ?_)
                    · (try dsimp only); (first | exact KE.out _ (Below.refl _ _).drew | exact KE.out _ ((Below.refl _ _).alloc (Nat.le_refl _) _).drew | exact KE.out _ (((Below.refl _ _).alloc (Nat.le_refl _) _).alloc (by simp) _).drew | exact KE.out _ R.out | exact KE.out _ (R.out.alloc hz _) | exact KE.out _ ((R.out.alloc hz _).alloc (by simp; omega) _))
                    clear hK K
                    try simp only [Act.put, List.setIfInBounds_toArray, List.set_cons_zero, List.set_cons_succ]
                    refine wpAnyH_ready (rs := [11]) (by kernel_rfl) (by simp) ?_
                    refine AllReadyH.cons (o := (⟨none, _, _, _, _, _⟩ : Oper)) rfl (fun K hK => ?_) ?_
                    · (refine store_fee_step rfl (.tmp 9) (.tmp 44) rfl _ _ _ _ _ _ _ _ _ _ _ rfl rfl (upd_zero u5 ?_ ?_) ?_; (· repeat (first | exact heap_alloc_new _ _ | exact heap_alloc_new1 _ _ _ | refine blk_alloc ?_ | refine blk_hid HB3 ?_ | refine blk_hid HB2 ?_ | refine blk_hid HB1 ?_ | refine blk_drew ?_)); (· first | omega | (simp; omega)); intro W6 h6 u6; have R := Lib.hid (below_upd u6 R.out (Nat.le_refl _) (by first | omega | (simp; omega))); have hz : wv.heap.size ≤ W6.heap.size := R.out.size)
                      refine hK.out _ _ ?_ (fun hHeld => ?_)
                      · (try dsimp only); (first | exact KE.out _ (Below.refl _ _).drew | exact KE.out _ ((Below.refl _ _).alloc (Nat.le_refl _) _).drew | exact KE.out _ (((Below.refl _ _).alloc (Nat.le_refl _) _).alloc (by simp) _).drew | exact KE.out _ R.out | exact KE.out _ (R.out.alloc hz _) | exact KE.out _ ((R.out.alloc hz _).alloc (by simp; omega) _))
                      clear hK K
                      try simp only [Act.put, List.setIfInBounds_toArray, List.set_cons_zero, List.set_cons_succ]
                      refine wpAnyH_done (by kernel_rfl) ?_ _
                      go_wp2_with fail
                      go_meet
                      refine ⟨_, _, A1, c1, A3, c3, rfl, rfl, upd_zero u6 h5 ?_, h6, row_upd (cur := _) u6 (row_upd u5 ?_ (by repeat (first | exact heap_alloc_new _ _ | exact heap_alloc_new1 _ _ _ | refine blk_alloc ?_ | refine blk_hid HB3 ?_ | refine blk_hid HB2 ?_ | refine blk_hid HB1 ?_ | refine blk_drew ?_))) (upd_zero u5 (by repeat (first | exact heap_alloc_new _ _ | exact heap_alloc_new1 _ _ _ | refine blk_alloc ?_ | refine blk_hid HB3 ?_ | refine blk_hid HB2 ?_ | refine blk_hid HB1 ?_ | refine blk_drew ?_)) ?_), row_upd u6 (row_upd u5 ?_ (by repeat (first | exact heap_alloc_new _ _ | exact heap_alloc_new1 _ _ _ | refine blk_alloc ?_ | refine blk_hid HB3 ?_ | refine blk_hid HB2 ?_ | refine blk_hid HB1 ?_ | refine blk_drew ?_))) (upd_zero u5 (by repeat (first | exact heap_alloc_new _ _ | exact heap_alloc_new1 _ _ _ | refine blk_alloc ?_ | refine blk_hid HB3 ?_ | refine blk_hid HB2 ?_ | refine blk_hid HB1 ?_ | refine blk_drew ?_)) ?_), R.out⟩
                      all_goals
                        first
                          | omega
                          | (simp; omega)
                          | (repeat (first | exact ROW3.out | exact ROW1.out | refine row_alloc ?_ | refine row_hid HB3 ?_ | refine row_hid HB2 ?_))
                    exact AllReadyH.nil
                  exact AllReadyH.nil
                exact AllReadyH.nil
              exact AllReadyH.nil
            exact AllReadyH.nil
          exact AllReadyH.nil
        refine AllReadyH.cons (o := (⟨some 9, _, _, _, _, _⟩ : Oper)) rfl (fun K hK => ?_) ?_
        · go_simp
          refine hK.out _ _ ?_ (fun hHeld => ?_)
          · (try dsimp only); (first | exact KE.out _ (Below.refl _ _).drew | exact KE.out _ ((Below.refl _ _).alloc (Nat.le_refl _) _).drew | exact KE.out _ (((Below.refl _ _).alloc (Nat.le_refl _) _).alloc (by simp) _).drew | exact KE.out _ R.out | exact KE.out _ (R.out.alloc hz _) | exact KE.out _ ((R.out.alloc hz _).alloc (by simp; omega) _))
          clear hK K
          try simp only [Act.put, List.setIfInBounds_toArray, List.set_cons_zero, List.set_cons_succ]
          refine wpAnyH_ready (rs := [2, 8]) (by kernel_rfl) (by simp) ?_
          refine AllReadyH.cons (o := (⟨some 39, _, _, _, _, _⟩ : Oper)) rfl (fun K hK => ?_) ?_
          · go_simp
            (go_at_call 6; (with_reducible refine (HXCX.out _ Ax cx ?_ (FV1.out _ ?_)).mono ?_); (· refine HBV.out.trans (Below.mono ?_ hv); (first | exact (Below.refl _ _).drew | exact ((Below.refl _ _).alloc (Nat.le_refl _) _).drew | exact (((Below.refl _ _).alloc (Nat.le_refl _) _).alloc (by simp) _).drew | exact R.out | exact R.out.alloc hz _ | exact (R.out.alloc hz _).alloc (by simp; omega) _)); (· (first | exact (Below.refl _ _).drew | exact ((Below.refl _ _).alloc (Nat.le_refl _) _).drew | exact (((Below.refl _ _).alloc (Nat.le_refl _) _).alloc (by simp) _).drew | exact R.out | exact R.out.alloc hz _ | exact (R.out.alloc hz _).alloc (by simp; omega) _)); rintro e W1 ⟨⟨A1, c1, rfl, hrow⟩, hb⟩; have ROW1 := Lib.hid (hrow.base_ (Nat.zero_le _)); have HB1 := Lib.hid hb; have sz1 := hb.size; (try simp at sz1); have R := Lib.hid (below_go (U := wv) hb (by (first | exact (Below.refl _ _).drew | exact ((Below.refl _ _).alloc (Nat.le_refl _) _).drew | exact (((Below.refl _ _).alloc (Nat.le_refl _) _).alloc (by simp) _).drew | exact R.out | exact R.out.alloc hz _ | exact (R.out.alloc hz _).alloc (by simp; omega) _))); have hz : wv.heap.size ≤ W1.heap.size := R.out.size; clear hrow hb)
            refine hK.out _ _ ?_ (fun hHeld => ?_)
            · (try dsimp only); (first | exact KE.out _ (Below.refl _ _).drew | exact KE.out _ ((Below.refl _ _).alloc (Nat.le_refl _) _).drew | exact KE.out _ (((Below.refl _ _).alloc (Nat.le_refl _) _).alloc (by simp) _).drew | exact KE.out _ R.out | exact KE.out _ (R.out.alloc hz _) | exact KE.out _ ((R.out.alloc hz _).alloc (by simp; omega) _))
            clear hK K
            try simp only [Act.put, List.setIfInBounds_toArray, List.set_cons_zero, List.set_cons_succ]
            refine wpAnyH_ready (rs := [6, 8]) (by kernel_rfl) (by simp) ?_
            refine AllReadyH.cons (o := (⟨some 43, _, _, _, _, _⟩ : Oper)) rfl (fun K hK => ?_) ?_
            · go_simp
              (go_at_call 6; (with_reducible refine (HBCL.out _ ?_).mono ?_); (· refine HBV.out.trans (Below.mono ?_ hv); (first | exact (Below.refl _ _).drew | exact ((Below.refl _ _).alloc (Nat.le_refl _) _).drew | exact (((Below.refl _ _).alloc (Nat.le_refl _) _).alloc (by simp) _).drew | exact R.out | exact R.out.alloc hz _ | exact (R.out.alloc hz _).alloc (by simp; omega) _)); rintro e W2 ⟨⟨An, cn, rfl, hrow⟩, hb⟩; have FN := Lib.hid (latR_feeV hrow); have HB2 := Lib.hid hb; have sz2 := hb.size; (try simp at sz2); have R := Lib.hid (below_go (U := wv) hb (by (first | exact (Below.refl _ _).drew | exact ((Below.refl _ _).alloc (Nat.le_refl _) _).drew | exact (((Below.refl _ _).alloc (Nat.le_refl _) _).alloc (by simp) _).drew | exact R.out | exact R.out.alloc hz _ | exact (R.out.alloc hz _).alloc (by simp; omega) _))); have hz : wv.heap.size ≤ W2.heap.size := R.out.size; clear hrow hb)
              refine hK.out _ _ ?_ (fun hHeld => ?_)
              · (try dsimp only); (first | exact KE.out _ (Below.refl _ _).drew | exact KE.out _ ((Below.refl _ _).alloc (Nat.le_refl _) _).drew | exact KE.out _ (((Below.refl _ _).alloc (Nat.le_refl _) _).alloc (by simp) _).drew | exact KE.out _ R.out | exact KE.out _ (R.out.alloc hz _) | exact KE.out _ ((R.out.alloc hz _).alloc (by simp; omega) _))
              clear hK K
              try simp only [Act.put, List.setIfInBounds_toArray, List.set_cons_zero, List.set_cons_succ]
              refine wpAnyH_ready (rs := [7, 8]) (by kernel_rfl) (by simp) ?_
              refine AllReadyH.cons (o := (⟨some 44, _, _, _, _, _⟩ : Oper)) rfl (fun K hK => ?_) ?_
              · go_simp
                (go_at_call 6; (with_reducible refine (HANX.out _ An cn ?_ ?_).mono ?_); (· refine HBV.out.trans (Below.mono ?_ hv); (first | exact (Below.refl _ _).drew | exact ((Below.refl _ _).alloc (Nat.le_refl _) _).drew | exact (((Below.refl _ _).alloc (Nat.le_refl _) _).alloc (by simp) _).drew | exact R.out | exact R.out.alloc hz _ | exact (R.out.alloc hz _).alloc (by simp; omega) _)); (· first | exact FN.out | exact feeV_next FN.out ((Below.refl _ _).alloc (Nat.le_refl _) _) | exact feeV_next (feeV_next FN.out ((Below.refl _ _).alloc (Nat.le_refl _) _)) ((Below.refl _ _).alloc (Nat.le_refl _) _)); rintro e W3 ⟨⟨A3, c3, rfl, hrow⟩, hb⟩; have ROW3 := Lib.hid (hrow.base_ (Nat.zero_le _)); have HB3 := Lib.hid hb; have sz3 := hb.size; (try simp at sz3); have R := Lib.hid (below_go (U := wv) hb (by (first | exact (Below.refl _ _).drew | exact ((Below.refl _ _).alloc (Nat.le_refl _) _).drew | exact (((Below.refl _ _).alloc (Nat.le_refl _) _).alloc (by simp) _).drew | exact R.out | exact R.out.alloc hz _ | exact (R.out.alloc hz _).alloc (by simp; omega) _))); have hz : wv.heap.size ≤ W3.heap.size := R.out.size; clear hrow hb)
                refine hK.out _ _ ?_ (fun hHeld => ?_)
                · (try dsimp only); (first | exact KE.out _ (Below.refl _ _).drew | exact KE.out _ ((Below.refl _ _).alloc (Nat.le_refl _) _).drew | exact KE.out _ (((Below.refl _ _).alloc (Nat.le_refl _) _).alloc (by simp) _).drew | exact KE.out _ R.out | exact KE.out _ (R.out.alloc hz _) | exact KE.out _ ((R.out.alloc hz _).alloc (by simp; omega) _))
                clear hK K
                try simp only [Act.put, List.setIfInBounds_toArray, List.set_cons_zero, List.set_cons_succ]
                refine wpAnyH_ready (rs := [8]) (by kernel_rfl) (by simp) ?_
                refine AllReadyH.cons (o := (⟨some 8, _, _, _, _, _⟩ : Oper)) rfl (fun K hK => ?_) ?_
                · go_simp
                  refine hK.out _ _ ?_ (fun hHeld => ?_)
                  · (try dsimp only); (first | exact KE.out _ (Below.refl _ _).drew | exact KE.out _ ((Below.refl _ _).alloc (Nat.le_refl _) _).drew | exact KE.out _ (((Below.refl _ _).alloc (Nat.le_refl _) _).alloc (by simp) _).drew | exact KE.out _ R.out | exact KE.out _ (R.out.alloc hz _) | exact KE.out _ ((R.out.alloc hz _).alloc (by simp; omega) _))
                  clear hK K
                  try simp only [Act.put, List.setIfInBounds_toArray, List.set_cons_zero, List.set_cons_succ]
                  refine wpAnyH_ready (rs := [10]) (by kernel_rfl) (by simp) ?_
                  refine AllReadyH.cons (o := (⟨none, _, _, _, _, _⟩ : Oper)) rfl (fun K hK => ?_) ?_
                  · (refine store_fee_step rfl (.tmp 8) (.tmp 39) rfl _ _ _ _ _ _ _ _ _ _ _ rfl rfl ?_ ?_; (· repeat (first | exact heap_alloc_new _ _ | exact heap_alloc_new1 _ _ _ | refine blk_alloc ?_ | refine blk_hid HB3 ?_ | refine blk_hid HB2 ?_ | refine blk_hid HB1 ?_ | refine blk_drew ?_)); intro W5 h5 u5; have R := Lib.hid (below_upd (V := wv) u5 (by (first | exact (Below.refl _ _).drew | exact ((Below.refl _ _).alloc (Nat.le_refl _) _).drew | exact (((Below.refl _ _).alloc (Nat.le_refl _) _).alloc (by simp) _).drew | exact R.out | exact R.out.alloc hz _ | exact (R.out.alloc hz _).alloc (by simp; omega) _)) (Nat.le_refl _) (by first | omega | (simp; omega))); have hz : wv.heap.size ≤ W5.heap.size := R.out.size)
                    refine hK.out _ _ ?_ (fun hHeld => ?_)
                    · (try dsimp only); (first | exact KE.out _ (Below.refl _ _).drew | exact KE.out _ ((Below.refl _ _).alloc (Nat.le_refl _) _).drew | exact KE.out _ (((Below.refl _ _).alloc (Nat.le_refl _) _).alloc (by simp) _).drew | exact KE.out _ R.out | exact KE.out _ (R.out.alloc hz _) | exact KE.out _ ((R.out.alloc hz _).alloc (by simp; omega) _))
                    clear hK K
                    try simp only [Act.put, List.setIfInBounds_toArray, List.set_cons_zero, List.set_cons_succ]
                    refine wpAnyH_ready (rs := [11]) (by kernel_rfl) (by simp) ?_
                    refine AllReadyH.cons (o := (⟨none, _, _, _, _, _⟩ : Oper)) rfl (fun K hK => ?_) ?_
                    · (refine store_fee_step rfl (.tmp 9) (.tmp 44) rfl _ _ _ _ _ _ _ _ _ _ _ rfl rfl (upd_zero u5 ?_ ?_) ?_; (· repeat (first | exact heap_alloc_new _ _ | exact heap_alloc_new1 _ _ _ | refine blk_alloc ?_ | refine blk_hid HB3 ?_ | refine blk_hid HB2 ?_ | refine blk_hid HB1 ?_ | refine blk_drew ?_)); (· first | omega | (simp; omega)); intro W6 h6 u6; have R := Lib.hid (below_upd u6 R.out (Nat.le_refl _) (by first | omega | (simp; omega))); have hz : wv.heap.size ≤ W6.heap.size := R.out.size)
                      refine hK.out _ _ ?_ (fun hHeld => ?_)
                      · (try dsimp only); (first | exact KE.out _ (Below.refl _ _).drew | exact KE.out _ ((Below.refl _ _).alloc (Nat.le_refl _) _).drew | exact KE.out _ (((Below.refl _ _).alloc (Nat.le_refl _) _).alloc (by simp) _).drew | exact KE.out _ R.out | exact KE.out _ (R.out.alloc hz _) | exact KE.out _ ((R.out.alloc hz _).alloc (by simp; omega) _))
                      clear hK K
                      try simp only [Act.put, List.setIfInBounds_toArray, List.set_cons_zero, List.set_cons_succ]
                      refine wpAnyH_done (by kernel_rfl) ?_ _
                      go_wp2_with fail
                      go_meet
                      refine ⟨_, _, A1, c1, A3, c3, rfl, rfl, upd_zero u6 h5 ?_, h6, row_upd (cur := _) u6 (row_upd u5 ?_ (by repeat (first | exact heap_alloc_new _ _ | exact heap_alloc_new1 _ _ _ | refine blk_alloc ?_ | refine blk_hid HB3 ?_ | refine blk_hid HB2 ?_ | refine blk_hid HB1 ?_ | refine blk_drew ?_))) (upd_zero u5 (by repeat (first | exact heap_alloc_new _ _ | exact heap_alloc_new1 _ _ _ | refine blk_alloc ?_ | refine blk_hid HB3 ?_ | refine blk_hid HB2 ?_ | refine blk_hid HB1 ?_ | refine blk_drew ?_)) ?_), row_upd u6 (row_upd u5 ?_ (by repeat (first | exact heap_alloc_new _ _ | exact heap_alloc_new1 _ _ _ | refine blk_alloc ?_ | refine blk_hid HB3 ?_ | refine blk_hid HB2 ?_ | refine blk_hid HB1 ?_ | refine blk_drew ?_))) (upd_zero u5 (by repeat (first | exact heap_alloc_new _ _ | exact heap_alloc_new1 _ _ _ | refine blk_alloc ?_ | refine blk_hid HB3 ?_ | refine blk_hid HB2 ?_ | refine blk_hid HB1 ?_ | refine blk_drew ?_)) ?_), R.out⟩
                      all_goals
                        first
                          | omega
                          | (simp; omega)
                          | (repeat (first | exact ROW3.out | exact ROW1.out | refine row_alloc ?_ | refine row_hid HB3 ?_ | refine row_hid HB2 ?_))
                    exact AllReadyH.nil
                  exact AllReadyH.nil
                exact AllReadyH.nil
              refine AllReadyH.cons (o := (⟨some 8, _, _, _, _, _⟩ : Oper)) rfl (fun K hK => ?_) ?_
              · go_simp
                refine hK.out _ _ ?_ (fun hHeld => ?_)
                · (try dsimp only); (first | exact KE.out _ (Below.refl _ _).drew | exact KE.out _ ((Below.refl _ _).alloc (Nat.le_refl _) _).drew | exact KE.out _ (((Below.refl _ _).alloc (Nat.le_refl _) _).alloc (by simp) _).drew | exact KE.out _ R.out | exact KE.out _ (R.out.alloc hz _) | exact KE.out _ ((R.out.alloc hz _).alloc (by simp; omega) _))
                clear hK K
                try simp only [Act.put, List.setIfInBounds_toArray, List.set_cons_zero, List.set_cons_succ]
                refine wpAnyH_ready (rs := [7]) (by kernel_rfl) (by simp) ?_
                refine AllReadyH.cons (o := (⟨some 44, _, _, _, _, _⟩ : Oper)) rfl (fun K hK => ?_) ?_
                · go_simp
                  (go_at_call 6; (with_reducible refine (HANX.out _ An cn ?_ ?_).mono ?_); (· refine HBV.out.trans (Below.mono ?_ hv); (first | exact (Below.refl _ _).drew | exact ((Below.refl _ _).alloc (Nat.le_refl _) _).drew | exact (((Below.refl _ _).alloc (Nat.le_refl _) _).alloc (by simp) _).drew | exact R.out | exact R.out.alloc hz _ | exact (R.out.alloc hz _).alloc (by simp; omega) _)); (· first | exact FN.out | exact feeV_next FN.out ((Below.refl _ _).alloc (Nat.le_refl _) _) | exact feeV_next (feeV_next FN.out ((Below.refl _ _).alloc (Nat.le_refl _) _)) ((Below.refl _ _).alloc (Nat.le_refl _) _)); rintro e W3 ⟨⟨A3, c3, rfl, hrow⟩, hb⟩; have ROW3 := Lib.hid (hrow.base_ (Nat.zero_le _)); have HB3 := Lib.hid hb; have sz3 := hb.size; (try simp at sz3); have R := Lib.hid (below_go (U := wv) hb (by (first | exact (Below.refl _ _).drew | exact ((Below.refl _ _).alloc (Nat.le_refl _) _).drew | exact (((Below.refl _ _).alloc (Nat.le_refl _) _).alloc (by simp) _).drew | exact R.out | exact R.out.alloc hz _ | exact (R.out.alloc hz _).alloc (by simp; omega) _))); have hz : wv.heap.size ≤ W3.heap.size := R.out.size; clear hrow hb)
                  refine hK.out _ _ ?_ (fun hHeld => ?_)
                  · (try dsimp only); (first | exact KE.out _ (Below.refl _ _).drew | exact KE.out _ ((Below.refl _ _).alloc (Nat.le_refl _) _).drew | exact KE.out _ (((Below.refl _ _).alloc (Nat.le_refl _) _).alloc (by simp) _).drew | exact KE.out _ R.out | exact KE.out _ (R.out.alloc hz _) | exact KE.out _ ((R.out.alloc hz _).alloc (by simp; omega) _))
                  clear hK K
                  try simp only [Act.put, List.setIfInBounds_toArray, List.set_cons_zero, List.set_cons_succ]
                  refine wpAnyH_ready (rs := [10]) (by kernel_rfl) (by simp) ?_
                  refine AllReadyH.cons (o := (⟨none, _, _, _, _, _⟩ : Oper)) rfl (fun K hK => ?_) ?_
                  · (refine store_fee_step rfl (.tmp 8) (.tmp 39) rfl _ _ _ _ _ _ _ _ _ _ _ rfl rfl ?_ ?_; (· repeat (first | exact heap_alloc_new _ _ | exact heap_alloc_new1 _ _ _ | refine blk_alloc ?_ | refine blk_hid HB3 ?_ | refine blk_hid HB2 ?_ | refine blk_hid HB1 ?_ | refine blk_drew ?_)); intro W5 h5 u5; have R := Lib.hid (below_upd (V := wv) u5 (by (first | exact (Below.refl _ _).drew | exact ((Below.refl _ _).alloc (Nat.le_refl _) _).drew | exact (((Below.refl _ _).alloc (Nat.le_refl _) _).alloc (by simp) _).drew | exact R.out | exact R.out.alloc hz _ | exact (R.out.alloc hz _).alloc (by simp; omega) _)) (Nat.le_refl _) (by first | omega | (simp; omega))); have hz : wv.heap.size ≤ W5.heap.size := R.out.size)
                    refine hK.out _ _ ?_ (fun hHeld => ?_)
                    · (try dsimp only); (first | exact KE.out _ (Below.refl _ _).drew | exact KE.out _ ((Below.refl _ _).alloc (Nat.le_refl _) _).drew | exact KE.out _ (((Below.refl _ _).alloc (Nat.le_refl _) _).alloc (by simp) _).drew | exact KE.out _ R.out | exact KE.out _ (R.out.alloc hz _) | exact KE.out _ ((R.out.alloc hz _).alloc (by simp; omega) _))
                    clear hK K
                    try simp only [Act.put, List.setIfInBounds_toArray, List.set_cons_zero, List.set_cons_succ]
                    refine wpAnyH_ready (rs := [11]) (by kernel_rfl) (by simp) ?_
                    refine AllReadyH.cons (o := (⟨none, _, _, _, _, _⟩ : Oper)) rfl (fun K hK => ?_) ?_
                    · (refine store_fee_step rfl (.tmp 9) (.tmp 44) rfl _ _ _ _ _ _ _ _ _ _ _ rfl rfl (upd_zero u5 ?_ ?_) ?_; (· repeat (first | exact heap_alloc_new _ _ | exact heap_alloc_new1 _ _ _ | refine blk_alloc ?_ | refine blk_hid HB3 ?_ | refine blk_hid HB2 ?_ | refine blk_hid HB1 ?_ | refine blk_drew ?_)); (· first | omega | (simp; omega)); intro W6 h6 u6; have R := Lib.hid (below_upd u6 R.out (Nat.le_refl _) (by first | omega | (simp; omega))); have hz : wv.heap.size ≤ W6.heap.size := R.out.size)
                      refine hK.out _ _ ?_ (fun hHeld => ?_)
                      · (try dsimp only); (first | exact KE.out _ (Below.refl _ _).drew | exact KE.out _ ((Below.refl _ _).alloc (Nat.le_refl _) _).drew | exact KE.out _ (((Below.refl _ _).alloc (Nat.le_refl _) _).alloc (by simp) _).drew | exact KE.out _ R.out | exact KE.out _ (R.out.alloc hz _) | exact KE.out _ ((R.out.alloc hz _).alloc (by simp; omega) _))
                      clear hK K
                      try simp only [Act.put, List.setIfInBounds_toArray, List.set_cons_zero, List.set_cons_succ]
                      refine wpAnyH_done (by kernel_rfl) ?_ _
                      go_wp2_with fail
                      go_meet
                      refine ⟨_, _, A1, c1, A3, c3, rfl, rfl, upd_zero u6 h5 ?_, h6, row_upd (cur := _) u6 (row_upd u5 ?_ (by repeat (first | exact heap_alloc_new _ _ | exact heap_alloc_new1 _ _ _ | refine blk_alloc ?_ | refine blk_hid HB3 ?_ | refine blk_hid HB2 ?_ | refine blk_hid HB1 ?_ | refine blk_drew ?_))) (upd_zero u5 (by repeat (first | exact heap_alloc_new _ _ | exact heap_alloc_new1 _ _ _ | refine blk_alloc ?_ | refine blk_hid HB3 ?_ | refine blk_hid HB2 ?_ | refine blk_hid HB1 ?_ | refine blk_drew ?_)) ?_), row_upd u6 (row_upd u5 ?_ (by repeat (first | exact heap_alloc_new _ _ | exact heap_alloc_new1 _ _ _ | refine blk_alloc ?_ | refine blk_hid HB3 ?_ | refine blk_hid HB2 ?_ | refine blk_hid HB1 ?_ | refine blk_drew ?_))) (upd_zero u5 (by repeat (first | exact heap_alloc_new _ _ | exact heap_alloc_new1 _ _ _ | refine blk_alloc ?_ | refine blk_hid HB3 ?_ | refine blk_hid HB2 ?_ | refine blk_hid HB1 ?_ | refine blk_drew ?_)) ?_), R.out⟩
                      all_goals
                        first
                          | omega
                          | (simp; omega)
                          | (repeat (first | exact ROW3.out | exact ROW1.out | refine row_alloc ?_ | refine row_hid HB3 ?_ | refine row_hid HB2 ?_))
                    exact AllReadyH.nil
                  exact AllReadyH.nil
                exact AllReadyH.nil
              exact AllReadyH.nil
            refine AllReadyH.cons (o := (⟨some 8, _, _, _, _, _⟩ : Oper)) rfl (fun K hK => ?_) ?_
            · go_simp
              refine hK.out _ _ ?_ (fun hHeld => ?_)
              · (try dsimp only); (first | exact KE.out _ (Below.refl _ _).drew | exact KE.out _ ((Below.refl _ _).alloc (Nat.le_refl _) _).drew | exact KE.out _ (((Below.refl _ _).alloc (Nat.le_refl _) _).alloc (by simp) _).drew | exact KE.out _ R.out | exact KE.out _ (R.out.alloc hz _) | exact KE.out _ ((R.out.alloc hz _).alloc (by simp; omega) _))
              clear hK K
              try simp only [Act.put, List.setIfInBounds_toArray, List.set_cons_zero, List.set_cons_succ]
              refine wpAnyH_ready (rs := [6]) (by kernel_rfl) (by simp) ?_
              refine AllReadyH.cons (o := (⟨some 43, _, _, _, _, _⟩ : Oper)) rfl (fun K hK => ?_) ?_
              · go_simp
                (go_at_call 6; (with_reducible refine (HBCL.out _ ?_).mono ?_); (· refine HBV.out.trans (Below.mono ?_ hv); (first | exact (Below.refl _ _).drew | exact ((Below.refl _ _).alloc (Nat.le_refl _) _).drew | exact (((Below.refl _ _).alloc (Nat.le_refl _) _).alloc (by simp) _).drew | exact R.out | exact R.out.alloc hz _ | exact (R.out.alloc hz _).alloc (by simp; omega) _)); rintro e W2 ⟨⟨An, cn, rfl, hrow⟩, hb⟩; have FN := Lib.hid (latR_feeV hrow); have HB2 := Lib.hid hb; have sz2 := hb.size; (try simp at sz2); have R := Lib.hid (below_go (U := wv) hb (by (first | exact (Below.refl _ _).drew | exact ((Below.refl _ _).alloc (Nat.le_refl _) _).drew | exact (((Below.refl _ _).alloc (Nat.le_refl _) _).alloc (by simp) _).drew | exact R.out | exact R.out.alloc hz _ | exact (R.out.alloc hz _).alloc (by simp; omega) _))); have hz : wv.heap.size ≤ W2.heap.size := R.out.size; clear hrow hb)
                refine hK.out _ _ ?_ (fun hHeld => ?_)
                · (try dsimp only); (first | exact KE.out _ (Below.refl _ _).drew | exact KE.out _ ((Below.refl _ _).alloc (Nat.le_refl _) _).drew | exact KE.out _ (((Below.refl _ _).alloc (Nat.le_refl _) _).alloc (by simp) _).drew | exact KE.out _ R.out | exact KE.out _ (R.out.alloc hz _) | exact KE.out _ ((R.out.alloc hz _).alloc (by simp; omega) _))
                clear hK K
                try simp only [Act.put, List.setIfInBounds_toArray, List.set_cons_zero, List.set_cons_succ]
                refine wpAnyH_ready (rs := [7]) (by kernel_rfl) (by simp) ?_
                refine AllReadyH.cons (o := (⟨some 44, _, _, _, _, _⟩ : Oper)) rfl (fun K hK => ?_) ?_
                · go_simp
                  (go_at_call 6; (with_reducible refine (HANX.out _ An cn ?_ ?_).mono ?_); (· refine HBV.out.trans (Below.mono ?_ hv); (first | exact (Below.refl _ _).drew | exact ((Below.refl _ _).alloc (Nat.le_refl _) _).drew | exact (((Below.refl _ _).alloc (Nat.le_refl _) _).alloc (by simp) _).drew | exact R.out | exact R.out.alloc hz _ | exact (R.out.alloc hz _).alloc (by simp; omega) _)); (· first | exact FN.out | exact feeV_next FN.out ((Below.refl _ _).alloc (Nat.le_refl _) _) | exact feeV_next (feeV_next FN.out ((Below.refl _ _).alloc (Nat.le_refl _) _)) ((Below.refl _ _).alloc (Nat.le_refl _) _)); rintro e W3 ⟨⟨A3, c3, rfl, hrow⟩, hb⟩; have ROW3 := Lib.hid (hrow.base_ (Nat.zero_le _)); have HB3 := Lib.hid hb; have sz3 := hb.size; (try simp at sz3); have R := Lib.hid (below_go (U := wv) hb (by (first | exact (Below.refl _ _).drew | exact ((Below.refl _ _).alloc (Nat.le_refl _) _).drew | exact (((Below.refl _ _).alloc (Nat.le_refl _) _).alloc (by simp) _).drew | exact R.out | exact R.out.alloc hz _ | exact (R.out.alloc hz _).alloc (by simp; omega) _))); have hz : wv.heap.size ≤ W3.heap.size := R.out.size; clear hrow hb)
                  refine hK.out _ _ ?_ (fun hHeld => ?_)
                  · (try dsimp only); (first | exact KE.out _ (Below.refl _ _).drew | exact KE.out _ ((Below.refl _ _).alloc (Nat.le_refl _) _).drew | exact KE.out _ (((Below.refl _ _).alloc (Nat.le_refl _) _).alloc (by simp) _).drew | exact KE.out _ R.out | exact KE.out _ (R.out.alloc hz _) | exact KE.out _ ((R.out.alloc hz _).alloc (by simp; omega) _))
                  clear hK K
                  try simp only [Act.put, List.setIfInBounds_toArray, List.set_cons_zero, List.set_cons_succ]
                  refine wpAnyH_ready (rs := [10]) (by kernel_rfl) (by simp) ?_
                  refine AllReadyH.cons (o := (⟨none, _, _, _, _, _⟩ : Oper)) rfl (fun K hK => ?_) ?_
                  · (refine store_fee_step rfl (.tmp 8) (.tmp 39) rfl _ _ _ _ _ _ _ _ _ _ _ rfl rfl ?_ ?_; (· repeat (first | exact heap_alloc_new _ _ | exact heap_alloc_new1 _ _ _ | refine blk_alloc ?_ | refine blk_hid HB3 ?_ | refine blk_hid HB2 ?_ | refine blk_hid HB1 ?_ | refine blk_drew ?_)); intro W5 h5 u5; have R := Lib.hid (below_upd (V := wv) u5 (by (first | exact (Below.refl _ _).drew | exact ((Below.refl _ _).alloc (Nat.le_refl _) _).drew | exact (((Below.refl _ _).alloc (Nat.le_refl _) _).alloc (by simp) _).drew | exact R.out | exact R.out.alloc hz _ | exact (R.out.alloc hz _).alloc (by simp; omega) _)) (Nat.le_refl _) (by first | omega | (simp; omega))); have hz : wv.heap.size ≤ W5.heap.size := R.out.size)
                    refine hK.out _ _ ?_ (fun hHeld => ?_)
                    · (try dsimp only); (first | exact KE.out _ (Below.refl _ _).drew | exact KE.out _ ((Below.refl _ _).alloc (Nat.le_refl _) _).drew | exact KE.out _ (((Below.refl _ _).alloc (Nat.le_refl _) _).alloc (by simp) _).drew | exact KE.out _ R.out | exact KE.out _ (R.out.alloc hz _) | exact KE.out _ ((R.out.alloc hz _).alloc (by simp; omega) _))
                    clear hK K
                    try simp only [Act.put, List.setIfInBounds_toArray, List.set_cons_zero, List.set_cons_succ]
                    refine wpAnyH_ready (rs := [11]) (by kernel_rfl) (by simp) ?_
                    refine AllReadyH.cons (o := (⟨none, _, _, _, _, _⟩ : Oper)) rfl (fun K hK => ?_) ?_
                    · (refine store_fee_step rfl (.tmp 9) (.tmp 44) rfl _ _ _ _ _ _ _ _ _ _ _ rfl rfl (upd_zero u5 ?_ ?_) ?_; (· repeat (first | exact heap_alloc_new _ _ | exact heap_alloc_new1 _ _ _ | refine blk_alloc ?_ | refine blk_hid HB3 ?_ | refine blk_hid HB2 ?_ | refine blk_hid HB1 ?_ | refine blk_drew ?_)); (· first | omega | (simp; omega)); intro W6 h6 u6; have R := Lib.hid (below_upd u6 R.out (Nat.le_refl _) (by first | omega | (simp; omega))); have hz : wv.heap.size ≤ W6.heap.size := R.out.size)
                      refine hK.out _ _ ?_ (fun hHeld => ?_)
                      · (try dsimp only); (first | exact KE.out _ (Below.refl _ _).drew | exact KE.out _ ((Below.refl _ _).alloc (Nat.le_refl _) _).drew | exact KE.out _ (((Below.refl _ _).alloc (Nat.le_refl _) _).alloc (by simp) _).drew | exact KE.out _ R.out | exact KE.out _ (R.out.alloc hz _) | exact KE.out _ ((R.out.alloc hz _).alloc (by simp; omega) _))
                      clear hK K
                      try simp only [Act.put, List.setIfInBounds_toArray, List.set_cons_zero, List.set_cons_succ]
                      refine wpAnyH_done (by kernel_rfl) ?_ _
                      go_wp2_with fail
                      go_meet
                      refine ⟨_, _, A1, c1, A3, c3, rfl, rfl, upd_zero u6 h5 ?_, h6, row_upd (cur := _) u6 (row_upd u5 ?_ (by repeat (first | exact heap_alloc_new _ _ | exact heap_alloc_new1 _ _ _ | refine blk_alloc ?_ | refine blk_hid HB3 ?_ | refine blk_hid HB2 ?_ | refine blk_hid HB1 ?_ | refine blk_drew ?_))) (upd_zero u5 (by repeat (first | exact heap_alloc_new _ _ | exact heap_alloc_new1 _ _ _ | refine blk_alloc ?_ | refine blk_hid HB3 ?_ | refine blk_hid HB2 ?_ | refine blk_hid HB1 ?_ | refine blk_drew ?_)) ?_), row_upd u6 (row_upd u5 ?_ (by repeat (first | exact heap_alloc_new _ _ | exact heap_alloc_new1 _ _ _ | refine blk_alloc ?_ | refine blk_hid HB3 ?_ | refine blk_hid HB2 ?_ | refine blk_hid HB1 ?_ | refine blk_drew ?_))) (upd_zero u5 (by repeat (first | exact heap_alloc_new _ _ | exact heap_alloc_new1 _ _ _ | refine blk_alloc ?_ | refine blk_hid HB3 ?_ | refine blk_hid HB2 ?_ | refine blk_hid HB1 ?_ | refine blk_drew ?_)) ?_), R.out⟩
                      all_goals
                        first
                          | omega
                          | (simp; omega)
                          | (repeat (first | exact ROW3.out | exact ROW1.out | refine row_alloc ?_ | refine row_hid HB3 ?_ | refine row_hid HB2 ?_))
                    exact AllReadyH.nil
                  exact AllReadyH.nil
                exact AllReadyH.nil
              exact AllReadyH.nil
            exact AllReadyH.nil
          refine AllReadyH.cons (o := (⟨some 8, _, _, _, _, _⟩ : Oper)) rfl (fun K hK => ?_) ?_
          · go_simp
            refine hK.out _ _ ?_ (fun hHeld => ?_)
            · (try dsimp only); (first | exact KE.out _ (Below.refl _ _).drew | exact KE.out _ ((Below.refl _ _).alloc (Nat.le_refl _) _).drew | exact KE.out _ (((Below.refl _ _).alloc (Nat.le_refl _) _).alloc (by simp) _).drew | exact KE.out _ R.out | exact KE.out _ (R.out.alloc hz _) | exact KE.out _ ((R.out.alloc hz _).alloc (by simp; omega) _))
            clear hK K
            try simp only [Act.put, List.setIfInBounds_toArray, List.set_cons_zero, List.set_cons_succ]
            refine wpAnyH_ready (rs := [2]) (by kernel_rfl) (by simp) ?_
            refine AllReadyH.cons (o := (⟨some 39, _, _, _, _, _⟩ : Oper)) rfl (fun K hK => ?_) ?_
            · go_simp
              (go_at_call 6; (with_reducible refine (HXCX.out _ Ax cx ?_ (FV1.out _ ?_)).mono ?_); (· refine HBV.out.trans (Below.mono ?_ hv); (first | exact (Below.refl _ _).drew | exact ((Below.refl _ _).alloc (Nat.le_refl _) _).drew | exact (((Below.refl _ _).alloc (Nat.le_refl _) _).alloc (by simp) _).drew | exact R.out | exact R.out.alloc hz _ | exact (R.out.alloc hz _).alloc (by simp; omega) _)); (· (first | exact (Below.refl _ _).drew | exact ((Below.refl _ _).alloc (Nat.le_refl _) _).drew | exact (((Below.refl _ _).alloc (Nat.le_refl _) _).alloc (by simp) _).drew | exact R.out | exact R.out.alloc hz _ | exact (R.out.alloc hz _).alloc (by simp; omega) _)); rintro e W1 ⟨⟨A1, c1, rfl, hrow⟩, hb⟩; have ROW1 := Lib.hid (hrow.base_ (Nat.zero_le _)); have HB1 := Lib.hid hb; have sz1 := hb.size; (try simp at sz1); have R := Lib.hid (below_go (U := wv) hb (by (first | exact (Below.refl _ _).drew | exact ((Below.refl _ _).alloc (Nat.le_refl _) _).drew | exact (((Below.refl _ _).alloc (Nat.le_refl _) _).alloc (by simp) _).drew | exact R.out | exact R.out.alloc hz _ | exact (R.out.alloc hz _).alloc (by simp; omega) _))); have hz : wv.heap.size ≤ W1.heap.size := R.out.size; clear hrow hb)
              refine hK.out _ _ ?_ (fun hHeld => ?_)
              · (try dsimp only); (first | exact KE.out _ (Below.refl _ _).drew | exact KE.out _ ((Below.refl _ _).alloc (Nat.le_refl _) _).drew | exact KE.out _ (((Below.refl _ _).alloc (Nat.le_refl _) _).alloc (by simp) _).drew | exact KE.out _ R.out | exact KE.out _ (R.out.alloc hz _) | exact KE.out _ ((R.out.alloc hz _).alloc (by simp; omega) _))
              clear hK K
              try simp only [Act.put, List.setIfInBounds_toArray, List.set_cons_zero, List.set_cons_succ]
              refine wpAnyH_ready (rs := [6]) (by kernel_rfl) (by simp) ?_
              refine AllReadyH.cons (o := (⟨some 43, _, _, _, _, _⟩ : Oper)) rfl (fun K hK => ?_) ?_
              · go_simp
                (go_at_call 6; (with_reducible refine (HBCL.out _ ?_).mono ?_); (· refine HBV.out.trans (Below.mono ?_ hv); (first | exact (Below.refl _ _).drew | exact ((Below.refl _ _).alloc (Nat.le_refl _) _).drew | exact (((Below.refl _ _).alloc (Nat.le_refl _) _).alloc (by simp) _).drew | exact R.out | exact R.out.alloc hz _ | exact (R.out.alloc hz _).alloc (by simp; omega) _)); rintro e W2 ⟨⟨An, cn, rfl, hrow⟩, hb⟩; have FN := Lib.hid (latR_feeV hrow); have HB2 := Lib.hid hb; have sz2 := hb.size; (try simp at sz2); have R := Lib.hid (below_go (U := wv) hb (by (first | exact (Below.refl _ _).drew | exact ((Below.refl _ _).alloc (Nat.le_refl _) _).drew | exact (((Below.refl _ _).alloc (Nat.le_refl _) _).alloc (by simp) _).drew | exact R.out | exact R.out.alloc hz _ | exact (R.out.alloc hz _).alloc (by simp; omega) _))); have hz : wv.heap.size ≤ W2.heap.size := R.out.size; clear hrow hb)
                refine hK.out _ _ ?_ (fun hHeld => ?_)
                · (try dsimp only); (first | exact KE.out _ (Below.refl _ _).drew | exact KE.out _ ((Below.refl _ _).alloc (Nat.le_refl _) _).drew | exact KE.out _ (((Below.refl _ _).alloc (Nat.le_refl _) _).alloc (by simp) _).drew | exact KE.out _ R.out | exact KE.out _ (R.out.alloc hz _) | exact KE.out _ ((R.out.alloc hz _).alloc (by simp; omega) _))
                clear hK K
                try simp only [Act.put, List.setIfInBounds_toArray, List.set_cons_zero, List.set_cons_succ]
                refine wpAnyH_ready (rs := [7]) (by kernel_rfl) (by simp) ?_
                refine AllReadyH.cons (o := (⟨some 44, _, _, _, _, _⟩ : Oper)) rfl (fun K hK => ?_) ?_
                · go_simp
                  (go_at_call 6; (with_reducible refine (HANX.out _ An cn ?_ ?_).mono ?_); (· refine HBV.out.trans (Below.mono ?_ hv); (first | exact (Below.refl _ _).drew | exact ((Below.refl _ _).alloc (Nat.le_refl _) _).drew | exact (((Below.refl _ _).alloc (Nat.le_refl _) _).alloc (by simp) _).drew | exact R.out | exact R.out.alloc hz _ | exact (R.out.alloc hz _).alloc (by simp; omega) _)); (· first | exact FN.out | exact feeV_next FN.out ((Below.refl _ _).alloc (Nat.le_refl _) _) | exact feeV_next (feeV_next FN.out ((Below.refl _ _).alloc (Nat.le_refl _) _)) ((Below.refl _ _).alloc (Nat.le_refl _) _)); rintro e W3 ⟨⟨A3, c3, rfl, hrow⟩, hb⟩; have ROW3 := Lib.hid (hrow.base_ (Nat.zero_le _)); have HB3 := Lib.hid hb; have sz3 := hb.size; (try simp at sz3); have R := Lib.hid (below_go (U := wv) hb (by (first | exact (Below.refl _ _).drew | exact ((Below.refl _ _).alloc (Nat.le_refl _) _).drew | exact (((Below.refl _ _).alloc (Nat.le_refl _) _).alloc (by simp) _).drew | exact R.out | exact R.out.alloc hz _ | exact (R.out.alloc hz _).alloc (by simp; omega) _))); have hz : wv.heap.size ≤ W3.heap.size := R.out.size; clear hrow hb)
                  refine hK.out _ _ ?_ (fun hHeld => ?_)
                  · (try dsimp only); (first | exact KE.out _ (Below.refl _ _).drew | exact KE.out _ ((Below.refl _ _).alloc (Nat.le_refl _) _).drew | exact KE.out _ (((Below.refl _ _).alloc (Nat.le_refl _) _).alloc (by simp) _).drew | exact KE.out _ R.out | exact KE.out _ (R.out.alloc hz _) | exact KE.out _ ((R.out.alloc hz _).alloc (by simp; omega) _))
                  clear hK K
                  try simp only [Act.put, List.setIfInBounds_toArray, List.set_cons_zero, List.set_cons_succ]
                  refine wpAnyH_ready (rs := [10]) (by kernel_rfl) (by simp) ?_
                  refine AllReadyH.cons (o := (⟨none, _, _, _, _, _⟩ : Oper)) rfl (fun K hK => ?_) ?_
                  · (refine store_fee_step rfl (.tmp 8) (.tmp 39) rfl _ _ _ _ _ _ _ _ _ _ _ rfl rfl ?_ ?_; (· repeat (first | exact heap_alloc_new _ _ | exact heap_alloc_new1 _ _ _ | refine blk_alloc ?_ | refine blk_hid HB3 ?_ | refine blk_hid HB2 ?_ | refine blk_hid HB1 ?_ | refine blk_drew ?_)); intro W5 h5 u5; have R := Lib.hid (below_upd (V := wv) u5 (by (first | exact (Below.refl _ _).drew | exact ((Below.refl _ _).alloc (Nat.le_refl _) _).drew | exact (((Below.refl _ _).alloc (Nat.le_refl _) _).alloc (by simp) _).drew | exact R.out | exact R.out.alloc hz _ | exact (R.out.alloc hz _).alloc (by simp; omega) _)) (Nat.le_refl _) (by first | omega | (simp; omega))); have hz : wv.heap.size ≤ W5.heap.size := R.out.size)
                    refine hK.out _ _ ?_ (fun hHeld => ?_)
                    · (try dsimp only); (first | exact KE.out _ (Below.refl _ _).drew | exact KE.out _ ((Below.refl _ _).alloc (Nat.le_refl _) _).drew | exact KE.out _ (((Below.refl _ _).alloc (Nat.le_refl _) _).alloc (by simp) _).drew | exact KE.out _ R.out | exact KE.out _ (R.out.alloc hz _) | exact KE.out _ ((R.out.alloc hz _).alloc (by simp; omega) _))
                    clear hK K
                    try simp only [Act.put, List.setIfInBounds_toArray, List.set_cons_zero, List.set_cons_succ]
                    refine wpAnyH_ready (rs := [11]) (by kernel_rfl) (by simp) ?_
                    refine AllReadyH.cons (o := (⟨none, _, _, _, _, _⟩ : Oper)) rfl (fun K hK => ?_) ?_
                    · (refine store_fee_step rfl (.tmp 9) (.tmp 44) rfl _ _ _ _ _ _ _ _ _ _ _ rfl rfl (upd_zero u5 ?_ ?_) ?_; (· repeat (first | exact heap_alloc_new _ _ | exact heap_alloc_new1 _ _ _ | refine blk_alloc ?_ | refine blk_hid HB3 ?_ | refine blk_hid HB2 ?_ | refine blk_hid HB1 ?_ | refine blk_drew ?_)); (· first | omega | (simp; omega)); intro W6 h6 u6; have R := Lib.hid (below_upd u6 R.out (Nat.le_refl _) (by first | omega | (simp; omega))); have hz : wv.heap.size ≤ W6.heap.size := R.out.size)
                      refine hK.out _ _ ?_ (fun hHeld => ?_)
                      · (try dsimp only); (first | exact KE.out _ (Below.refl _ _).drew | exact KE.out _ ((Below.refl _ _).alloc (Nat.le_refl _) _).drew | exact KE.out _ (((Below.refl _ _).alloc (Nat.le_refl _) _).alloc (by simp) _).drew | exact KE.out _ R.out | exact KE.out _ (R.out.alloc hz _) | exact KE.out _ ((R.out.alloc hz _).alloc (by simp; omega) _))
                      clear hK K
                      try simp only [Act.put, List.setIfInBounds_toArray, List.set_cons_zero, List.set_cons_succ]
                      refine wpAnyH_done (by kernel_rfl) ?_ _
                      go_wp2_with fail
                      go_meet
                      refine ⟨_, _, A1, c1, A3, c3, rfl, rfl, upd_zero u6 h5 ?_, h6, row_upd (cur := _) u6 (row_upd u5 ?_ (by repeat (first | exact heap_alloc_new _ _ | exact heap_alloc_new1 _ _ _ | refine blk_alloc ?_ | refine blk_hid HB3 ?_ | refine blk_hid HB2 ?_ | refine blk_hid HB1 ?_ | refine blk_drew ?_))) (upd_zero u5 (by repeat (first | exact heap_alloc_new _ _ | exact heap_alloc_new1 _ _ _ | refine blk_alloc ?_ | refine blk_hid HB3 ?_ | refine blk_hid HB2 ?_ | refine blk_hid HB1 ?_ | refine blk_drew ?_)) ?_), row_upd u6 (row_upd u5 ?_ (by repeat (first | exact heap_alloc_new _ _ | exact heap_alloc_new1 _ _ _ | refine blk_alloc ?_ | refine blk_hid HB3 ?_ | refine blk_hid HB2 ?_ | refine blk_hid HB1 ?_ | refine blk_drew ?_))) (upd_zero u5 (by repeat (first | exact heap_alloc_new _ _ | exact heap_alloc_new1 _ _ _ | refine blk_alloc ?_ | refine blk_hid HB3 ?_ | refine blk_hid HB2 ?_ | refine blk_hid HB1 ?_ | refine blk_drew ?_)) ?_), R.out⟩
                      all_goals
                        first
                          | omega
                          | (simp; omega)
                          | (repeat (first | exact ROW3.out | exact ROW1.out | refine row_alloc ?_ | refine row_hid HB3 ?_ | refine row_hid HB2 ?_))
                    exact AllReadyH.nil
                  exact AllReadyH.nil
                exact AllReadyH.nil
              exact AllReadyH.nil
            exact AllReadyH.nil
          exact AllReadyH.nil
        exact AllReadyH.nil
      case rest =>
        obtain ⟨g8, g9, A8, c8, A9, c9, rfl, rfl, h8, h9, row8, row9, hbc⟩ := hcut
        obtain ⟨wz, ewz⟩ : ∃ x, x = wc := ⟨_, rfl⟩
        subst ewz
        have HBZ := Lib.hid (HBV.out.trans (hbc.mono hv))
        have hszz := HBZ.out.size
        have HXZ := Lib.hid (HXV.out.trans (hbc.mono hsv))
        have hxz := HXZ.out.size
        have FY : Hid (∀ W, Below wz.heap.size wz W → FeeV W (· < W.heap.size) (bareF Y) (.agg #[.slice A8 Y.path.length c8, .string (S Y.id), .string (S Y.title), .string (S Y.link), .int .i64 Y.upd, .slice none 0 0])) := fun W hW => feeV_next (latR_feeV row8) hW
        have FZ : Hid (∀ W, Below wz.heap.size wz W → FeeV W (· < W.heap.size) (bareF Z) (.agg #[.slice A9 Z.path.length c9, .string (S Z.id), .string (S Z.title), .string (S Z.link), .int .i64 Z.upd, .slice none 0 0])) := fun W hW => feeV_next (latR_feeV row9) hW
        have KEZ : Hid (∀ W, Below wz.heap.size wz W → (W.cell? ⟨w.heap.size, 0, none⟩ = some (.slice P1 a.path.length p1) ∧ W.cell? ⟨w.heap.size, 1, none⟩ = some (.string (S a.id)) ∧ W.cell? ⟨w.heap.size, 2, none⟩ = some (.string (S a.title)) ∧ W.cell? ⟨w.heap.size, 3, none⟩ = some (.string (S a.link)) ∧ W.cell? ⟨w.heap.size, 4, none⟩ = some (.int .i64 a.upd) ∧ W.cell? ⟨w.heap.size, 5, none⟩ = some (.slice E1 a.ents.length e1)) ∧ (W.cell? ⟨w.heap.size + 1, 0, none⟩ = some (.slice P2 b.path.length p2) ∧ W.cell? ⟨w.heap.size + 1, 1, none⟩ = some (.string (S b.id)) ∧ W.cell? ⟨w.heap.size + 1, 2, none⟩ = some (.string (S b.title)) ∧ W.cell? ⟨w.heap.size + 1, 3, none⟩ = some (.string (S b.link)) ∧ W.cell? ⟨w.heap.size + 1, 4, none⟩ = some (.int .i64 b.upd) ∧ W.cell? ⟨w.heap.size + 1, 5, none⟩ = some (.slice E2 b.ents.length e2)) ∧ (W.cell? ⟨w.heap.size + 1 + 1, 0, none⟩ = some (.slice P3 c.path.length p3) ∧ W.cell? ⟨w.heap.size + 1 + 1, 1, none⟩ = some (.string (S c.id)) ∧ W.cell? ⟨w.heap.size + 1 + 1, 2, none⟩ = some (.string (S c.title)) ∧ W.cell? ⟨w.heap.size + 1 + 1, 3, none⟩ = some (.string (S c.link)) ∧ W.cell? ⟨w.heap.size + 1 + 1, 4, none⟩ = some (.int .i64 c.upd) ∧ W.cell? ⟨w.heap.size + 1 + 1, 5, none⟩ = some (.slice E3 c.ents.length e3)) ∧ (W.cell? ⟨gx, 0, none⟩ = some (.slice Ax X.path.length cx) ∧ W.cell? ⟨gx, 1, none⟩ = some (.string (S X.id)) ∧ W.cell? ⟨gx, 2, none⟩ = some (.string (S X.title)) ∧ W.cell? ⟨gx, 3, none⟩ = some (.string (S X.link)) ∧ W.cell? ⟨gx, 4, none⟩ = some (.int .i64 X.upd) ∧ W.cell? ⟨gx, 5, none⟩ = some (.slice none 0 0))) := fun W hW => KEV.out W (hbc.trans (hW.mono hbc.size))
        have KEY : Hid (∀ W, Below wz.heap.size wz W → (W.cell? ⟨gx, 0, none⟩ = some (.slice Ax X.path.length cx) ∧ W.cell? ⟨gx, 1, none⟩ = some (.string (S X.id)) ∧ W.cell? ⟨gx, 2, none⟩ = some (.string (S X.title)) ∧ W.cell? ⟨gx, 3, none⟩ = some (.string (S X.link)) ∧ W.cell? ⟨gx, 4, none⟩ = some (.int .i64 X.upd) ∧ W.cell? ⟨gx, 5, none⟩ = some (.slice none 0 0)) ∧ (W.cell? ⟨g8, 0, none⟩ = some (.slice A8 Y.path.length c8) ∧ W.cell? ⟨g8, 1, none⟩ = some (.string (S Y.id)) ∧ W.cell? ⟨g8, 2, none⟩ = some (.string (S Y.title)) ∧ W.cell? ⟨g8, 3, none⟩ = some (.string (S Y.link)) ∧ W.cell? ⟨g8, 4, none⟩ = some (.int .i64 Y.upd) ∧ W.cell? ⟨g8, 5, none⟩ = some (.slice none 0 0)) ∧ (W.cell? ⟨g9, 0, none⟩ = some (.slice A9 Z.path.length c9) ∧ W.cell? ⟨g9, 1, none⟩ = some (.string (S Z.id)) ∧ W.cell? ⟨g9, 2, none⟩ = some (.string (S Z.title)) ∧ W.cell? ⟨g9, 3, none⟩ = some (.string (S Z.link)) ∧ W.cell? ⟨g9, 4, none⟩ = some (.int .i64 Z.upd) ∧ W.cell? ⟨g9, 5, none⟩ = some (.slice none 0 0))) := fun W hW => ⟨(KEZ.out W hW).2.2.2, cells6 ((hW.block g8 (heap_lt h8)).trans h8), cells6 ((hW.block g9 (heap_lt h9)).trans h9)⟩
        have HXX0 : Hid (∀ W, Below w.heap.size w W → Below wz.heap.size wz W → Calls Tryz.prog 6 #[.agg #[.slice Ax X.path.length cx, .string (S X.id), .string (S X.title), .string (S X.link), .int .i64 X.upd, .slice none 0 0], .agg #[.slice Ax X.path.length cx, .string (S X.id), .string (S X.title), .string (S X.link), .int .i64 X.upd, .slice none 0 0]] W fun x w' => LatR W.heap.size (lat3 cmpKF (bareF X) (bareF X)) w' x ∧ Below W.heap.size W w') := fun W h1 h2 => HXXX.out W Ax cx h1 (FX.out W (HXZ.out.trans (h2.mono hxz)))
        clear KE KEV h8 h9 row8 row9 hbc HXCX HXXX HANX HBCL
        have KE := KEY
        go_wp2_with fail
        go_cut [56] (fun s56 wt => s56 = .bool false ∧ Below wz.heap.size wz wt)
        case first =>
          refine wp_region_held_drew (S := fun x => (x.cell? ⟨gx, 0, none⟩ = some (.slice Ax X.path.length cx) ∧ x.cell? ⟨gx, 1, none⟩ = some (.string (S X.id)) ∧ x.cell? ⟨gx, 2, none⟩ = some (.string (S X.title)) ∧ x.cell? ⟨gx, 3, none⟩ = some (.string (S X.link)) ∧ x.cell? ⟨gx, 4, none⟩ = some (.int .i64 X.upd) ∧ x.cell? ⟨gx, 5, none⟩ = some (.slice none 0 0)) ∧ (x.cell? ⟨g8, 0, none⟩ = some (.slice A8 Y.path.length c8) ∧ x.cell? ⟨g8, 1, none⟩ = some (.string (S Y.id)) ∧ x.cell? ⟨g8, 2, none⟩ = some (.string (S Y.title)) ∧ x.cell? ⟨g8, 3, none⟩ = some (.string (S Y.link)) ∧ x.cell? ⟨g8, 4, none⟩ = some (.int .i64 Y.upd) ∧ x.cell? ⟨g8, 5, none⟩ = some (.slice none 0 0)) ∧ (x.cell? ⟨g9, 0, none⟩ = some (.slice A9 Z.path.length c9) ∧ x.cell? ⟨g9, 1, none⟩ = some (.string (S Z.id)) ∧ x.cell? ⟨g9, 2, none⟩ = some (.string (S Z.title)) ∧ x.cell? ⟨g9, 3, none⟩ = some (.string (S Z.link)) ∧ x.cell? ⟨g9, 4, none⟩ = some (.int .i64 Z.upd) ∧ x.cell? ⟨g9, 5, none⟩ = some (.slice none 0 0))) (by kernel_rfl) ?_ (fun hHeld => ?_)
          · (try dsimp only); exact KE.out _ (Below.refl _ _).drew
          refine wpAnyH_take (i := 0) (oi := (⟨some 45, _, _, _, _, _⟩ : Oper)) (v := ?_) rfl (by kernel_rfl) (by kernel_rfl) (by kernel_rfl) (fun _ _ _ h => h) (Or.inl ⟨by rfl, ?_⟩) (by assumption) ?_
          rotate_left
          · intro wS hSw; (try dsimp only at hSw); go_simp <;> with_reducible rfl
          simp only [Act.put, List.setIfInBounds_toArray, List.set_cons_zero, List.set_cons_succ]
          refine wpAnyH_take (i := 1) (oi := (⟨some 46, _, _, _, _, _⟩ : Oper)) (v := ?_) rfl (by kernel_rfl) (by kernel_rfl) (by kernel_rfl) (fun _ _ _ h => h) (Or.inl ⟨by rfl, ?_⟩) (by assumption) ?_
          rotate_left
          · intro wS hSw; (try dsimp only at hSw); go_simp <;> with_reducible rfl
          simp only [Act.put, List.setIfInBounds_toArray, List.set_cons_zero, List.set_cons_succ]
          refine wpAnyH_ready (rs := [2]) (by kernel_rfl) (by simp) ?_
          refine AllReadyH.cons (o := (⟨some 47, _, _, _, _, _⟩ : Oper)) rfl (fun K hK => ?_) ?_
          rotate_left
          · exact AllReadyH.nil
          go_simp
          (go_at_call 7; (with_reducible refine (HS.out (bareF Y) (bareF Z) _ _ _ (FY.out _ (Below.refl _ _).drew) (FZ.out _ (Below.refl _ _).drew) SY.out SZ.out EYZ.out).mono ?_); rintro e Wn ⟨rfl, hb⟩; have R := Lib.hid ((Below.refl wz.heap.size wz).drew.trans hb); have hz : wz.heap.size ≤ Wn.heap.size := R.out.size; clear hb)
          refine hK.out _ _ ?_ (fun hHeld => ?_)
          · (try dsimp only); exact KE.out _ R.out
          clear hK K
          try simp only [Act.put, List.setIfInBounds_toArray, List.set_cons_zero, List.set_cons_succ]
          refine wpAnyH_take (i := 3) (oi := (⟨some 48, _, _, _, _, _⟩ : Oper)) (v := ?_) rfl (by kernel_rfl) (by kernel_rfl) (by kernel_rfl) (fun _ _ _ h => h) (Or.inl ⟨by rfl, ?_⟩) (by assumption) ?_
          rotate_left
          · intro wS hSw; (try dsimp only at hSw); go_simp <;> with_reducible rfl
          simp only [Act.put, List.setIfInBounds_toArray, List.set_cons_zero, List.set_cons_succ]
          refine wpAnyH_take (i := 4) (oi := (⟨some 49, _, _, _, _, _⟩ : Oper)) (v := ?_) rfl (by kernel_rfl) (by kernel_rfl) (by kernel_rfl) (fun _ _ _ h => h) (Or.inl ⟨by rfl, ?_⟩) (by assumption) ?_
          rotate_left
          · intro wS hSw; (try dsimp only at hSw); go_simp <;> with_reducible rfl
          simp only [Act.put, List.setIfInBounds_toArray, List.set_cons_zero, List.set_cons_succ]
          refine wpAnyH_take (i := 5) (oi := (⟨some 50, _, _, _, _, _⟩ : Oper)) (v := ?_) rfl (by kernel_rfl) (by kernel_rfl) (by kernel_rfl) (fun _ _ _ h => h) (Or.inl ⟨by rfl, ?_⟩) (by assumption) ?_
          rotate_left
          · intro wS hSw; (try dsimp only at hSw); go_simp <;> with_reducible rfl
          simp only [Act.put, List.setIfInBounds_toArray, List.set_cons_zero, List.set_cons_succ]
          refine wpAnyH_take (i := 6) (oi := (⟨some 51, _, _, _, _, _⟩ : Oper)) (v := ?_) rfl (by kernel_rfl) (by kernel_rfl) (by kernel_rfl) (fun _ _ _ h => h) (Or.inl ⟨by rfl, ?_⟩) (by assumption) ?_
          rotate_left
          · intro wS hSw; (try dsimp only at hSw); go_simp <;> with_reducible rfl
          simp only [Act.put, List.setIfInBounds_toArray, List.set_cons_zero, List.set_cons_succ]
          refine wpAnyH_take (i := 8) (oi := (⟨some 53, _, _, _, _, _⟩ : Oper)) (v := ?_) rfl (by kernel_rfl) (by kernel_rfl) (by kernel_rfl) (fun _ _ _ h => h) (Or.inl ⟨by rfl, ?_⟩) (by assumption) ?_
          rotate_left
          · intro wS hSw; (try dsimp only at hSw); go_simp <;> with_reducible rfl
          simp only [Act.put, List.setIfInBounds_toArray, List.set_cons_zero, List.set_cons_succ]
          refine wpAnyH_ready (rs := [7]) (by kernel_rfl) (by simp) ?_
          refine AllReadyH.cons (o := (⟨some 52, _, _, _, _, _⟩ : Oper)) rfl (fun K hK => ?_) ?_
          rotate_left
          · exact AllReadyH.nil
          go_simp
          (go_at_call 6; (with_reducible refine (HXX0.out _ (HBZ.out.trans (R.out.mono hszz)) R.out).mono ?_); rintro e Wn ⟨⟨A1, c1, rfl, hrow⟩, hb⟩; have F1 := Lib.hid (latR_feeV hrow); have R := Lib.hid (R.out.trans (hb.mono hz)); have hz : wz.heap.size ≤ Wn.heap.size := R.out.size; clear hrow hb)
          refine hK.out _ _ ?_ (fun hHeld => ?_)
          · (try dsimp only); exact KE.out _ R.out
          clear hK K
          try simp only [Act.put, List.setIfInBounds_toArray, List.set_cons_zero, List.set_cons_succ]
          refine wpAnyH_ready (rs := [9]) (by kernel_rfl) (by simp) ?_
          refine AllReadyH.cons (o := (⟨some 54, _, _, _, _, _⟩ : Oper)) rfl (fun K hK => ?_) ?_
          rotate_left
          · exact AllReadyH.nil
          go_simp
          (go_at_call 7; (with_reducible refine (HS.out (bareF (lat3 cmpKF (bareF X) (bareF X))) (bareF X) _ _ _ F1.out (FX.out _ (HXZ.out.trans (R.out.mono hxz))) SXX.out SX.out EXX.out).mono ?_); rintro e Wn ⟨rfl, hb⟩; have R := Lib.hid (R.out.trans (hb.mono hz)); have hz : wz.heap.size ≤ Wn.heap.size := R.out.size; clear hb)
          refine hK.out _ _ ?_ (fun hHeld => ?_)
          · (try dsimp only); exact KE.out _ R.out
          clear hK K
          try simp only [Act.put, List.setIfInBounds_toArray, List.set_cons_zero, List.set_cons_succ]
          refine wpAnyH_take (i := 10) (oi := (⟨some 55, _, _, _, _, _⟩ : Oper)) (v := ?_) rfl (by kernel_rfl) (by kernel_rfl) (by kernel_rfl) (fun _ _ _ h => h) (Or.inl ⟨by rfl, ?_⟩) (by assumption) ?_
          rotate_left
          · intro wS hSw; (try dsimp only at hSw); go_simp <;> with_reducible rfl
          simp only [Act.put, List.setIfInBounds_toArray, List.set_cons_zero, List.set_cons_succ]
          refine wpAnyH_take (i := 11) (oi := (⟨some 56, _, _, _, _, _⟩ : Oper)) (v := ?_) rfl (by kernel_rfl) (by kernel_rfl) (by kernel_rfl) (fun _ _ _ h => h) (Or.inl ⟨by rfl, ?_⟩) (by assumption) ?_
          rotate_left
          · intro wS hSw; (try dsimp only at hSw); go_simp <;> with_reducible rfl
          simp only [Act.put, List.setIfInBounds_toArray, List.set_cons_zero, List.set_cons_succ]
          refine wpAnyH_done (by kernel_rfl) ?_ _
          go_wp2_with fail
          go_meet
          exact ⟨rfl, R.out⟩
        case rest =>
          obtain ⟨rfl, hbc⟩ := hcut
          obtain ⟨wt, ewt⟩ : ∃ x, x = wc := ⟨_, rfl⟩
          subst ewt
          have HBT := Lib.hid (HBZ.out.trans (hbc.mono hszz))
          have hszt := HBT.out.size
          have HXT := Lib.hid (HXZ.out.trans (hbc.mono hxz))
          have hxt := HXT.out.size
          have KET : Hid (∀ W, Below wt.heap.size wt W → (W.cell? ⟨w.heap.size, 0, none⟩ = some (.slice P1 a.path.length p1) ∧ W.cell? ⟨w.heap.size, 1, none⟩ = some (.string (S a.id)) ∧ W.cell? ⟨w.heap.size, 2, none⟩ = some (.string (S a.title)) ∧ W.cell? ⟨w.heap.size, 3, none⟩ = some (.string (S a.link)) ∧ W.cell? ⟨w.heap.size, 4, none⟩ = some (.int .i64 a.upd) ∧ W.cell? ⟨w.heap.size, 5, none⟩ = some (.slice E1 a.ents.length e1)) ∧ (W.cell? ⟨w.heap.size + 1, 0, none⟩ = some (.slice P2 b.path.length p2) ∧ W.cell? ⟨w.heap.size + 1, 1, none⟩ = some (.string (S b.id)) ∧ W.cell? ⟨w.heap.size + 1, 2, none⟩ = some (.string (S b.title)) ∧ W.cell? ⟨w.heap.size + 1, 3, none⟩ = some (.string (S b.link)) ∧ W.cell? ⟨w.heap.size + 1, 4, none⟩ = some (.int .i64 b.upd) ∧ W.cell? ⟨w.heap.size + 1, 5, none⟩ = some (.slice E2 b.ents.length e2)) ∧ (W.cell? ⟨gx, 0, none⟩ = some (.slice Ax X.path.length cx) ∧ W.cell? ⟨gx, 1, none⟩ = some (.string (S X.id)) ∧ W.cell? ⟨gx, 2, none⟩ = some (.string (S X.title)) ∧ W.cell? ⟨gx, 3, none⟩ = some (.string (S X.link)) ∧ W.cell? ⟨gx, 4, none⟩ = some (.int .i64 X.upd) ∧ W.cell? ⟨gx, 5, none⟩ = some (.slice none 0 0))) := fun W hW => by
            have h := KEZ.out W (hbc.trans (hW.mono hbc.size))
            exact ⟨h.1, h.2.1, h.2.2.2⟩
          clear KE KEZ KEY FY FZ HXX0 hbc
          have KE := KET
          go_wp2_with fail
          go_cut [72] (fun s72 wl => s72 = .bool false ∧ Below wt.heap.size wt wl)
          case first =>
            have hways : va = false ∨ (va = true ∧ vb = false) ∨ (va = true ∧ vb = true) := by cases va <;> cases vb <;> simp
            rcases hways with rfl | ⟨rfl, rfl⟩ | ⟨rfl, rfl⟩
            · have HCA : Hid (∀ W, Below w.heap.size w W → Calls Tryz.prog 9 #[.agg #[.slice P1 a.path.length p1, .string (S a.id), .string (S a.title), .string (S a.link), .int .i64 a.upd, .slice E1 a.ents.length e1]] W fun x w' => x = .returned (.int .i64 22) ∧ Below W.heap.size W w') := HCA.out
              refine wp_region_held_drew (S := fun x => (x.cell? ⟨w.heap.size, 0, none⟩ = some (.slice P1 a.path.length p1) ∧ x.cell? ⟨w.heap.size, 1, none⟩ = some (.string (S a.id)) ∧ x.cell? ⟨w.heap.size, 2, none⟩ = some (.string (S a.title)) ∧ x.cell? ⟨w.heap.size, 3, none⟩ = some (.string (S a.link)) ∧ x.cell? ⟨w.heap.size, 4, none⟩ = some (.int .i64 a.upd) ∧ x.cell? ⟨w.heap.size, 5, none⟩ = some (.slice E1 a.ents.length e1)) ∧ (x.cell? ⟨w.heap.size + 1, 0, none⟩ = some (.slice P2 b.path.length p2) ∧ x.cell? ⟨w.heap.size + 1, 1, none⟩ = some (.string (S b.id)) ∧ x.cell? ⟨w.heap.size + 1, 2, none⟩ = some (.string (S b.title)) ∧ x.cell? ⟨w.heap.size + 1, 3, none⟩ = some (.string (S b.link)) ∧ x.cell? ⟨w.heap.size + 1, 4, none⟩ = some (.int .i64 b.upd) ∧ x.cell? ⟨w.heap.size + 1, 5, none⟩ = some (.slice E2 b.ents.length e2)) ∧ (x.cell? ⟨gx, 0, none⟩ = some (.slice Ax X.path.length cx) ∧ x.cell? ⟨gx, 1, none⟩ = some (.string (S X.id)) ∧ x.cell? ⟨gx, 2, none⟩ = some (.string (S X.title)) ∧ x.cell? ⟨gx, 3, none⟩ = some (.string (S X.link)) ∧ x.cell? ⟨gx, 4, none⟩ = some (.int .i64 X.upd) ∧ x.cell? ⟨gx, 5, none⟩ = some (.slice none 0 0))) (by kernel_rfl) ?_ (fun hHeld => ?_)
              · (try dsimp only); exact KE.out _ (Below.refl _ _).drew
              refine wpAnyH_take (i := 0) (oi := (⟨some 57, _, _, _, _, _⟩ : Oper)) (v := ?_) rfl (by kernel_rfl) (by kernel_rfl) (by kernel_rfl) (fun _ _ _ h => h) (Or.inl ⟨by rfl, ?_⟩) (by assumption) ?_
              rotate_left
              · intro wS hSw; (try dsimp only at hSw); go_simp <;> with_reducible rfl
              simp only [Act.put, List.setIfInBounds_toArray, List.set_cons_zero, List.set_cons_succ]
              refine wpAnyH_ready (rs := [1]) (by kernel_rfl) (by simp) ?_
              refine AllReadyH.cons (o := (⟨some 58, _, _, _, _, _⟩ : Oper)) rfl (fun K hK => ?_) ?_
              rotate_left
              · exact AllReadyH.nil
              go_simp
              (go_at_call 9; (with_reducible refine (HCA.out _ HBT.out.drew).mono ?_); rintro e Wn ⟨rfl, hb⟩; have R := Lib.hid ((Below.refl wt.heap.size wt).drew.trans hb); have hz : wt.heap.size ≤ Wn.heap.size := R.out.size; clear hb)
              refine hK.out _ _ ?_ (fun hHeld => ?_)
              · (try dsimp only); exact KE.out _ R.out
              clear hK K
              try simp only [Act.put, List.setIfInBounds_toArray, List.set_cons_zero, List.set_cons_succ]
              refine wpAnyH_take (i := 2) (oi := (⟨some 59, _, _, _, _, _⟩ : Oper)) (v := ?_) rfl (by kernel_rfl) (by kernel_rfl) (by kernel_rfl) (fun _ _ _ h => h) (Or.inl ⟨by rfl, ?_⟩) (by assumption) ?_
              rotate_left
              · intro wS hSw; (try dsimp only at hSw); go_simp <;> with_reducible rfl
              simp only [Act.put, List.setIfInBounds_toArray, List.set_cons_zero, List.set_cons_succ]
              refine wpAnyH_take (i := 3) (oi := (⟨some 60, _, _, _, _, _⟩ : Oper)) (v := ?_) rfl (by kernel_rfl) (by kernel_rfl) (by kernel_rfl) (fun _ _ _ h => h) (Or.inl ⟨by rfl, ?_⟩) (by assumption) ?_
              rotate_left
              · intro wS hSw; (try dsimp only at hSw); go_simp <;> with_reducible rfl
              simp only [Act.put, List.setIfInBounds_toArray, List.set_cons_zero, List.set_cons_succ]
              refine wpAnyH_take (i := 4) (oi := (⟨some 61, _, _, _, _, _⟩ : Oper)) (v := undef) rfl (by kernel_rfl) (by kernel_rfl) (by kernel_rfl) (fun _ _ _ h => h) (Or.inr ⟨by rfl, rfl⟩) (by assumption) ?_
              simp only [Act.put, List.setIfInBounds_toArray, List.set_cons_zero, List.set_cons_succ]
              refine wpAnyH_take (i := 5) (oi := (⟨some 62, _, _, _, _, _⟩ : Oper)) (v := undef) rfl (by kernel_rfl) (by kernel_rfl) (by kernel_rfl) (fun _ _ _ h => h) (Or.inr ⟨by rfl, rfl⟩) (by assumption) ?_
              simp only [Act.put, List.setIfInBounds_toArray, List.set_cons_zero, List.set_cons_succ]
              refine wpAnyH_take (i := 6) (oi := (⟨some 63, _, _, _, _, _⟩ : Oper)) (v := undef) rfl (by kernel_rfl) (by kernel_rfl) (by kernel_rfl) (fun _ _ _ h => h) (Or.inr ⟨by rfl, rfl⟩) (by assumption) ?_
              simp only [Act.put, List.setIfInBounds_toArray, List.set_cons_zero, List.set_cons_succ]
              refine wpAnyH_take (i := 7) (oi := (⟨some 64, _, _, _, _, _⟩ : Oper)) (v := ?_) rfl (by kernel_rfl) (by kernel_rfl) (by kernel_rfl) (fun _ _ _ h => h) (Or.inl ⟨by rfl, ?_⟩) (by assumption) ?_
              rotate_left
              · intro wS hSw; (try dsimp only at hSw); go_simp <;> with_reducible rfl
              simp only [Act.put, List.setIfInBounds_toArray, List.set_cons_zero, List.set_cons_succ]
              refine wpAnyH_take (i := 8) (oi := (⟨some 65, _, _, _, _, _⟩ : Oper)) (v := ?_) rfl (by kernel_rfl) (by kernel_rfl) (by kernel_rfl) (fun _ _ _ h => h) (Or.inl ⟨by rfl, ?_⟩) (by assumption) ?_
              rotate_left
              · intro wS hSw; (try dsimp only at hSw); go_simp <;> with_reducible rfl
              simp only [Act.put, List.setIfInBounds_toArray, List.set_cons_zero, List.set_cons_succ]
              refine wpAnyH_take (i := 9) (oi := (⟨some 66, _, _, _, _, _⟩ : Oper)) (v := undef) rfl (by kernel_rfl) (by kernel_rfl) (by kernel_rfl) (fun _ _ _ h => h) (Or.inr ⟨by rfl, rfl⟩) (by assumption) ?_
              simp only [Act.put, List.setIfInBounds_toArray, List.set_cons_zero, List.set_cons_succ]
              refine wpAnyH_take (i := 10) (oi := (⟨some 67, _, _, _, _, _⟩ : Oper)) (v := undef) rfl (by kernel_rfl) (by kernel_rfl) (by kernel_rfl) (fun _ _ _ h => h) (Or.inr ⟨by rfl, rfl⟩) (by assumption) ?_
              simp only [Act.put, List.setIfInBounds_toArray, List.set_cons_zero, List.set_cons_succ]
              refine wpAnyH_take (i := 11) (oi := (⟨some 68, _, _, _, _, _⟩ : Oper)) (v := undef) rfl (by kernel_rfl) (by kernel_rfl) (by kernel_rfl) (fun _ _ _ h => h) (Or.inr ⟨by rfl, rfl⟩) (by assumption) ?_
              simp only [Act.put, List.setIfInBounds_toArray, List.set_cons_zero, List.set_cons_succ]
              refine wpAnyH_take (i := 12) (oi := (⟨some 69, _, _, _, _, _⟩ : Oper)) (v := undef) rfl (by kernel_rfl) (by kernel_rfl) (by kernel_rfl) (fun _ _ _ h => h) (Or.inr ⟨by rfl, rfl⟩) (by assumption) ?_
              simp only [Act.put, List.setIfInBounds_toArray, List.set_cons_zero, List.set_cons_succ]
              refine wpAnyH_take (i := 13) (oi := (⟨some 70, _, _, _, _, _⟩ : Oper)) (v := undef) rfl (by kernel_rfl) (by kernel_rfl) (by kernel_rfl) (fun _ _ _ h => h) (Or.inr ⟨by rfl, rfl⟩) (by assumption) ?_
              simp only [Act.put, List.setIfInBounds_toArray, List.set_cons_zero, List.set_cons_succ]
              refine wpAnyH_take (i := 14) (oi := (⟨some 71, _, _, _, _, _⟩ : Oper)) (v := undef) rfl (by kernel_rfl) (by kernel_rfl) (by kernel_rfl) (fun _ _ _ h => h) (Or.inr ⟨by rfl, rfl⟩) (by assumption) ?_
              simp only [Act.put, List.setIfInBounds_toArray, List.set_cons_zero, List.set_cons_succ]
              refine wpAnyH_take (i := 15) (oi := (⟨some 72, _, _, _, _, _⟩ : Oper)) (v := ?_) rfl (by kernel_rfl) (by kernel_rfl) (by kernel_rfl) (fun _ _ _ h => h) (Or.inl ⟨by rfl, ?_⟩) (by assumption) ?_
              rotate_left
              · intro wS hSw; (try dsimp only at hSw); go_simp <;> with_reducible rfl
              simp only [Act.put, List.setIfInBounds_toArray, List.set_cons_zero, List.set_cons_succ]
              refine wpAnyH_done (by kernel_rfl) ?_ _
              go_wp2_with fail
              go_meet
              exact ⟨rfl, R.out⟩
            · have HCA : Hid (∀ W, Below w.heap.size w W → Calls Tryz.prog 9 #[.agg #[.slice P1 a.path.length p1, .string (S a.id), .string (S a.title), .string (S a.link), .int .i64 a.upd, .slice E1 a.ents.length e1]] W fun x w' => x = .returned (.int .i64 0) ∧ Below W.heap.size W w') := HCA.out
              have HCB : Hid (∀ W, Below w.heap.size w W → Calls Tryz.prog 9 #[.agg #[.slice P2 b.path.length p2, .string (S b.id), .string (S b.title), .string (S b.link), .int .i64 b.upd, .slice E2 b.ents.length e2]] W fun x w' => x = .returned (.int .i64 22) ∧ Below W.heap.size W w') := HCB.out
              refine wp_region_held_drew (S := fun x => (x.cell? ⟨w.heap.size, 0, none⟩ = some (.slice P1 a.path.length p1) ∧ x.cell? ⟨w.heap.size, 1, none⟩ = some (.string (S a.id)) ∧ x.cell? ⟨w.heap.size, 2, none⟩ = some (.string (S a.title)) ∧ x.cell? ⟨w.heap.size, 3, none⟩ = some (.string (S a.link)) ∧ x.cell? ⟨w.heap.size, 4, none⟩ = some (.int .i64 a.upd) ∧ x.cell? ⟨w.heap.size, 5, none⟩ = some (.slice E1 a.ents.length e1)) ∧ (x.cell? ⟨w.heap.size + 1, 0, none⟩ = some (.slice P2 b.path.length p2) ∧ x.cell? ⟨w.heap.size + 1, 1, none⟩ = some (.string (S b.id)) ∧ x.cell? ⟨w.heap.size + 1, 2, none⟩ = some (.string (S b.title)) ∧ x.cell? ⟨w.heap.size + 1, 3, none⟩ = some (.string (S b.link)) ∧ x.cell? ⟨w.heap.size + 1, 4, none⟩ = some (.int .i64 b.upd) ∧ x.cell? ⟨w.heap.size + 1, 5, none⟩ = some (.slice E2 b.ents.length e2)) ∧ (x.cell? ⟨gx, 0, none⟩ = some (.slice Ax X.path.length cx) ∧ x.cell? ⟨gx, 1, none⟩ = some (.string (S X.id)) ∧ x.cell? ⟨gx, 2, none⟩ = some (.string (S X.title)) ∧ x.cell? ⟨gx, 3, none⟩ = some (.string (S X.link)) ∧ x.cell? ⟨gx, 4, none⟩ = some (.int .i64 X.upd) ∧ x.cell? ⟨gx, 5, none⟩ = some (.slice none 0 0))) (by kernel_rfl) ?_ (fun hHeld => ?_)
              · (try dsimp only); exact KE.out _ (Below.refl _ _).drew
              refine wpAnyH_take (i := 0) (oi := (⟨some 57, _, _, _, _, _⟩ : Oper)) (v := ?_) rfl (by kernel_rfl) (by kernel_rfl) (by kernel_rfl) (fun _ _ _ h => h) (Or.inl ⟨by rfl, ?_⟩) (by assumption) ?_
              rotate_left
              · intro wS hSw; (try dsimp only at hSw); go_simp <;> with_reducible rfl
              simp only [Act.put, List.setIfInBounds_toArray, List.set_cons_zero, List.set_cons_succ]
              refine wpAnyH_ready (rs := [1]) (by kernel_rfl) (by simp) ?_
              refine AllReadyH.cons (o := (⟨some 58, _, _, _, _, _⟩ : Oper)) rfl (fun K hK => ?_) ?_
              rotate_left
              · exact AllReadyH.nil
              go_simp
              (go_at_call 9; (with_reducible refine (HCA.out _ HBT.out.drew).mono ?_); rintro e Wn ⟨rfl, hb⟩; have R := Lib.hid ((Below.refl wt.heap.size wt).drew.trans hb); have hz : wt.heap.size ≤ Wn.heap.size := R.out.size; clear hb)
              refine hK.out _ _ ?_ (fun hHeld => ?_)
              · (try dsimp only); exact KE.out _ R.out
              clear hK K
              try simp only [Act.put, List.setIfInBounds_toArray, List.set_cons_zero, List.set_cons_succ]
              refine wpAnyH_take (i := 2) (oi := (⟨some 59, _, _, _, _, _⟩ : Oper)) (v := ?_) rfl (by kernel_rfl) (by kernel_rfl) (by kernel_rfl) (fun _ _ _ h => h) (Or.inl ⟨by rfl, ?_⟩) (by assumption) ?_
              rotate_left
              · intro wS hSw; (try dsimp only at hSw); go_simp <;> with_reducible rfl
              simp only [Act.put, List.setIfInBounds_toArray, List.set_cons_zero, List.set_cons_succ]
              refine wpAnyH_take (i := 3) (oi := (⟨some 60, _, _, _, _, _⟩ : Oper)) (v := ?_) rfl (by kernel_rfl) (by kernel_rfl) (by kernel_rfl) (fun _ _ _ h => h) (Or.inl ⟨by rfl, ?_⟩) (by assumption) ?_
              rotate_left
              · intro wS hSw; (try dsimp only at hSw); go_simp <;> with_reducible rfl
              simp only [Act.put, List.setIfInBounds_toArray, List.set_cons_zero, List.set_cons_succ]
              refine wpAnyH_take (i := 4) (oi := (⟨some 61, _, _, _, _, _⟩ : Oper)) (v := ?_) rfl (by kernel_rfl) (by kernel_rfl) (by kernel_rfl) (fun _ _ _ h => h) (Or.inl ⟨by rfl, ?_⟩) (by assumption) ?_
              rotate_left
              · intro wS hSw; (try dsimp only at hSw); go_simp <;> with_reducible rfl
              simp only [Act.put, List.setIfInBounds_toArray, List.set_cons_zero, List.set_cons_succ]
              refine wpAnyH_ready (rs := [5]) (by kernel_rfl) (by simp) ?_
              refine AllReadyH.cons (o := (⟨some 62, _, _, _, _, _⟩ : Oper)) rfl (fun K hK => ?_) ?_
              rotate_left
              · exact AllReadyH.nil
              go_simp
              (go_at_call 9; (with_reducible refine (HCB.out _ (HBT.out.trans (R.out.mono hszt))).mono ?_); rintro e Wn ⟨rfl, hb⟩; have R := Lib.hid (R.out.trans (hb.mono hz)); have hz : wt.heap.size ≤ Wn.heap.size := R.out.size; clear hb)
              refine hK.out _ _ ?_ (fun hHeld => ?_)
              · (try dsimp only); exact KE.out _ R.out
              clear hK K
              try simp only [Act.put, List.setIfInBounds_toArray, List.set_cons_zero, List.set_cons_succ]
              refine wpAnyH_take (i := 6) (oi := (⟨some 63, _, _, _, _, _⟩ : Oper)) (v := ?_) rfl (by kernel_rfl) (by kernel_rfl) (by kernel_rfl) (fun _ _ _ h => h) (Or.inl ⟨by rfl, ?_⟩) (by assumption) ?_
              rotate_left
              · intro wS hSw; (try dsimp only at hSw); go_simp <;> with_reducible rfl
              simp only [Act.put, List.setIfInBounds_toArray, List.set_cons_zero, List.set_cons_succ]
              refine wpAnyH_take (i := 7) (oi := (⟨some 64, _, _, _, _, _⟩ : Oper)) (v := ?_) rfl (by kernel_rfl) (by kernel_rfl) (by kernel_rfl) (fun _ _ _ h => h) (Or.inl ⟨by rfl, ?_⟩) (by assumption) ?_
              rotate_left
              · intro wS hSw; (try dsimp only at hSw); go_simp <;> with_reducible rfl
              simp only [Act.put, List.setIfInBounds_toArray, List.set_cons_zero, List.set_cons_succ]
              refine wpAnyH_take (i := 8) (oi := (⟨some 65, _, _, _, _, _⟩ : Oper)) (v := ?_) rfl (by kernel_rfl) (by kernel_rfl) (by kernel_rfl) (fun _ _ _ h => h) (Or.inl ⟨by rfl, ?_⟩) (by assumption) ?_
              rotate_left
              · intro wS hSw; (try dsimp only at hSw); go_simp <;> with_reducible rfl
              simp only [Act.put, List.setIfInBounds_toArray, List.set_cons_zero, List.set_cons_succ]
              refine wpAnyH_take (i := 9) (oi := (⟨some 66, _, _, _, _, _⟩ : Oper)) (v := undef) rfl (by kernel_rfl) (by kernel_rfl) (by kernel_rfl) (fun _ _ _ h => h) (Or.inr ⟨by rfl, rfl⟩) (by assumption) ?_
              simp only [Act.put, List.setIfInBounds_toArray, List.set_cons_zero, List.set_cons_succ]
              refine wpAnyH_take (i := 10) (oi := (⟨some 67, _, _, _, _, _⟩ : Oper)) (v := undef) rfl (by kernel_rfl) (by kernel_rfl) (by kernel_rfl) (fun _ _ _ h => h) (Or.inr ⟨by rfl, rfl⟩) (by assumption) ?_
              simp only [Act.put, List.setIfInBounds_toArray, List.set_cons_zero, List.set_cons_succ]
              refine wpAnyH_take (i := 11) (oi := (⟨some 68, _, _, _, _, _⟩ : Oper)) (v := undef) rfl (by kernel_rfl) (by kernel_rfl) (by kernel_rfl) (fun _ _ _ h => h) (Or.inr ⟨by rfl, rfl⟩) (by assumption) ?_
              simp only [Act.put, List.setIfInBounds_toArray, List.set_cons_zero, List.set_cons_succ]
              refine wpAnyH_take (i := 12) (oi := (⟨some 69, _, _, _, _, _⟩ : Oper)) (v := undef) rfl (by kernel_rfl) (by kernel_rfl) (by kernel_rfl) (fun _ _ _ h => h) (Or.inr ⟨by rfl, rfl⟩) (by assumption) ?_
              simp only [Act.put, List.setIfInBounds_toArray, List.set_cons_zero, List.set_cons_succ]
              refine wpAnyH_take (i := 13) (oi := (⟨some 70, _, _, _, _, _⟩ : Oper)) (v := undef) rfl (by kernel_rfl) (by kernel_rfl) (by kernel_rfl) (fun _ _ _ h => h) (Or.inr ⟨by rfl, rfl⟩) (by assumption) ?_
              simp only [Act.put, List.setIfInBounds_toArray, List.set_cons_zero, List.set_cons_succ]
              refine wpAnyH_take (i := 14) (oi := (⟨some 71, _, _, _, _, _⟩ : Oper)) (v := undef) rfl (by kernel_rfl) (by kernel_rfl) (by kernel_rfl) (fun _ _ _ h => h) (Or.inr ⟨by rfl, rfl⟩) (by assumption) ?_
              simp only [Act.put, List.setIfInBounds_toArray, List.set_cons_zero, List.set_cons_succ]
              refine wpAnyH_take (i := 15) (oi := (⟨some 72, _, _, _, _, _⟩ : Oper)) (v := ?_) rfl (by kernel_rfl) (by kernel_rfl) (by kernel_rfl) (fun _ _ _ h => h) (Or.inl ⟨by rfl, ?_⟩) (by assumption) ?_
              rotate_left
              · intro wS hSw; (try dsimp only at hSw); go_simp <;> with_reducible rfl
              simp only [Act.put, List.setIfInBounds_toArray, List.set_cons_zero, List.set_cons_succ]
              refine wpAnyH_done (by kernel_rfl) ?_ _
              go_wp2_with fail
              go_meet
              exact ⟨rfl, R.out⟩
            · have HCA : Hid (∀ W, Below w.heap.size w W → Calls Tryz.prog 9 #[.agg #[.slice P1 a.path.length p1, .string (S a.id), .string (S a.title), .string (S a.link), .int .i64 a.upd, .slice E1 a.ents.length e1]] W fun x w' => x = .returned (.int .i64 0) ∧ Below W.heap.size W w') := HCA.out
              have HCB : Hid (∀ W, Below w.heap.size w W → Calls Tryz.prog 9 #[.agg #[.slice P2 b.path.length p2, .string (S b.id), .string (S b.title), .string (S b.link), .int .i64 b.upd, .slice E2 b.ents.length e2]] W fun x w' => x = .returned (.int .i64 0) ∧ Below W.heap.size W w') := HCB.out
              have EBA := Lib.hid (HEBA.out rfl rfl)
              refine wp_region_held_drew (S := fun x => (x.cell? ⟨w.heap.size, 0, none⟩ = some (.slice P1 a.path.length p1) ∧ x.cell? ⟨w.heap.size, 1, none⟩ = some (.string (S a.id)) ∧ x.cell? ⟨w.heap.size, 2, none⟩ = some (.string (S a.title)) ∧ x.cell? ⟨w.heap.size, 3, none⟩ = some (.string (S a.link)) ∧ x.cell? ⟨w.heap.size, 4, none⟩ = some (.int .i64 a.upd) ∧ x.cell? ⟨w.heap.size, 5, none⟩ = some (.slice E1 a.ents.length e1)) ∧ (x.cell? ⟨w.heap.size + 1, 0, none⟩ = some (.slice P2 b.path.length p2) ∧ x.cell? ⟨w.heap.size + 1, 1, none⟩ = some (.string (S b.id)) ∧ x.cell? ⟨w.heap.size + 1, 2, none⟩ = some (.string (S b.title)) ∧ x.cell? ⟨w.heap.size + 1, 3, none⟩ = some (.string (S b.link)) ∧ x.cell? ⟨w.heap.size + 1, 4, none⟩ = some (.int .i64 b.upd) ∧ x.cell? ⟨w.heap.size + 1, 5, none⟩ = some (.slice E2 b.ents.length e2)) ∧ (x.cell? ⟨gx, 0, none⟩ = some (.slice Ax X.path.length cx) ∧ x.cell? ⟨gx, 1, none⟩ = some (.string (S X.id)) ∧ x.cell? ⟨gx, 2, none⟩ = some (.string (S X.title)) ∧ x.cell? ⟨gx, 3, none⟩ = some (.string (S X.link)) ∧ x.cell? ⟨gx, 4, none⟩ = some (.int .i64 X.upd) ∧ x.cell? ⟨gx, 5, none⟩ = some (.slice none 0 0))) (by kernel_rfl) ?_ (fun hHeld => ?_)
              · (try dsimp only); exact KE.out _ (Below.refl _ _).drew
              refine wpAnyH_take (i := 0) (oi := (⟨some 57, _, _, _, _, _⟩ : Oper)) (v := ?_) rfl (by kernel_rfl) (by kernel_rfl) (by kernel_rfl) (fun _ _ _ h => h) (Or.inl ⟨by rfl, ?_⟩) (by assumption) ?_
              rotate_left
              · intro wS hSw; (try dsimp only at hSw); go_simp <;> with_reducible rfl
              simp only [Act.put, List.setIfInBounds_toArray, List.set_cons_zero, List.set_cons_succ]
              refine wpAnyH_ready (rs := [1]) (by kernel_rfl) (by simp) ?_
              refine AllReadyH.cons (o := (⟨some 58, _, _, _, _, _⟩ : Oper)) rfl (fun K hK => ?_) ?_
              rotate_left
              · exact AllReadyH.nil
              go_simp
              (go_at_call 9; (with_reducible refine (HCA.out _ HBT.out.drew).mono ?_); rintro e Wn ⟨rfl, hb⟩; have R := Lib.hid ((Below.refl wt.heap.size wt).drew.trans hb); have hz : wt.heap.size ≤ Wn.heap.size := R.out.size; clear hb)
              refine hK.out _ _ ?_ (fun hHeld => ?_)
              · (try dsimp only); exact KE.out _ R.out
              clear hK K
              try simp only [Act.put, List.setIfInBounds_toArray, List.set_cons_zero, List.set_cons_succ]
              refine wpAnyH_take (i := 2) (oi := (⟨some 59, _, _, _, _, _⟩ : Oper)) (v := ?_) rfl (by kernel_rfl) (by kernel_rfl) (by kernel_rfl) (fun _ _ _ h => h) (Or.inl ⟨by rfl, ?_⟩) (by assumption) ?_
              rotate_left
              · intro wS hSw; (try dsimp only at hSw); go_simp <;> with_reducible rfl
              simp only [Act.put, List.setIfInBounds_toArray, List.set_cons_zero, List.set_cons_succ]
              refine wpAnyH_take (i := 3) (oi := (⟨some 60, _, _, _, _, _⟩ : Oper)) (v := ?_) rfl (by kernel_rfl) (by kernel_rfl) (by kernel_rfl) (fun _ _ _ h => h) (Or.inl ⟨by rfl, ?_⟩) (by assumption) ?_
              rotate_left
              · intro wS hSw; (try dsimp only at hSw); go_simp <;> with_reducible rfl
              simp only [Act.put, List.setIfInBounds_toArray, List.set_cons_zero, List.set_cons_succ]
              refine wpAnyH_take (i := 4) (oi := (⟨some 61, _, _, _, _, _⟩ : Oper)) (v := ?_) rfl (by kernel_rfl) (by kernel_rfl) (by kernel_rfl) (fun _ _ _ h => h) (Or.inl ⟨by rfl, ?_⟩) (by assumption) ?_
              rotate_left
              · intro wS hSw; (try dsimp only at hSw); go_simp <;> with_reducible rfl
              simp only [Act.put, List.setIfInBounds_toArray, List.set_cons_zero, List.set_cons_succ]
              refine wpAnyH_ready (rs := [5]) (by kernel_rfl) (by simp) ?_
              refine AllReadyH.cons (o := (⟨some 62, _, _, _, _, _⟩ : Oper)) rfl (fun K hK => ?_) ?_
              rotate_left
              · exact AllReadyH.nil
              go_simp
              (go_at_call 9; (with_reducible refine (HCB.out _ (HBT.out.trans (R.out.mono hszt))).mono ?_); rintro e Wn ⟨rfl, hb⟩; have R := Lib.hid (R.out.trans (hb.mono hz)); have hz : wt.heap.size ≤ Wn.heap.size := R.out.size; clear hb)
              refine hK.out _ _ ?_ (fun hHeld => ?_)
              · (try dsimp only); exact KE.out _ R.out
              clear hK K
              try simp only [Act.put, List.setIfInBounds_toArray, List.set_cons_zero, List.set_cons_succ]
              refine wpAnyH_take (i := 6) (oi := (⟨some 63, _, _, _, _, _⟩ : Oper)) (v := ?_) rfl (by kernel_rfl) (by kernel_rfl) (by kernel_rfl) (fun _ _ _ h => h) (Or.inl ⟨by rfl, ?_⟩) (by assumption) ?_
              rotate_left
              · intro wS hSw; (try dsimp only at hSw); go_simp <;> with_reducible rfl
              simp only [Act.put, List.setIfInBounds_toArray, List.set_cons_zero, List.set_cons_succ]
              refine wpAnyH_take (i := 7) (oi := (⟨some 64, _, _, _, _, _⟩ : Oper)) (v := ?_) rfl (by kernel_rfl) (by kernel_rfl) (by kernel_rfl) (fun _ _ _ h => h) (Or.inl ⟨by rfl, ?_⟩) (by assumption) ?_
              rotate_left
              · intro wS hSw; (try dsimp only at hSw); go_simp <;> with_reducible rfl
              simp only [Act.put, List.setIfInBounds_toArray, List.set_cons_zero, List.set_cons_succ]
              refine wpAnyH_take (i := 8) (oi := (⟨some 65, _, _, _, _, _⟩ : Oper)) (v := ?_) rfl (by kernel_rfl) (by kernel_rfl) (by kernel_rfl) (fun _ _ _ h => h) (Or.inl ⟨by rfl, ?_⟩) (by assumption) ?_
              rotate_left
              · intro wS hSw; (try dsimp only at hSw); go_simp <;> with_reducible rfl
              simp only [Act.put, List.setIfInBounds_toArray, List.set_cons_zero, List.set_cons_succ]
              refine wpAnyH_take (i := 9) (oi := (⟨some 66, _, _, _, _, _⟩ : Oper)) (v := ?_) rfl (by kernel_rfl) (by kernel_rfl) (by kernel_rfl) (fun _ _ _ h => h) (Or.inl ⟨by rfl, ?_⟩) (by assumption) ?_
              rotate_left
              · intro wS hSw; (try dsimp only at hSw); go_simp <;> with_reducible rfl
              simp only [Act.put, List.setIfInBounds_toArray, List.set_cons_zero, List.set_cons_succ]
              refine wpAnyH_take (i := 10) (oi := (⟨some 67, _, _, _, _, _⟩ : Oper)) (v := ?_) rfl (by kernel_rfl) (by kernel_rfl) (by kernel_rfl) (fun _ _ _ h => h) (Or.inl ⟨by rfl, ?_⟩) (by assumption) ?_
              rotate_left
              · intro wS hSw; (try dsimp only at hSw); go_simp <;> with_reducible rfl
              simp only [Act.put, List.setIfInBounds_toArray, List.set_cons_zero, List.set_cons_succ]
              refine wpAnyH_take (i := 12) (oi := (⟨some 69, _, _, _, _, _⟩ : Oper)) (v := ?_) rfl (by kernel_rfl) (by kernel_rfl) (by kernel_rfl) (fun _ _ _ h => h) (Or.inl ⟨by rfl, ?_⟩) (by assumption) ?_
              rotate_left
              · intro wS hSw; (try dsimp only at hSw); go_simp <;> with_reducible rfl
              simp only [Act.put, List.setIfInBounds_toArray, List.set_cons_zero, List.set_cons_succ]
              refine wpAnyH_ready (rs := [11]) (by kernel_rfl) (by simp) ?_
              refine AllReadyH.cons (o := (⟨some 68, _, _, _, _, _⟩ : Oper)) rfl (fun K hK => ?_) ?_
              rotate_left
              · exact AllReadyH.nil
              go_simp
              (go_at_call 6; (with_reducible refine (HBAL.out _ (HBT.out.trans (R.out.mono hszt))).mono ?_); rintro e Wn ⟨⟨A1, c1, rfl, hrow⟩, hb⟩; have F1 := Lib.hid (latR_feeV hrow); have R := Lib.hid (R.out.trans (hb.mono hz)); have hz : wt.heap.size ≤ Wn.heap.size := R.out.size; clear hrow hb)
              refine hK.out _ _ ?_ (fun hHeld => ?_)
              · (try dsimp only); exact KE.out _ R.out
              clear hK K
              try simp only [Act.put, List.setIfInBounds_toArray, List.set_cons_zero, List.set_cons_succ]
              refine wpAnyH_ready (rs := [13]) (by kernel_rfl) (by simp) ?_
              refine AllReadyH.cons (o := (⟨some 70, _, _, _, _, _⟩ : Oper)) rfl (fun K hK => ?_) ?_
              rotate_left
              · exact AllReadyH.nil
              go_simp
              (go_at_call 7; (with_reducible refine (HS.out (bareF (lat3 cmpKF b a)) (bareF X) _ _ _ F1.out (FX.out _ (HXT.out.trans (R.out.mono hxt))) SBA.out SX.out EBA.out).mono ?_); rintro e Wn ⟨rfl, hb⟩; have R := Lib.hid (R.out.trans (hb.mono hz)); have hz : wt.heap.size ≤ Wn.heap.size := R.out.size; clear hb)
              refine hK.out _ _ ?_ (fun hHeld => ?_)
              · (try dsimp only); exact KE.out _ R.out
              clear hK K
              try simp only [Act.put, List.setIfInBounds_toArray, List.set_cons_zero, List.set_cons_succ]
              refine wpAnyH_take (i := 14) (oi := (⟨some 71, _, _, _, _, _⟩ : Oper)) (v := ?_) rfl (by kernel_rfl) (by kernel_rfl) (by kernel_rfl) (fun _ _ _ h => h) (Or.inl ⟨by rfl, ?_⟩) (by assumption) ?_
              rotate_left
              · intro wS hSw; (try dsimp only at hSw); go_simp <;> with_reducible rfl
              simp only [Act.put, List.setIfInBounds_toArray, List.set_cons_zero, List.set_cons_succ]
              refine wpAnyH_take (i := 15) (oi := (⟨some 72, _, _, _, _, _⟩ : Oper)) (v := ?_) rfl (by kernel_rfl) (by kernel_rfl) (by kernel_rfl) (fun _ _ _ h => h) (Or.inl ⟨by rfl, ?_⟩) (by assumption) ?_
              rotate_left
              · intro wS hSw; (try dsimp only at hSw); go_simp <;> with_reducible rfl
              simp only [Act.put, List.setIfInBounds_toArray, List.set_cons_zero, List.set_cons_succ]
              refine wpAnyH_done (by kernel_rfl) ?_ _
              go_wp2_with fail
              go_meet
              exact ⟨rfl, R.out⟩
          case rest =>
            obtain ⟨rfl, hbc⟩ := hcut
            obtain ⟨wl, ewl⟩ : ∃ x, x = wc := ⟨_, rfl⟩
            subst ewl
            have HBL := Lib.hid (HBT.out.trans (hbc.mono hszt))
            have HXLL := Lib.hid (HXT.out.trans (hbc.mono hxt))
            have BL := Lib.hid (BX.out.next HXLL.out)
            have HGX := Lib.hid ((HXLL.out.block gx (heap_lt HX0.out)).trans HX0.out)
            have RL := Lib.hid (RX.out.below strE_ok HXLL.out (fun _ h => h.elim))
            have hown : ∃ gp, w.heap.size + 3 ≤ gp ∧ gp ≠ gx ∧ (0 < X.path.length → Ax = some ⟨gp, 0, none⟩ ∧ ∃ cur : Array Value, wl.heap[gp]? = some (.cells cur 9 (0, 0)) ∧ X.path.length ≤ cur.size) := by
              obtain ⟨css, _, _, _, h3⟩ := RL.out
              rcases h3 with ⟨_, hn⟩ | ⟨gp, cap, cur, hv', hg', hh, hc1, _, hc2, _⟩
              · exact ⟨gx + 1, by omega, by omega, fun h => by omega⟩
              · cases hv'
                refine ⟨gp, by omega, ?_, fun _ => ⟨rfl, cur, hh, by rw [hc2]; show X.path.length ≤ cx * 1; omega⟩⟩
                have := HGXL.out gp rfl
                omega
            obtain ⟨gp, hgp3, hgpx, hgpo⟩ := hown
            have HGPO := Lib.hid hgpo
            have KL : Hid (∀ W, Upd gp wl W → W.cell? ⟨gx, 0, none⟩ = some (.slice Ax X.path.length cx)) := fun W hW => (cells6 ((hW.block gx (heap_lt HGX.out) (fun e => hgpx e.symm)).trans HGX.out)).1
            have kl0 := KL.out _ (Upd.refl gp wl)
            clear KE KET HCA HCB HEBA hgpo hbc
            go_wp2_with fail
            clear kl0
            go_loopw [76] (fun i76 wr => ∃ i : Nat, i ≤ X.path.length ∧ i76 = .int .i64 i ∧ Upd gp wl wr ∧ (0 < X.path.length → ∃ cur : Array Value, wr.heap[gp]? = some (.cells cur 9 (0, 0)) ∧ X.path.length ≤ cur.size)) (fun i76 _ => X.path.length - (intOf i76).toNat)
            case atStart => exact ⟨0, Nat.zero_le _, rfl, Upd.refl _ _, fun h => (HGPO.out h).2⟩
            case round =>
              obtain ⟨i, hi, rfl, hup, hcur⟩ := hrel
              have HUP := Lib.hid hup
              have kl0 := KL.out _ hup
              have hsu := hup.size
              clear hup
              by_cases hlt : i < X.path.length
              · have hlt' : (i : Int) < X.path.length := by omega
                obtain ⟨cur, hgc, hcs⟩ := hcur (by omega)
                obtain ⟨rfl, _⟩ := HGPO.out (by omega)
                have hcell : ∃ vv, wr.cell? ⟨gp, i, none⟩ = some vv := ⟨cur[i]'(by omega), by rw [Lib.cell_of_heap hgc]; simp [show i < cur.size by omega]⟩
                obtain ⟨vv, hcell⟩ := hcell
                have hfr : wr.frozen? ⟨gp, i, none⟩ = false := Lib.frozen_of_heap hgc i
                have HGC := Lib.hid hgc
                clear hgc hcur
                go_wp2_with fail
                go_roundw
                case rel => exact ⟨i + 1, by omega, by go_num, HUP.out.trans (Upd.set_ gp i wr _), fun _ => ⟨_, heap_set HGC.out _, by simpa using hcs⟩⟩
                case measure => simp [intOf]; omega
              · obtain rfl : i = X.path.length := by omega
                have hlt' : ¬ ((X.path.length : Int) < X.path.length) := by omega
                obtain ⟨we, ewe⟩ : ∃ x, x = wr := ⟨_, rfl⟩
                subst ewe
                have HBE := Lib.hid (HBL.out.trans (HUP.out.below (by omega) HBL.out.size))
                have hsze := HBE.out.size
                have KE : Hid (∀ W, Below we.heap.size we W → (W.cell? ⟨w.heap.size, 0, none⟩ = some (.slice P1 a.path.length p1) ∧ W.cell? ⟨w.heap.size, 1, none⟩ = some (.string (S a.id)) ∧ W.cell? ⟨w.heap.size, 2, none⟩ = some (.string (S a.title)) ∧ W.cell? ⟨w.heap.size, 3, none⟩ = some (.string (S a.link)) ∧ W.cell? ⟨w.heap.size, 4, none⟩ = some (.int .i64 a.upd) ∧ W.cell? ⟨w.heap.size, 5, none⟩ = some (.slice E1 a.ents.length e1)) ∧ (W.cell? ⟨w.heap.size + 1, 0, none⟩ = some (.slice P2 b.path.length p2) ∧ W.cell? ⟨w.heap.size + 1, 1, none⟩ = some (.string (S b.id)) ∧ W.cell? ⟨w.heap.size + 1, 2, none⟩ = some (.string (S b.title)) ∧ W.cell? ⟨w.heap.size + 1, 3, none⟩ = some (.string (S b.link)) ∧ W.cell? ⟨w.heap.size + 1, 4, none⟩ = some (.int .i64 b.upd) ∧ W.cell? ⟨w.heap.size + 1, 5, none⟩ = some (.slice E2 b.ents.length e2))) := fun W hW => by
                  have h1 := heap_lt BL.out.one
                  have h2 := heap_lt BL.out.two
                  exact ⟨cells6 ((hW.block _ (by omega)).trans ((HUP.out.block _ h1 (by omega)).trans BL.out.one)), cells6 ((hW.block _ (by omega)).trans ((HUP.out.block _ h2 (by omega)).trans BL.out.two))⟩
                clear hcur kl0
                go_wp2_with fail
                refine wp_region_held_drew (S := fun x => (x.cell? ⟨w.heap.size, 0, none⟩ = some (.slice P1 a.path.length p1) ∧ x.cell? ⟨w.heap.size, 1, none⟩ = some (.string (S a.id)) ∧ x.cell? ⟨w.heap.size, 2, none⟩ = some (.string (S a.title)) ∧ x.cell? ⟨w.heap.size, 3, none⟩ = some (.string (S a.link)) ∧ x.cell? ⟨w.heap.size, 4, none⟩ = some (.int .i64 a.upd) ∧ x.cell? ⟨w.heap.size, 5, none⟩ = some (.slice E1 a.ents.length e1)) ∧ (x.cell? ⟨w.heap.size + 1, 0, none⟩ = some (.slice P2 b.path.length p2) ∧ x.cell? ⟨w.heap.size + 1, 1, none⟩ = some (.string (S b.id)) ∧ x.cell? ⟨w.heap.size + 1, 2, none⟩ = some (.string (S b.title)) ∧ x.cell? ⟨w.heap.size + 1, 3, none⟩ = some (.string (S b.link)) ∧ x.cell? ⟨w.heap.size + 1, 4, none⟩ = some (.int .i64 b.upd) ∧ x.cell? ⟨w.heap.size + 1, 5, none⟩ = some (.slice E2 b.ents.length e2))) (by kernel_rfl) ?_ (fun hHeld => ?_)
                · (try dsimp only); exact KE.out _ (Below.refl _ _).drew
                refine wpAnyH_ready (rs := [0]) (by kernel_rfl) (by simp) ?_
                refine AllReadyH.cons (o := (⟨some 84, _, _, _, _, _⟩ : Oper)) rfl (fun K hK => ?_) ?_
                rotate_left
                · exact AllReadyH.nil
                go_simp
                (go_at_call 5; (with_reducible refine (HAL.out _ HBE.out.drew).mono ?_); rintro e Wn ⟨rfl, hb⟩; have R := Lib.hid ((Below.refl we.heap.size we).drew.trans hb); have hz : we.heap.size ≤ Wn.heap.size := R.out.size; clear hb)
                refine hK.out _ _ ?_ (fun hHeld => ?_)
                · (try dsimp only); exact KE.out _ R.out
                clear hK K
                try simp only [Act.put, List.setIfInBounds_toArray, List.set_cons_zero, List.set_cons_succ]
                refine wpAnyH_take (i := 1) (oi := (⟨some 85, _, _, _, _, _⟩ : Oper)) (v := ?_) rfl (by kernel_rfl) (by kernel_rfl) (by kernel_rfl) (fun _ _ _ h => h) (Or.inl ⟨by rfl, ?_⟩) (by assumption) ?_
                rotate_left
                · intro wS hSw; (try dsimp only at hSw); go_simp <;> with_reducible rfl
                simp only [Act.put, List.setIfInBounds_toArray, List.set_cons_zero, List.set_cons_succ]
                refine wpAnyH_take (i := 2) (oi := (⟨some 86, _, _, _, _, _⟩ : Oper)) (v := ?_) rfl (by kernel_rfl) (by kernel_rfl) (by kernel_rfl) (fun _ _ _ h => h) (Or.inl ⟨by rfl, ?_⟩) (by assumption) ?_
                rotate_left
                · intro wS hSw; (try dsimp only at hSw); go_simp <;> with_reducible rfl
                simp only [Act.put, List.setIfInBounds_toArray, List.set_cons_zero, List.set_cons_succ]
                refine wpAnyH_take (i := 3) (oi := (⟨some 87, _, _, _, _, _⟩ : Oper)) (v := ?_) rfl (by kernel_rfl) (by kernel_rfl) (by kernel_rfl) (fun _ _ _ h => h) (Or.inl ⟨by rfl, ?_⟩) (by assumption) ?_
                rotate_left
                · intro wS hSw; (try dsimp only at hSw); go_simp <;> with_reducible rfl
                simp only [Act.put, List.setIfInBounds_toArray, List.set_cons_zero, List.set_cons_succ]
                refine wpAnyH_take (i := 5) (oi := (⟨some 89, _, _, _, _, _⟩ : Oper)) (v := ?_) rfl (by kernel_rfl) (by kernel_rfl) (by kernel_rfl) (fun _ _ _ h => h) (Or.inl ⟨by rfl, ?_⟩) (by assumption) ?_
                rotate_left
                · intro wS hSw; (try dsimp only at hSw); go_simp <;> with_reducible rfl
                simp only [Act.put, List.setIfInBounds_toArray, List.set_cons_zero, List.set_cons_succ]
                refine wpAnyH_take (i := 6) (oi := (⟨some 90, _, _, _, _, _⟩ : Oper)) (v := ?_) rfl (by kernel_rfl) (by kernel_rfl) (by kernel_rfl) (fun _ _ _ h => h) (Or.inl ⟨by rfl, ?_⟩) (by assumption) ?_
                rotate_left
                · intro wS hSw; (try dsimp only at hSw); go_simp <;> with_reducible rfl
                simp only [Act.put, List.setIfInBounds_toArray, List.set_cons_zero, List.set_cons_succ]
                refine wpAnyH_ready (rs := [4]) (by kernel_rfl) (by simp) ?_
                refine AllReadyH.cons (o := (⟨some 88, _, _, _, _, _⟩ : Oper)) rfl (fun K hK => ?_) ?_
                rotate_left
                · exact AllReadyH.nil
                go_simp
                (go_at_call 6; (with_reducible refine (HAB.out _ (HBE.out.trans (R.out.mono hsze))).mono ?_); rintro e Wn ⟨⟨A1, c1, rfl, hrow⟩, hb⟩; have F1 := Lib.hid (latR_feeV hrow); have R := Lib.hid (R.out.trans (hb.mono hz)); have hz : we.heap.size ≤ Wn.heap.size := R.out.size; clear hrow hb)
                refine hK.out _ _ ?_ (fun hHeld => ?_)
                · (try dsimp only); exact KE.out _ R.out
                clear hK K
                try simp only [Act.put, List.setIfInBounds_toArray, List.set_cons_zero, List.set_cons_succ]
                refine wpAnyH_ready (rs := [7]) (by kernel_rfl) (by simp) ?_
                refine AllReadyH.cons (o := (⟨some 91, _, _, _, _, _⟩ : Oper)) rfl (fun K hK => ?_) ?_
                rotate_left
                · exact AllReadyH.nil
                go_simp
                (go_at_call 8; (with_reducible refine (HRAB.out _ (HBE.out.trans (R.out.mono hsze))).mono ?_); rintro e Wm ⟨⟨A2, c2, rfl, hrow⟩, hb⟩; have F2 := Lib.hid (latR_feeV hrow); have F3 := Lib.hid (feeV_next F1.out hb); have R := Lib.hid (R.out.trans (hb.mono hz)); have hz : we.heap.size ≤ Wm.heap.size := R.out.size; clear hrow hb)
                refine hK.out _ _ ?_ (fun hHeld => ?_)
                · (try dsimp only); exact KE.out _ R.out
                clear hK K
                try simp only [Act.put, List.setIfInBounds_toArray, List.set_cons_zero, List.set_cons_succ]
                refine wpAnyH_ready (rs := [8]) (by kernel_rfl) (by simp) ?_
                refine AllReadyH.cons (o := (⟨some 92, _, _, _, _, _⟩ : Oper)) rfl (fun K hK => ?_) ?_
                rotate_left
                · exact AllReadyH.nil
                go_simp
                (go_at_call 7; (with_reducible refine (HS.out (bareF X) (bareF X) _ _ _ F3.out F2.out SX.out SX.out (sameF_self _)).mono ?_); rintro e Wn ⟨rfl, hb⟩; have R := Lib.hid (R.out.trans (hb.mono hz)); have hz : we.heap.size ≤ Wn.heap.size := R.out.size; clear hb)
                refine hK.out _ _ ?_ (fun hHeld => ?_)
                · (try dsimp only); exact KE.out _ R.out
                clear hK K
                try simp only [Act.put, List.setIfInBounds_toArray, List.set_cons_zero, List.set_cons_succ]
                refine wpAnyH_take (i := 9) (oi := (⟨some 93, _, _, _, _, _⟩ : Oper)) (v := ?_) rfl (by kernel_rfl) (by kernel_rfl) (by kernel_rfl) (fun _ _ _ h => h) (Or.inl ⟨by rfl, ?_⟩) (by assumption) ?_
                rotate_left
                · intro wS hSw; (try dsimp only at hSw); go_simp <;> with_reducible rfl
                simp only [Act.put, List.setIfInBounds_toArray, List.set_cons_zero, List.set_cons_succ]
                refine wpAnyH_take (i := 10) (oi := (⟨some 6, _, _, _, _, _⟩ : Oper)) (v := ?_) rfl (by kernel_rfl) (by kernel_rfl) (by kernel_rfl) (fun _ _ _ h => h) (Or.inl ⟨by rfl, ?_⟩) (by assumption) ?_
                rotate_left
                · intro wS hSw; (try dsimp only at hSw); go_simp <;> with_reducible rfl
                simp only [Act.put, List.setIfInBounds_toArray, List.set_cons_zero, List.set_cons_succ]
                refine wpAnyH_done (by kernel_rfl) ?_ _
                go_wp2_with fail
                go_ret
                exact ⟨rfl, HBE.out.trans (R.out.mono hsze)⟩
end Go.Proofs.YtadkgjbidhfefaaGreatDoor
