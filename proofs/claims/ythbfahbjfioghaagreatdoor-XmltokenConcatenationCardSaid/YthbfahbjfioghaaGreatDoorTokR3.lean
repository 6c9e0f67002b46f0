/-
  Walks of chapter 6: the reference's attr.
-/
import Derived.Test.YthbfahbjfioghaaGreatDoorTokR2
import Derived.Test.YthbfahbjfioghaaGreatDoorTokRow
import Derived.Laws.ResultCell
import Derived.Deep.QuietTactic
import Derived.BigQuiet
set_option linter.unusedVariables false
namespace Go.Proofs.YthbfahbjfioghaaGreatDoor
open Go.RowKit

/-- A struct result that lies in a block, and two numbers. -/
theorem res_whole3 {P : Program} {fn : Func} {p q r : Tmp} {ty : TypeId} (h : fn.results = #[.cell p ty, .tmp q, .tmp r]) (tmps : Array Value) (w : World) (g : Nat) (ht : tmps.getD p undef = .pointer (some ⟨g, 0, none⟩)) (t : TypeId) (cells : Array Value) (hg : w.heap[g]? = some (.cells cells t (0, 0)))
    {d : TypeDesc} (hu : P.underlying ty = some d) (hd : d.isRow = true) (hi : (P.info? ty).map (·.size) = some cells.size) (x y : Value) (hx : tmps.getD q undef = x) (hy : tmps.getD r undef = y) : (results fn tmps).run P w = .ok (.tuple #[.agg cells, x, y]) w := by
  have hc : w.rangeAt g 0 cells.toList := fun j v hv => by rw [Nat.zero_add, Lib.cell_of_heap hg]; simpa using hv
  have hl := run_loadVar_mid (P := P) w g 0 ty cells.toList d hc hu hd (by simpa using hi)
  rw [Array.toArray_toList] at hl
  subst hx hy
  have ht' : tmps[p]?.getD undef = .pointer (some ⟨g, 0, none⟩) := by simpa using ht
  simp only [results, h]
  simp [ht', asAddr, hl]

/-- What attr returns. -/
def AttRes (r : Except (Nat × Nat) (Att × Nat)) (e : Ending) : Prop :=
  match r with
  | .error p => ∃ a : Att, e = .returned (.tuple #[.agg #[.string (S a.space), .string (S a.name), .string (S a.value), .int .i64 a.pos], .int .i64 p.1, .int .i64 p.2])
  | .ok (a, k) => e = .returned (.tuple #[.agg #[.string (S a.space), .string (S a.name), .string (S a.value), .int .i64 a.pos], .int .i64 k, .int .i64 0])
theorem AttRes.err {p : Nat × Nat} {s nm t : Bytes} {q : Int} : AttRes (.error p) (.returned (.tuple #[.agg #[.string (S s), .string (S nm), .string (S t), .int .i64 q], .int .i64 p.1, .int .i64 p.2])) := ⟨⟨s, nm, t, q⟩, rfl⟩
/-- The result's cell and the attribute that is being built. -/
structure Atb (w : World) (b : Nat) (nm val : Bytes) (p : Int) : Prop where
  res : w.heap[b]? = some (.cells #[.string ⟨#[]⟩, .string ⟨#[]⟩, .string ⟨#[]⟩, .int .i64 0] 42 (0, 0))
  att : w.heap[b + 1]? = some (.cells #[.string (S []), .string (S nm), .string (S val), .int .i64 p] 42 (0, 0))
section
variable {w w' : World} {b : Nat} {nm val : Bytes} {p : Int}
theorem Atb.below (h : Atb w b nm val p) (hb : Below w.heap.size w w') : Atb w' b nm val p :=
  ⟨(hb.block _ (heap_lt h.res)).trans h.res, (hb.block _ (heap_lt h.att)).trans h.att⟩
theorem Atb.c1 (h : Atb w b nm val p) : w.cell? ⟨b + 1, 1, none⟩ = some (.string (S nm)) := by rw [Lib.cell_of_heap h.att]; rfl
theorem Atb.c2 (h : Atb w b nm val p) : w.cell? ⟨b + 1, 2, none⟩ = some (.string (S val)) := by rw [Lib.cell_of_heap h.att]; rfl
theorem Atb.free (h : Atb w b nm val p) (i : Nat) : w.frozen? ⟨b + 1, i, none⟩ = false := Lib.frozen_of_heap h.att i
theorem Atb.name (h : Atb w b nm val p) (x : Bytes) : Atb (w.setCell ⟨b + 1, 1, none⟩ (.string (S x))) b x val p := by
  refine ⟨(Below.heap_setCell _ _ _ _ (by simp)).trans h.res, ?_⟩
  have := h.att
  simp [World.setCell, Array.getElem?_modify, this]
theorem Atb.value (h : Atb w b nm val p) (x : Bytes) : Atb (w.setCell ⟨b + 1, 2, none⟩ (.string (S x))) b nm x p := by
  refine ⟨(Below.heap_setCell _ _ _ _ (by simp)).trans h.res, ?_⟩
  have := h.att
  simp [World.setCell, Array.getElem?_modify, this]
theorem Atb.range (h : Atb w b nm val p) : w.rangeAt (b + 1) 0 (attCells ⟨[], nm, val, p⟩) := range_of_heap (cs := attCells ⟨[], nm, val, p⟩) h.att
theorem Atb.new (w : World) (p : Int) : Atb ((w.alloc (.cells #[.string ⟨#[]⟩, .string ⟨#[]⟩, .string ⟨#[]⟩, .int .i64 0] 42)).alloc (.cells #[.string ⟨#[]⟩, .string ⟨#[]⟩, .string ⟨#[]⟩, .int .i64 p] 42)) w.heap.size [] [] p :=
  ⟨(Below.heap_alloc _ _ _ (by simp)).trans (heap_alloc_new w _), by have := heap_alloc_new (w.alloc (.cells #[.string ⟨#[]⟩, .string ⟨#[]⟩, .string ⟨#[]⟩, .int .i64 0] 42)) (.cells #[.string ⟨#[]⟩, .string ⟨#[]⟩, .string ⟨#[]⟩, .int .i64 p] 42); simpa [S] using this⟩
end
theorem wp_store_att {ops : Array Oper} {rest : List Oper} {o : Oper} {a : Act} {w : World} {Q : Exit → Act → World → Prop} (hgd : o.guard = none) (x y : Operand) (ho : o.op = .store 42 x y)
    (g : Nat) (cur : Array Value) (s nm t : ByteArray) (p : Int) (hx : a.eval x = .pointer (some ⟨g, 0, none⟩)) (hy : a.eval y = .agg #[.string s, .string nm, .string t, .int .i64 p])
    (hg : w.heap[g]? = some (.cells cur 42 (0, 0))) (hs : cur.size = 4)
    (h : ∀ w', w'.heap[g]? = some (.cells #[.string s, .string nm, .string t, .int .i64 p] 42 (0, 0)) → Upd g w w' → wpList Tryz.prog ops Q rest (a.put o.dst undef) w') : wpList Tryz.prog ops Q (o :: rest) a w :=
  wp_store_whole hgd 42 x y ho g 42 cur _ hx hy hg (by rw [hs]; rfl) attSize (by simp [Value.oneCell']) h
theorem drewN_heap (w : World) (n : Nat) : (w.drewN n).heap = w.heap := rfl
theorem below_drewN6 {B : Nat} {w w' : World} (h : Below B w w') (n : Nat) : Below B w (w'.drewN n) := ⟨h.os, h.tape, h.output, h.size, h.block⟩
theorem below_undrewN {B n : Nat} {w w' : World} (h : Below B (w.drewN n) w') : Below B w w' := ⟨h.os, h.tape, h.output, h.size, h.block⟩
theorem AttRes.fine {nm v : Bytes} {n : Int} {k : Nat} {i : Int} (h : i = (k : Int)) : AttRes (.ok (⟨[], nm, v, n⟩, k)) (.returned (.tuple #[.agg #[.string (S []), .string (S nm), .string (S v), .int .i64 n], .int .i64 i, .int .i64 0])) := by
  subst h; rfl

set_option maxHeartbeats 3000000 in
set_option maxRecDepth 100000 in
theorem refAttr_any (l : Bytes) (a n : Nat) (w : World) (hn : n ≤ l.length) (ha : a ≤ l.length) (hl : l.length ≤ 1099511627776) :
    Calls Tryz.prog 111 #[.string (S l), .int .i64 a, .int .i64 n] w fun e w' => AttRes (attAt l a n) e ∧ Below w.heap.size w w' := by
  obtain ⟨R, hR⟩ : ∃ R, attAt l a n = R := ⟨_, rfl⟩
  rw [hR]
  unfold attAt at hR
  have hk := nameLen_le (l.drop n)
  rw [List.length_drop] at hk
  have c1 := fun w => refName_any l n w (by omega) hn
  obtain ⟨k, hkk⟩ : ∃ k, nameLen (l.drop n) = k := ⟨_, rfl⟩
  rw [hkk] at hR hk c1
  have h0 := Atb.new w n
  have H0 := Lib.hid h0
  have HBa := Lib.hid (show Below w.heap.size w ((w.alloc (.cells #[.string ⟨#[]⟩, .string ⟨#[]⟩, .string ⟨#[]⟩, .int .i64 0] 42)).alloc (.cells #[.string ⟨#[]⟩, .string ⟨#[]⟩, .string ⟨#[]⟩, .int .i64 n] 42)) from ((Below.refl _ _).alloc (Nat.le_refl _) _).alloc (by simp) _)
  have C1 := Lib.hid c1
  have HR := Lib.hid hR
  clear h0 c1 hR hkk
  have hkn : (n : Int) + k ≤ l.length := by omega
  go_enter Tryz.func111, Tryz.ntmps111
  go_wp2_with fail
  refine (C1.out _).mono ?_
  rintro e w1 ⟨rfl, hb1⟩
  have A1 := H0.out.below hb1
  have HB1 := HBa.out.trans (hb1.mono HBa.out.size)
  clear hb1
  by_cases hk0 : k = 0
  · have hr := HR.out
    rw [if_pos hk0] at hr
    have c2 := fun w => refMissing_any l a n w (by omega)
    subst hk0
    have C2 := Lib.hid c2
    have HRR := Lib.hid hr
    have ht : ((n : Int) == (n : Int)) = true := by simp
    clear hr c2
    go_wp2_with fail
    have hra := A1.range
    have hres := A1.res
    generalize (missing l a n) = M at *
    go_wp2_with (first
      | (go_at_call 110; refine (C2.out _).mono ?_; rintro e w' ⟨rfl, rfl⟩)
      | (with_reducible refine gate ?_; refine wp_load_att rfl _ rfl (w.heap.size + 1) 0 rfl _ hra ?_)
      | (with_reducible refine gate ?_; refine wp_store_att rfl _ _ rfl w.heap.size _ _ _ _ _ rfl rfl hres rfl ?_; intro w2 hw2 hu2))
    refine bodyPost_ret (v := .tuple #[.agg _, _, _]) (res_whole3 Tryz.results111 _ _ w.heap.size rfl _ _ hw2 Tryz.underlying42 rfl attSize _ _ rfl rfl) rfl ⟨?_, ?_⟩
    · rw [← HRR.out]; exact AttRes.err
    · exact HB1.trans (hu2.below (Nat.le_refl _) HB1.size)
  · have hr := HR.out
    rw [if_neg hk0] at hr
    have ht : ((n : Int) + k == (n : Int)) = false := by rw [beq_eq_false_iff_ne]; omega
    have e3 : ((n : Int) + k).toNat = n + k := by omega
    have e4 : (n : Int) ≤ (n : Int) + k := by omega
    have c2 := fun w => refSpaces_any l (n + k) w (by omega) (by omega)
    rw [Int.natCast_add] at c2
    have s1 := spEnd_ge l (n + k)
    have s2 := spEnd_le (l := l) (n := n + k) (by omega)
    obtain ⟨x, hx⟩ : ∃ x, spEnd l (n + k) = x := ⟨_, rfl⟩
    rw [hx] at hr c2 s1 s2
    have C2 := Lib.hid c2
    have HR2 := Lib.hid hr
    have hc1 := A1.c1
    have hf1 := A1.free 1
    have A2 := Lib.hid (A1.name ((l.drop n).take k))
    have HB2 := Lib.hid (HB1.setCell (p := ⟨w.heap.size + 1, 1, none⟩) (by simp) (.string (S ((l.drop n).take k))))
    clear hr c2 hx HR C1 H0 HBa
    go_wp2_with fail
    generalize hnm : (l.drop n).take k = nm at *
    generalize w1.setCell ⟨w.heap.size + 1, 1, none⟩ (.string (S nm)) = W2 at *
    clear hnm hc1 hf1 A1 HB1
    refine (C2.out _).mono ?_
    rintro e w' ⟨rfl, rfl⟩
    have c3 := fun w => refHas_any l x [61] w (by omega) (by omega) (by decide) (by simp)
    cases hb : hasAt l x [61]
    · have hr := HR2.out
      rw [hb, if_pos rfl] at hr
      rw [hb] at c3
      have C3 := Lib.hid c3
      have HR3 := Lib.hid hr
      have c4 := fun w => refMissing_any l a x w (by omega)
      have C4 := Lib.hid c4
      clear hr c3 c4 hb HR2
      generalize (missing l a x) = M at *
      have hra := A2.out.range
      have hres := A2.out.res
      go_wp2_with (first
        | (go_at_call 43; refine (C3.out _).mono ?_; rintro e w' ⟨rfl, rfl⟩)
        | (go_at_call 110; refine (C4.out _).mono ?_; rintro e w' ⟨rfl, rfl⟩)
        | (with_reducible refine gate ?_; refine wp_load_att rfl _ rfl (w.heap.size + 1) 0 rfl _ hra ?_)
        | (with_reducible refine gate ?_; refine wp_store_att rfl _ _ rfl w.heap.size _ _ _ _ _ rfl rfl hres rfl ?_; intro w2 hw2 hu2))
      refine bodyPost_ret (v := .tuple #[.agg _, _, _]) (res_whole3 Tryz.results111 _ _ w.heap.size rfl _ _ hw2 Tryz.underlying42 rfl attSize _ _ rfl rfl) rfl ⟨?_, ?_⟩
      · rw [← HR3.out]; exact AttRes.err
      · exact HB2.out.trans (hu2.below (Nat.le_refl _) HB2.out.size)
    · have hr := HR2.out
      rw [hb, if_neg (by decide)] at hr
      rw [hb] at c3
      have hx1 : x + 1 ≤ l.length := by
        have := hasAt_le hb
        simp at this; omega
      have c4 := fun w => refSpaces_any l (x + 1) w (by omega) hx1
      rw [Int.natCast_add] at c4
      have s3 := spEnd_ge l (x + 1)
      have s4 := spEnd_le (l := l) hx1
      obtain ⟨y, hy⟩ : ∃ y, spEnd l (x + 1) = y := ⟨_, rfl⟩
      rw [hy] at hr c4 s3 s4
      have C3 := Lib.hid c3
      have C4 := Lib.hid c4
      have HR3 := Lib.hid hr
      have c5 : ∀ w, Calls Tryz.prog 43 #[.string (S l), .int .i64 y, .string ⟨#[34]⟩] w fun e w' => e = .returned (.bool (hasAt l y [34])) ∧ w = w' := fun w => refHas_any l y [34] w (by omega) (by omega) (by decide) (by simp)
      have c6 : ∀ w, Calls Tryz.prog 43 #[.string (S l), .int .i64 y, .string ⟨#[39]⟩] w fun e w' => e = .returned (.bool (hasAt l y [39])) ∧ w = w' := fun w => refHas_any l y [39] w (by omega) (by omega) (by decide) (by simp)
      clear hr c3 c4 hb HR2 hy C2
      go_wp2_with fail
      refine (C3.out _).mono ?_
      rintro e w' ⟨rfl, rfl⟩
      go_wp2_with fail
      refine (C4.out _).mono ?_
      rintro e w' ⟨rfl, rfl⟩
      by_cases hq0 : hasAt l y [34] = false ∧ hasAt l y [39] = false
      · have hr := HR3.out
        rw [if_pos (by unfold isQuote; rw [hq0.1, hq0.2]; rfl)] at hr
        rw [hq0.1] at c5
        rw [hq0.2] at c6
        have C5 := Lib.hid c5
        have C6 := Lib.hid c6
        have HR4 := Lib.hid hr
        have c7 := fun w => refMissing_any l a y w (by omega)
        have C7 := Lib.hid c7
        clear hr c5 c6 c7 hq0 HR3
        generalize (missing l a y) = M at *
        have hra := A2.out.range
        have hres := A2.out.res
        go_wp2_with (first
          | (go_at_call 43; first | (with_reducible refine (C5.out _).mono ?_; rintro e w' ⟨rfl, rfl⟩) | (with_reducible refine (C6.out _).mono ?_; rintro e w' ⟨rfl, rfl⟩))
          | (go_at_call 110; refine (C7.out _).mono ?_; rintro e w' ⟨rfl, rfl⟩)
          | (with_reducible refine gate ?_; refine wp_load_att rfl _ rfl (w.heap.size + 1) 0 rfl _ hra ?_)
          | (with_reducible refine gate ?_; refine wp_store_att rfl _ _ rfl w.heap.size _ _ _ _ _ rfl rfl hres rfl ?_; intro w2 hw2 hu2))
        refine bodyPost_ret (v := .tuple #[.agg _, _, _]) (res_whole3 Tryz.results111 _ _ w.heap.size rfl _ _ hw2 Tryz.underlying42 rfl attSize _ _ rfl rfl) rfl ⟨?_, ?_⟩
        · rw [← HR4.out]; exact AttRes.err
        · exact HB2.out.trans (hu2.below (Nat.le_refl _) HB2.out.size)
      · have hr := HR3.out
        have hqt : isQuote l y = true := by
          unfold isQuote
          cases h5 : hasAt l y [34] <;> cases h6 : hasAt l y [39] <;> simp_all
        rw [if_neg (by rw [hqt]; decide)] at hr
        have hy1 : y + 1 ≤ l.length := by
          unfold isQuote at hqt
          have h4 : hasAt l y [34] = true ∨ hasAt l y [39] = true := by
            cases h5 : hasAt l y [34] <;> cases h6 : hasAt l y [39] <;> simp_all
          rcases h4 with h4 | h4
          all_goals
            have := hasAt_le h4
            simp at this; omega
        have hgq : l.getD y 0 = l[y] := by rw [List.getD_eq_getElem?_getD, List.getElem?_eq_getElem (by omega)]; rfl
        rw [hgq] at hr
        have v1 := valEnd_ge l l[y] (y + 1)
        have v2 := valEnd_le (q := l[y]) hy1
        unfold valAt at hr
        obtain ⟨Z, hZ⟩ : ∃ Z, valEnd l l[y] (y + 1) = Z := ⟨_, rfl⟩
        rw [hZ] at hr v1 v2
        have HR4 := Lib.hid hr
        have HZ := Lib.hid hZ
        have hl5 : ((y : Int) + 1) ≤ l.length := by omega
        have hcases : (hasAt l y [34] = true) ∨ (hasAt l y [34] = false ∧ hasAt l y [39] = true) := by
          cases h5 : hasAt l y [34] <;> cases h6 : hasAt l y [39] <;> simp_all
        clear hr hqt hZ hq0 hgq HR3
        have hq60 : l[y] ≠ 60 := by
          have h4 : hasAt l y [34] = true ∨ hasAt l y [39] = true := by rcases hcases with h | h <;> simp_all
          rcases h4 with h4 | h4
          all_goals
            obtain ⟨_, h7⟩ := has_one.1 h4
            rw [h7]; decide
        have HQ := Lib.hid hq60
        clear hq60
        rcases hcases with h5 | ⟨h5, h6⟩
        all_goals
          rw [h5] at c5
          try rw [h6] at c6
          have C5 := Lib.hid c5
          have C6 := Lib.hid c6
          clear c5 c6 h5
          try clear h6
          go_wp2_with (go_at_call 43; first | (with_reducible refine (C5.out _).mono ?_; rintro e w' ⟨rfl, rfl⟩) | (with_reducible refine (C6.out _).mono ?_; rintro e w' ⟨rfl, rfl⟩))
          go_loopw [10] (fun i10 wr => ∃ z : Nat, y + 1 ≤ z ∧ z ≤ l.length ∧ i10 = .int .i64 z ∧ valEnd l l[y] z = Z ∧ Atb wr w.heap.size nm [] n ∧ Below w.heap.size w wr) (fun i10 _ => l.length - (intOf i10).toNat)
          case atStart => exact ⟨y + 1, by omega, by omega, by go_num, HZ.out, A2.out, HB2.out⟩
          case round =>
            clear A2 HB2 C5 C6
            obtain ⟨z, hyz, hz, rfl, hzz, hA, hB⟩ := hrel
            have HZZ := Lib.hid hzz
            have A3 := Lib.hid hA
            have HB3 := Lib.hid hB
            have hsz := hB.size
            clear hzz hA hB
            have i1 : (y : Int) < l.length := by omega
            have i2 : (0 : Int) ≤ y := by omega
            by_cases hz1 : z < l.length
            · have i3 : (z : Int) < l.length := by omega
              have i4 : decide ((z : Int) < l.length) = true := by simp; omega
              by_cases hzq : l[z] = l[y]
              · have t1 : ((l[z].toNat : Int) == (l[y].toNat : Int)) = true := by rw [hzq]; simp
                have t2 : ((l[z].toNat : Int) != (l[y].toNat : Int)) = false := by rw [bne, t1]; rfl
                have hn60 : l[z] ≠ 60 := by rw [hzq]; exact HQ.out
                have HZQ := Lib.hid hzq
                clear hzq
                obtain rfl : Z = z := by
                  have h := HZZ.out
                  rw [valEnd_no hz1 (.inl HZQ.out)] at h
                  first | exact h.symm | exact h.symm.trans HZL.out.symm
                clear HZZ
                have c8 := fun w => refContent_any true l (y + 1) Z w (by omega) hz hl
                have hr := HR4.out
                cases hcc : cont true l (y + 1) Z with
                | error m =>
                  rw [hcc] at c8 hr
                  simp only [contR] at c8
                  have C8 := Lib.hid c8
                  have HR5 := Lib.hid hr
                  clear c8 hr hcc HR4
                  go_wp2_with fail
                  go_quiet (fail)
                  go_wp2_with fail
                  refine (C8.out _).mono ?_
                  rintro e w5 ⟨rfl, hb5⟩
                  have A5 := Atb.below (w := wr.drewN _) ⟨A3.out.res, A3.out.att⟩ hb5
                  have HB5 := HB3.out.trans ((below_undrewN hb5).mono hsz)
                  have hra := A5.range
                  have hres := A5.res
                  clear hb5
                  go_wp2_with (first
                    | (with_reducible refine gate ?_; refine wp_load_att rfl _ rfl (w.heap.size + 1) 0 rfl _ hra ?_)
                    | (with_reducible refine gate ?_; refine wp_store_att rfl _ _ rfl w.heap.size _ _ _ _ _ rfl rfl hres rfl ?_; intro w2 hw2 hu2))
                  refine bodyPost_ret (v := .tuple #[.agg _, _, _]) (res_whole3 Tryz.results111 _ _ w.heap.size rfl _ _ hw2 Tryz.underlying42 rfl attSize _ _ rfl rfl) rfl ⟨?_, ?_⟩
                  · rw [← HR5.out]; exact AttRes.err
                  · exact HB5.trans (hu2.below (Nat.le_refl _) HB5.size)
                | ok v =>
                  rw [hcc] at c8 hr
                  simp only at hr
                  simp only [contR] at c8
                  rw [if_neg (by omega)] at hr
                  have t9 : ((Z : Int) == (l.length : Int)) = false := by rw [beq_eq_false_iff_ne]; omega
                  have hgz : l.getD Z 0 = l[Z] := by rw [List.getD_eq_getElem?_getD, List.getElem?_eq_getElem (by omega)]; rfl
                  rw [hgz] at hr
                  rw [if_neg hn60] at hr
                  have t10 : ((l[Z].toNat : Int) == 60) = false := byte_ne (k := 60) (fun e => hn60 (UInt8.toNat_inj.1 e))
                  clear hgz
                  have C8 := Lib.hid c8
                  have HR5 := Lib.hid hr
                  clear c8 hr hcc HR4
                  go_wp2_with fail
                  go_quiet (fail)
                  go_wp2_with fail
                  refine (C8.out _).mono ?_
                  rintro e w5 ⟨rfl, hb5⟩
                  have A5 := Atb.below (w := wr.drewN _) ⟨A3.out.res, A3.out.att⟩ hb5
                  have HB5 := HB3.out.trans ((below_undrewN hb5).mono hsz)
                  clear hb5
                  have hc2 := A5.c2
                  have hf2 := A5.free 2
                  have A6 := Lib.hid (A5.value v)
                  have HB6 := Lib.hid (HB5.setCell (p := ⟨w.heap.size + 1, 2, none⟩) (by simp) (.string (S v)))
                  have hra := A6.out.range
                  have hres := A6.out.res
                  go_wp2_with (first
                    | (with_reducible refine gate ?_; refine wp_load_att rfl _ rfl (w.heap.size + 1) 0 rfl _ hra ?_)
                    | (with_reducible refine gate ?_; refine wp_store_att rfl _ _ rfl w.heap.size _ _ _ _ _ rfl rfl hres rfl ?_; intro w2 hw2 hu2))
                  refine bodyPost_ret (v := .tuple #[.agg _, _, _]) (res_whole3 Tryz.results111 _ _ w.heap.size rfl _ _ hw2 Tryz.underlying42 rfl attSize _ _ rfl rfl) rfl ⟨?_, ?_⟩
                  · rw [← HR5.out]; exact AttRes.fine (by simp)
                  · exact HB6.out.trans (hu2.below (Nat.le_refl _) HB6.out.size)
              · have t1 : ((l[z].toNat : Int) == (l[y].toNat : Int)) = false := byte_ne (fun e => hzq (UInt8.toNat_inj.1 e))
                have t2 : ((l[z].toNat : Int) != (l[y].toNat : Int)) = true := by rw [bne, t1]; rfl
                by_cases hz60 : l[z] = 60
                · have t3 : ((l[z].toNat : Int) == 60) = true := by rw [hz60]; rfl
                  have t4 : ((l[z].toNat : Int) != 60) = false := by rw [bne, t3]; rfl
                  have HZ60 := Lib.hid hz60
                  clear hz60 hzq
                  obtain rfl : Z = z := by
                    have h := HZZ.out
                    rw [valEnd_no hz1 (.inr HZ60.out)] at h
                    first | exact h.symm | exact h.symm.trans HZL.out.symm
                  clear HZZ
                  have c8 := fun w => refContent_any true l (y + 1) Z w (by omega) hz hl
                  have hr := HR4.out
                  cases hcc : cont true l (y + 1) Z with
                  | error m =>
                    rw [hcc] at c8 hr
                    simp only [contR] at c8
                    have C8 := Lib.hid c8
                    have HR5 := Lib.hid hr
                    clear c8 hr hcc HR4
                    go_wp2_with fail
                    go_quiet (fail)
                    go_wp2_with fail
                    refine (C8.out _).mono ?_
                    rintro e w5 ⟨rfl, hb5⟩
                    have A5 := Atb.below (w := wr.drewN _) ⟨A3.out.res, A3.out.att⟩ hb5
                    have HB5 := HB3.out.trans ((below_undrewN hb5).mono hsz)
                    have hra := A5.range
                    have hres := A5.res
                    clear hb5
                    go_wp2_with (first
                      | (with_reducible refine gate ?_; refine wp_load_att rfl _ rfl (w.heap.size + 1) 0 rfl _ hra ?_)
                      | (with_reducible refine gate ?_; refine wp_store_att rfl _ _ rfl w.heap.size _ _ _ _ _ rfl rfl hres rfl ?_; intro w2 hw2 hu2))
                    refine bodyPost_ret (v := .tuple #[.agg _, _, _]) (res_whole3 Tryz.results111 _ _ w.heap.size rfl _ _ hw2 Tryz.underlying42 rfl attSize _ _ rfl rfl) rfl ⟨?_, ?_⟩
                    · rw [← HR5.out]; exact AttRes.err
                    · exact HB5.trans (hu2.below (Nat.le_refl _) HB5.size)
                  | ok v =>
                    rw [hcc] at c8 hr
                    simp only at hr
                    simp only [contR] at c8
                    rw [if_neg (by omega)] at hr
                    have t9 : ((Z : Int) == (l.length : Int)) = false := by rw [beq_eq_false_iff_ne]; omega
                    have hgz : l.getD Z 0 = l[Z] := by rw [List.getD_eq_getElem?_getD, List.getElem?_eq_getElem (by omega)]; rfl
                    rw [hgz] at hr
                    rw [if_pos HZ60.out] at hr
                    have t10 : ((l[Z].toNat : Int) == 60) = true := by rw [HZ60.out]; rfl
                    clear hgz
                    have C8 := Lib.hid c8
                    have HR5 := Lib.hid hr
                    clear c8 hr hcc HR4
                    go_wp2_with fail
                    go_quiet (fail)
                    go_wp2_with fail
                    refine (C8.out _).mono ?_
                    rintro e w5 ⟨rfl, hb5⟩
                    have A5 := Atb.below (w := wr.drewN _) ⟨A3.out.res, A3.out.att⟩ hb5
                    have HB5 := HB3.out.trans ((below_undrewN hb5).mono hsz)
                    clear hb5
                    have hra := A5.range
                    have hres := A5.res
                    go_wp2_with (first
                      | (with_reducible refine gate ?_; refine wp_load_att rfl _ rfl (w.heap.size + 1) 0 rfl _ hra ?_)
                      | (with_reducible refine gate ?_; refine wp_store_att rfl _ _ rfl w.heap.size _ _ _ _ _ rfl rfl hres rfl ?_; intro w2 hw2 hu2))
                    refine bodyPost_ret (v := .tuple #[.agg _, _, _]) (res_whole3 Tryz.results111 _ _ w.heap.size rfl _ _ hw2 Tryz.underlying42 rfl attSize _ _ rfl rfl) rfl ⟨?_, ?_⟩
                    · rw [← HR5.out]; exact AttRes.err
                    · exact HB5.trans (hu2.below (Nat.le_refl _) HB5.size)
                · have t3 : ((l[z].toNat : Int) == 60) = false := byte_ne (k := 60) (fun e => hz60 (UInt8.toNat_inj.1 e))
                  have t4 : ((l[z].toNat : Int) != 60) = true := by rw [bne, t3]; rfl
                  have HN := Lib.hid (HZZ.out.symm.trans (valEnd_yes hz1 hzq hz60))
                  clear hzq hz60 t1 t3
                  go_wp2_with fail
                  go_quiet (fail)
                  go_wp2
                  go_roundw
                  case rel => exact ⟨z + 1, by omega, by omega, by go_num, HN.out.symm, ⟨A3.out.res, A3.out.att⟩, below_drewN6 HB3.out _⟩
                  case measure => simp [intOf]; omega
            · have i4 : decide ((z : Int) < l.length) = false := by simp; omega
              have i5 : ¬ (z : Int) < l.length := by omega
              have hzl : z = l.length := by omega
              have HZL := Lib.hid hzl
              clear hzl
              obtain rfl : Z = z := by
                have h := HZZ.out
                rw [HZL.out, valEnd_end] at h
                first | exact h.symm | exact h.symm.trans HZL.out.symm
              clear HZZ
              have c8 := fun w => refContent_any true l (y + 1) Z w (by omega) hz hl
              have hr := HR4.out
              cases hcc : cont true l (y + 1) Z with
              | error m =>
                rw [hcc] at c8 hr
                simp only [contR] at c8
                have C8 := Lib.hid c8
                have HR5 := Lib.hid hr
                clear c8 hr hcc HR4
                go_wp2_with fail
                go_quiet (fail)
                go_wp2_with fail
                refine (C8.out _).mono ?_
                rintro e w5 ⟨rfl, hb5⟩
                have A5 := Atb.below (w := wr.drewN _) ⟨A3.out.res, A3.out.att⟩ hb5
                have HB5 := HB3.out.trans ((below_undrewN hb5).mono hsz)
                have hra := A5.range
                have hres := A5.res
                clear hb5
                go_wp2_with (first
                  | (with_reducible refine gate ?_; refine wp_load_att rfl _ rfl (w.heap.size + 1) 0 rfl _ hra ?_)
                  | (with_reducible refine gate ?_; refine wp_store_att rfl _ _ rfl w.heap.size _ _ _ _ _ rfl rfl hres rfl ?_; intro w2 hw2 hu2))
                refine bodyPost_ret (v := .tuple #[.agg _, _, _]) (res_whole3 Tryz.results111 _ _ w.heap.size rfl _ _ hw2 Tryz.underlying42 rfl attSize _ _ rfl rfl) rfl ⟨?_, ?_⟩
                · rw [← HR5.out]; exact AttRes.err
                · exact HB5.trans (hu2.below (Nat.le_refl _) HB5.size)
              | ok v =>
                rw [hcc] at c8 hr
                simp only at hr
                simp only [contR] at c8
                rw [if_pos HZL.out] at hr
                have t9 : ((Z : Int) == (l.length : Int)) = true := by rw [HZL.out]; simp
                have C8 := Lib.hid c8
                have HR5 := Lib.hid hr
                clear c8 hr hcc HR4
                go_wp2_with fail
                go_quiet (fail)
                go_wp2_with fail
                refine (C8.out _).mono ?_
                rintro e w5 ⟨rfl, hb5⟩
                have A5 := Atb.below (w := wr.drewN _) ⟨A3.out.res, A3.out.att⟩ hb5
                have HB5 := HB3.out.trans ((below_undrewN hb5).mono hsz)
                clear hb5
                have hra := A5.range
                have hres := A5.res
                go_wp2_with (first
                  | (with_reducible refine gate ?_; refine wp_load_att rfl _ rfl (w.heap.size + 1) 0 rfl _ hra ?_)
                  | (with_reducible refine gate ?_; refine wp_store_att rfl _ _ rfl w.heap.size _ _ _ _ _ rfl rfl hres rfl ?_; intro w2 hw2 hu2))
                refine bodyPost_ret (v := .tuple #[.agg _, _, _]) (res_whole3 Tryz.results111 _ _ w.heap.size rfl _ _ hw2 Tryz.underlying42 rfl attSize _ _ rfl rfl) rfl ⟨?_, ?_⟩
                · rw [← HR5.out]; exact AttRes.err
                · exact HB5.trans (hu2.below (Nat.le_refl _) HB5.size)
end Go.Proofs.YthbfahbjfioghaaGreatDoor
