/-
  Several texts in one file, in build order:
  - Walks of chapter 6: the reference's attr.
  - Walks of chapter 6: the reference's end and skip.
  - Walk of chapter 6: the reference's start.
-/
import Derived.Test.YtclhdppppgjgfaaGreatDoorH6
import Derived.Test.YtclhdppppgjgfaaGreatDoorH7
import Derived.Laws.ResultCell
import Derived.Deep.QuietTactic
import Derived.BigQuiet
import Derived.Test.YtclhdppppgjgfaaGreatDoorH3
import Derived.StillTailTactics
import Derived.RegionTactic
set_option linter.unusedVariables false
namespace Go.Proofs.YtclhdppppgjgfaaGreatDoor
open Go.RowKit

/-- A struct result that lies in a block, and two numbers. -/
theorem res_whole3 {P : Program} {fn : Func} {p q r : Tmp} {ty : TypeId} (h : fn.results = #[.cell p ty, .tmp q, .tmp r]) (tmps : Array Value) (w : World) (g : Nat) (ht : tmps.getD p undef = .pointer (some ⟨g, 0, none⟩)) (t : TypeId) (cells : Array Value) (hg : w.heap[g]? = some (.cells cells t (0, 0)))
    {d : TypeDesc} (hu : P.underlying ty = some d) (hd : d.isRow = true) (hi : (P.info? ty).map (·.size) = some cells.size) (x y : Value) (hx : tmps.getD q undef = x) (hy : tmps.getD r undef = y) : (results fn tmps).run P w = .ok (.tuple #[.agg cells, x, y]) w := by
  have hc : w.rangeAt g 0 cells.toList := fun j v hv => by rw [Nat.zero_add, Lib.cell_of_heap hg]; simpa using hv
  have hl := run_loadVar_mid (P := P) w g 0 ty cells.toList d hc hu hd (by simpa using hi)
  rw [Array.toArray_toList] at hl
  subst hx hy
  have ht' : tmps[p]?.getD undef = .pointer (some ⟨g, 0, none⟩) := by simpa using ht
  simp only [results, h]
  simp [ht', asAddr, hl]

/-- What attr returns. -/
def AttRes (r : Except (Nat × Nat) (Att × Nat)) (e : Ending) : Prop :=
  match r with
  | .error p => ∃ a : Att, e = .returned (.tuple #[.agg #[.string (S a.space), .string (S a.name), .string (S a.value), .int .i64 a.pos], .int .i64 p.1, .int .i64 p.2])
  | .ok (a, k) => e = .returned (.tuple #[.agg #[.string (S a.space), .string (S a.name), .string (S a.value), .int .i64 a.pos], .int .i64 k, .int .i64 0])
theorem AttRes.err {p : Nat × Nat} {s nm t : Bytes} {q : Int} : AttRes (.error p) (.returned (.tuple #[.agg #[.string (S s), .string (S nm), .string (S t), .int .i64 q], .int .i64 p.1, .int .i64 p.2])) := ⟨⟨s, nm, t, q⟩, rfl⟩
/-- The result's cell and the attribute that is being built. -/
structure Atb (w : World) (b : Nat) (nm val : Bytes) (p : Int) : Prop where
  res : w.heap[b]? = some (.cells #[.string ⟨#[]⟩, .string ⟨#[]⟩, .string ⟨#[]⟩, .int .i64 0] 39 (0, 0))
  att : w.heap[b + 1]? = some (.cells #[.string (S []), .string (S nm), .string (S val), .int .i64 p] 39 (0, 0))
section
variable {w w' : World} {b : Nat} {nm val : Bytes} {p : Int}
theorem Atb.below (h : Atb w b nm val p) (hb : Below w.heap.size w w') : Atb w' b nm val p :=
  ⟨(hb.block _ (heap_lt h.res)).trans h.res, (hb.block _ (heap_lt h.att)).trans h.att⟩
theorem Atb.c1 (h : Atb w b nm val p) : w.cell? ⟨b + 1, 1, none⟩ = some (.string (S nm)) := by rw [Lib.cell_of_heap h.att]; rfl
theorem Atb.c2 (h : Atb w b nm val p) : w.cell? ⟨b + 1, 2, none⟩ = some (.string (S val)) := by rw [Lib.cell_of_heap h.att]; rfl
theorem Atb.free (h : Atb w b nm val p) (i : Nat) : w.frozen? ⟨b + 1, i, none⟩ = false := Lib.frozen_of_heap h.att i
theorem Atb.name (h : Atb w b nm val p) (x : Bytes) : Atb (w.setCell ⟨b + 1, 1, none⟩ (.string (S x))) b x val p := by
  refine ⟨(Below.heap_setCell _ _ _ _ (by simp)).trans h.res, ?_⟩
  have := h.att
  simp [World.setCell, Array.getElem?_modify, this]
theorem Atb.value (h : Atb w b nm val p) (x : Bytes) : Atb (w.setCell ⟨b + 1, 2, none⟩ (.string (S x))) b nm x p := by
  refine ⟨(Below.heap_setCell _ _ _ _ (by simp)).trans h.res, ?_⟩
  have := h.att
  simp [World.setCell, Array.getElem?_modify, this]
theorem Atb.range (h : Atb w b nm val p) : w.rangeAt (b + 1) 0 (attCells ⟨[], nm, val, p⟩) := range_of_heap (cs := attCells ⟨[], nm, val, p⟩) h.att
theorem Atb.new (w : World) (p : Int) : Atb ((w.alloc (.cells #[.string ⟨#[]⟩, .string ⟨#[]⟩, .string ⟨#[]⟩, .int .i64 0] 39)).alloc (.cells #[.string ⟨#[]⟩, .string ⟨#[]⟩, .string ⟨#[]⟩, .int .i64 p] 39)) w.heap.size [] [] p :=
  ⟨(Below.heap_alloc _ _ _ (by simp)).trans (heap_alloc_new w _), by have := heap_alloc_new (w.alloc (.cells #[.string ⟨#[]⟩, .string ⟨#[]⟩, .string ⟨#[]⟩, .int .i64 0] 39)) (.cells #[.string ⟨#[]⟩, .string ⟨#[]⟩, .string ⟨#[]⟩, .int .i64 p] 39); simpa [S] using this⟩
end
theorem wp_store_att {ops : Array Oper} {rest : List Oper} {o : Oper} {a : Act} {w : World} {Q : Exit → Act → World → Prop} (hgd : o.guard = none) (x y : Operand) (ho : o.op = .store 39 x y)
    (g : Nat) (cur : Array Value) (s nm t : ByteArray) (p : Int) (hx : a.eval x = .pointer (some ⟨g, 0, none⟩)) (hy : a.eval y = .agg #[.string s, .string nm, .string t, .int .i64 p])
    (hg : w.heap[g]? = some (.cells cur 39 (0, 0))) (hs : cur.size = 4)
    (h : ∀ w', w'.heap[g]? = some (.cells #[.string s, .string nm, .string t, .int .i64 p] 39 (0, 0)) → Upd g w w' → wpList Tryz.prog ops Q rest (a.put o.dst undef) w') : wpList Tryz.prog ops Q (o :: rest) a w :=
  wp_store_whole hgd 39 x y ho g 39 cur _ hx hy hg (by rw [hs]; rfl) attSize (by simp [Value.oneCell']) h
theorem below_drewN6 {B : Nat} {w w' : World} (h : Below B w w') (n : Nat) : Below B w (w'.drewN n) := ⟨h.os, h.tape, h.output, h.size, h.block⟩
theorem below_undrewN {B n : Nat} {w w' : World} (h : Below B (w.drewN n) w') : Below B w w' := ⟨h.os, h.tape, h.output, h.size, h.block⟩
theorem AttRes.fine {nm v : Bytes} {n : Int} {k : Nat} {i : Int} (h : i = (k : Int)) : AttRes (.ok (⟨[], nm, v, n⟩, k)) (.returned (.tuple #[.agg #[.string (S []), .string (S nm), .string (S v), .int .i64 n], .int .i64 i, .int .i64 0])) := by
  subst h; rfl

set_option maxHeartbeats 3000000 in
set_option maxRecDepth 100000 in
theorem refAttr_any (l : Bytes) (a n : Nat) (w : World) (hn : n ≤ l.length) (ha : a ≤ l.length) (hl : l.length ≤ 1099511627776) :
    Calls Tryz.prog 121 #[.string (S l), .int .i64 a, .int .i64 n] w fun e w' => AttRes (attAt l a n) e ∧ Below w.heap.size w w' := by
  obtain ⟨R, hR⟩ : ∃ R, attAt l a n = R := ⟨_, rfl⟩
  rw [hR]
  unfold attAt at hR
  have hk := nameLen_le (l.drop n)
  rw [List.length_drop] at hk
  have c1 := fun w => refName_any l n w (by omega) hn
  obtain ⟨k, hkk⟩ : ∃ k, nameLen (l.drop n) = k := ⟨_, rfl⟩
  rw [hkk] at hR hk c1
  have h0 := Atb.new w n
  have H0 := Lib.hid h0
  have HBa := Lib.hid (show Below w.heap.size w ((w.alloc (.cells #[.string ⟨#[]⟩, .string ⟨#[]⟩, .string ⟨#[]⟩, .int .i64 0] 39)).alloc (.cells #[.string ⟨#[]⟩, .string ⟨#[]⟩, .string ⟨#[]⟩, .int .i64 n] 39)) from ((Below.refl _ _).alloc (Nat.le_refl _) _).alloc (by simp) _)
  have C1 := Lib.hid c1
  have HR := Lib.hid hR
  clear h0 c1 hR hkk
  have hkn : (n : Int) + k ≤ l.length := by omega
  go_enter Tryz.func121, Tryz.ntmps121
  go_wp2_with fail
  refine (C1.out _).mono ?_
  rintro e w1 ⟨rfl, hb1⟩
  have A1 := H0.out.below hb1
  have HB1 := HBa.out.trans (hb1.mono HBa.out.size)
  clear hb1
  by_cases hk0 : k = 0
  · have hr := HR.out
    rw [if_pos hk0] at hr
    have c2 := fun w => refMissing_any l a n w (by omega)
    subst hk0
    have C2 := Lib.hid c2
    have HRR := Lib.hid hr
    have ht : ((n : Int) == (n : Int)) = true := by simp
    clear hr c2
    go_wp2_with fail
    have hra := A1.range
    have hres := A1.res
    generalize (missing l a n) = M at *
    go_wp2_with (first
      | (go_at_call 120; refine (C2.out _).mono ?_; rintro e w' ⟨rfl, rfl⟩)
      | (with_reducible refine gate ?_; refine wp_load_att rfl _ rfl (w.heap.size + 1) 0 rfl _ hra ?_)
      | (with_reducible refine gate ?_; refine wp_store_att rfl _ _ rfl w.heap.size _ _ _ _ _ rfl rfl hres rfl ?_; intro w2 hw2 hu2))
    refine bodyPost_ret (v := .tuple #[.agg _, _, _]) (res_whole3 Tryz.results121 _ _ w.heap.size rfl _ _ hw2 Tryz.underlying39 rfl attSize _ _ rfl rfl) rfl ⟨?_, ?_⟩
    · rw [← HRR.out]; exact AttRes.err
    · exact HB1.trans (hu2.below (Nat.le_refl _) HB1.size)
  · have hr := HR.out
    rw [if_neg hk0] at hr
    have ht : ((n : Int) + k == (n : Int)) = false := by rw [beq_eq_false_iff_ne]; omega
    have e3 : ((n : Int) + k).toNat = n + k := by omega
    have e4 : (n : Int) ≤ (n : Int) + k := by omega
    have c2 := fun w => refSpaces_any l (n + k) w (by omega) (by omega)
    rw [Int.natCast_add] at c2
    have s1 := spEnd_ge l (n + k)
    have s2 := spEnd_le (l := l) (n := n + k) (by omega)
    obtain ⟨x, hx⟩ : ∃ x, spEnd l (n + k) = x := ⟨_, rfl⟩
    rw [hx] at hr c2 s1 s2
    have C2 := Lib.hid c2
    have HR2 := Lib.hid hr
    have hc1 := A1.c1
    have hf1 := A1.free 1
    have A2 := Lib.hid (A1.name ((l.drop n).take k))
    have HB2 := Lib.hid (HB1.setCell (p := ⟨w.heap.size + 1, 1, none⟩) (by simp) (.string (S ((l.drop n).take k))))
    clear hr c2 hx HR C1 H0 HBa
    go_wp2_with fail
    generalize hnm : (l.drop n).take k = nm at *
    generalize w1.setCell ⟨w.heap.size + 1, 1, none⟩ (.string (S nm)) = W2 at *
    clear hnm hc1 hf1 A1 HB1
    refine (C2.out _).mono ?_
    rintro e w' ⟨rfl, rfl⟩
    have c3 := fun w => refHas_any l x [61] w (by omega) (by omega) (by decide) (by simp)
    cases hb : hasAt l x [61]
    · have hr := HR2.out
      rw [hb, if_pos rfl] at hr
      rw [hb] at c3
      have C3 := Lib.hid c3
      have HR3 := Lib.hid hr
      have c4 := fun w => refMissing_any l a x w (by omega)
      have C4 := Lib.hid c4
      clear hr c3 c4 hb HR2
      generalize (missing l a x) = M at *
      have hra := A2.out.range
      have hres := A2.out.res
      go_wp2_with (first
        | (go_at_call 64; refine (C3.out _).mono ?_; rintro e w' ⟨rfl, rfl⟩)
        | (go_at_call 120; refine (C4.out _).mono ?_; rintro e w' ⟨rfl, rfl⟩)
        | (with_reducible refine gate ?_; refine wp_load_att rfl _ rfl (w.heap.size + 1) 0 rfl _ hra ?_)
        | (with_reducible refine gate ?_; refine wp_store_att rfl _ _ rfl w.heap.size _ _ _ _ _ rfl rfl hres rfl ?_; intro w2 hw2 hu2))
      refine bodyPost_ret (v := .tuple #[.agg _, _, _]) (res_whole3 Tryz.results121 _ _ w.heap.size rfl _ _ hw2 Tryz.underlying39 rfl attSize _ _ rfl rfl) rfl ⟨?_, ?_⟩
      · rw [← HR3.out]; exact AttRes.err
      · exact HB2.out.trans (hu2.below (Nat.le_refl _) HB2.out.size)
    · have hr := HR2.out
      rw [hb, if_neg (by decide)] at hr
      rw [hb] at c3
      have hx1 : x + 1 ≤ l.length := by
        have := hasAt_le hb
        simp at this; omega
      have c4 := fun w => refSpaces_any l (x + 1) w (by omega) hx1
      rw [Int.natCast_add] at c4
      have s3 := spEnd_ge l (x + 1)
      have s4 := spEnd_le (l := l) hx1
      obtain ⟨y, hy⟩ : ∃ y, spEnd l (x + 1) = y := ⟨_, rfl⟩
      rw [hy] at hr c4 s3 s4
      have C3 := Lib.hid c3
      have C4 := Lib.hid c4
      have HR3 := Lib.hid hr
      have c5 : ∀ w, Calls Tryz.prog 64 #[.string (S l), .int .i64 y, .string ⟨#[34]⟩] w fun e w' => e = .returned (.bool (hasAt l y [34])) ∧ w = w' := fun w => refHas_any l y [34] w (by omega) (by omega) (by decide) (by simp)
      have c6 : ∀ w, Calls Tryz.prog 64 #[.string (S l), .int .i64 y, .string ⟨#[39]⟩] w fun e w' => e = .returned (.bool (hasAt l y [39])) ∧ w = w' := fun w => refHas_any l y [39] w (by omega) (by omega) (by decide) (by simp)
      clear hr c3 c4 hb HR2 hy C2
      go_wp2_with fail
      refine (C3.out _).mono ?_
      rintro e w' ⟨rfl, rfl⟩
      go_wp2_with fail
      refine (C4.out _).mono ?_
      rintro e w' ⟨rfl, rfl⟩
      by_cases hq0 : hasAt l y [34] = false ∧ hasAt l y [39] = false
      · have hr := HR3.out
        rw [if_pos (by unfold isQuote; rw [hq0.1, hq0.2]; rfl)] at hr
        rw [hq0.1] at c5
        rw [hq0.2] at c6
        have C5 := Lib.hid c5
        have C6 := Lib.hid c6
        have HR4 := Lib.hid hr
        have c7 := fun w => refMissing_any l a y w (by omega)
        have C7 := Lib.hid c7
        clear hr c5 c6 c7 hq0 HR3
        generalize (missing l a y) = M at *
        have hra := A2.out.range
        have hres := A2.out.res
        go_wp2_with (first
          | (go_at_call 64; first | (with_reducible refine (C5.out _).mono ?_; rintro e w' ⟨rfl, rfl⟩) | (with_reducible refine (C6.out _).mono ?_; rintro e w' ⟨rfl, rfl⟩))
          | (go_at_call 120; refine (C7.out _).mono ?_; rintro e w' ⟨rfl, rfl⟩)
          | (with_reducible refine gate ?_; refine wp_load_att rfl _ rfl (w.heap.size + 1) 0 rfl _ hra ?_)
          | (with_reducible refine gate ?_; refine wp_store_att rfl _ _ rfl w.heap.size _ _ _ _ _ rfl rfl hres rfl ?_; intro w2 hw2 hu2))
        refine bodyPost_ret (v := .tuple #[.agg _, _, _]) (res_whole3 Tryz.results121 _ _ w.heap.size rfl _ _ hw2 Tryz.underlying39 rfl attSize _ _ rfl rfl) rfl ⟨?_, ?_⟩
        · rw [← HR4.out]; exact AttRes.err
        · exact HB2.out.trans (hu2.below (Nat.le_refl _) HB2.out.size)
      · have hr := HR3.out
        have hqt : isQuote l y = true := by
          unfold isQuote
          cases h5 : hasAt l y [34] <;> cases h6 : hasAt l y [39] <;> simp_all
        rw [if_neg (by rw [hqt]; decide)] at hr
        have hy1 : y + 1 ≤ l.length := by
          unfold isQuote at hqt
          have h4 : hasAt l y [34] = true ∨ hasAt l y [39] = true := by
            cases h5 : hasAt l y [34] <;> cases h6 : hasAt l y [39] <;> simp_all
          rcases h4 with h4 | h4
          all_goals
            have := hasAt_le h4
            simp at this; omega
        have hgq : l.getD y 0 = l[y] := by rw [List.getD_eq_getElem?_getD, List.getElem?_eq_getElem (by omega)]; rfl
        rw [hgq] at hr
        have v1 := valEnd_ge l l[y] (y + 1)
        have v2 := valEnd_le (q := l[y]) hy1
        unfold valAt at hr
        obtain ⟨Z, hZ⟩ : ∃ Z, valEnd l l[y] (y + 1) = Z := ⟨_, rfl⟩
        rw [hZ] at hr v1 v2
        have HR4 := Lib.hid hr
        have HZ := Lib.hid hZ
        have hl5 : ((y : Int) + 1) ≤ l.length := by omega
        have hcases : (hasAt l y [34] = true) ∨ (hasAt l y [34] = false ∧ hasAt l y [39] = true) := by
          cases h5 : hasAt l y [34] <;> cases h6 : hasAt l y [39] <;> simp_all
        clear hr hqt hZ hq0 hgq HR3
        have hq60 : l[y] ≠ 60 := by
          have h4 : hasAt l y [34] = true ∨ hasAt l y [39] = true := by rcases hcases with h | h <;> simp_all
          rcases h4 with h4 | h4
          all_goals
            obtain ⟨_, h7⟩ := has_one.1 h4
            rw [h7]; decide
        have HQ := Lib.hid hq60
        clear hq60
        rcases hcases with h5 | ⟨h5, h6⟩
        all_goals
          rw [h5] at c5
          try rw [h6] at c6
          have C5 := Lib.hid c5
          have C6 := Lib.hid c6
          clear c5 c6 h5
          try clear h6
          go_wp2_with (go_at_call 64; first | (with_reducible refine (C5.out _).mono ?_; rintro e w' ⟨rfl, rfl⟩) | (with_reducible refine (C6.out _).mono ?_; rintro e w' ⟨rfl, rfl⟩))
          go_loopw [10] (fun i10 wr => ∃ z : Nat, y + 1 ≤ z ∧ z ≤ l.length ∧ i10 = .int .i64 z ∧ valEnd l l[y] z = Z ∧ Atb wr w.heap.size nm [] n ∧ Below w.heap.size w wr) (fun i10 _ => l.length - (intOf i10).toNat)
          case atStart => exact ⟨y + 1, by omega, by omega, by go_num, HZ.out, A2.out, HB2.out⟩
          case round =>
            clear A2 HB2 C5 C6
            obtain ⟨z, hyz, hz, rfl, hzz, hA, hB⟩ := hrel
            have HZZ := Lib.hid hzz
            have A3 := Lib.hid hA
            have HB3 := Lib.hid hB
            have hsz := hB.size
            clear hzz hA hB
            have i1 : (y : Int) < l.length := by omega
            have i2 : (0 : Int) ≤ y := by omega
            by_cases hz1 : z < l.length
            · have i3 : (z : Int) < l.length := by omega
              have i4 : decide ((z : Int) < l.length) = true := by simp; omega
              by_cases hzq : l[z] = l[y]
              · have t1 : ((l[z].toNat : Int) == (l[y].toNat : Int)) = true := by rw [hzq]; simp
                have t2 : ((l[z].toNat : Int) != (l[y].toNat : Int)) = false := by rw [bne, t1]; rfl
                have hn60 : l[z] ≠ 60 := by rw [hzq]; exact HQ.out
                have HZQ := Lib.hid hzq
                clear hzq
                obtain rfl : Z = z := by
                  have h := HZZ.out
                  rw [valEnd_no hz1 (.inl HZQ.out)] at h
                  first | exact h.symm | exact h.symm.trans HZL.out.symm
                clear HZZ
                have c8 := fun w => refContent_any true l (y + 1) Z w (by omega) hz hl
                have hr := HR4.out
                cases hcc : cont true l (y + 1) Z with
                | error m =>
                  rw [hcc] at c8 hr
                  simp only [contR] at c8
                  have C8 := Lib.hid c8
                  have HR5 := Lib.hid hr
                  clear c8 hr hcc HR4
                  go_wp2_with fail
                  go_quiet (fail)
                  go_wp2_with fail
                  refine (C8.out _).mono ?_
                  rintro e w5 ⟨rfl, hb5⟩
                  have A5 := Atb.below (w := wr.drewN _) ⟨A3.out.res, A3.out.att⟩ hb5
                  have HB5 := HB3.out.trans ((below_undrewN hb5).mono hsz)
                  have hra := A5.range
                  have hres := A5.res
                  clear hb5
                  go_wp2_with (first
                    | (with_reducible refine gate ?_; refine wp_load_att rfl _ rfl (w.heap.size + 1) 0 rfl _ hra ?_)
                    | (with_reducible refine gate ?_; refine wp_store_att rfl _ _ rfl w.heap.size _ _ _ _ _ rfl rfl hres rfl ?_; intro w2 hw2 hu2))
                  refine bodyPost_ret (v := .tuple #[.agg _, _, _]) (res_whole3 Tryz.results121 _ _ w.heap.size rfl _ _ hw2 Tryz.underlying39 rfl attSize _ _ rfl rfl) rfl ⟨?_, ?_⟩
                  · rw [← HR5.out]; exact AttRes.err
                  · exact HB5.trans (hu2.below (Nat.le_refl _) HB5.size)
                | ok v =>
                  rw [hcc] at c8 hr
                  simp only at hr
                  simp only [contR] at c8
                  rw [if_neg (by omega)] at hr
                  have t9 : ((Z : Int) == (l.length : Int)) = false := by rw [beq_eq_false_iff_ne]; omega
                  have hgz : l.getD Z 0 = l[Z] := by rw [List.getD_eq_getElem?_getD, List.getElem?_eq_getElem (by omega)]; rfl
                  rw [hgz] at hr
                  rw [if_neg hn60] at hr
                  have t10 : ((l[Z].toNat : Int) == 60) = false := byte_ne (k := 60) (fun e => hn60 (UInt8.toNat_inj.1 e))
                  clear hgz
                  have C8 := Lib.hid c8
                  have HR5 := Lib.hid hr
                  clear c8 hr hcc HR4
                  go_wp2_with fail
                  go_quiet (fail)
                  go_wp2_with fail
                  refine (C8.out _).mono ?_
                  rintro e w5 ⟨rfl, hb5⟩
                  have A5 := Atb.below (w := wr.drewN _) ⟨A3.out.res, A3.out.att⟩ hb5
                  have HB5 := HB3.out.trans ((below_undrewN hb5).mono hsz)
                  clear hb5
                  have hc2 := A5.c2
                  have hf2 := A5.free 2
                  have A6 := Lib.hid (A5.value v)
                  have HB6 := Lib.hid (HB5.setCell (p := ⟨w.heap.size + 1, 2, none⟩) (by simp) (.string (S v)))
                  have hra := A6.out.range
                  have hres := A6.out.res
                  go_wp2_with (first
                    | (with_reducible refine gate ?_; refine wp_load_att rfl _ rfl (w.heap.size + 1) 0 rfl _ hra ?_)
                    | (with_reducible refine gate ?_; refine wp_store_att rfl _ _ rfl w.heap.size _ _ _ _ _ rfl rfl hres rfl ?_; intro w2 hw2 hu2))
                  refine bodyPost_ret (v := .tuple #[.agg _, _, _]) (res_whole3 Tryz.results121 _ _ w.heap.size rfl _ _ hw2 Tryz.underlying39 rfl attSize _ _ rfl rfl) rfl ⟨?_, ?_⟩
                  · rw [← HR5.out]; exact AttRes.fine (by simp)
                  · exact HB6.out.trans (hu2.below (Nat.le_refl _) HB6.out.size)
              · have t1 : ((l[z].toNat : Int) == (l[y].toNat : Int)) = false := byte_ne (fun e => hzq (UInt8.toNat_inj.1 e))
                have t2 : ((l[z].toNat : Int) != (l[y].toNat : Int)) = true := by rw [bne, t1]; rfl
                by_cases hz60 : l[z] = 60
                · have t3 : ((l[z].toNat : Int) == 60) = true := by rw [hz60]; rfl
                  have t4 : ((l[z].toNat : Int) != 60) = false := by rw [bne, t3]; rfl
                  have HZ60 := Lib.hid hz60
                  clear hz60 hzq
                  obtain rfl : Z = z := by
                    have h := HZZ.out
                    rw [valEnd_no hz1 (.inr HZ60.out)] at h
                    first | exact h.symm | exact h.symm.trans HZL.out.symm
                  clear HZZ
                  have c8 := fun w => refContent_any true l (y + 1) Z w (by omega) hz hl
                  have hr := HR4.out
                  cases hcc : cont true l (y + 1) Z with
                  | error m =>
                    rw [hcc] at c8 hr
                    simp only [contR] at c8
                    have C8 := Lib.hid c8
                    have HR5 := Lib.hid hr
                    clear c8 hr hcc HR4
                    go_wp2_with fail
                    go_quiet (fail)
                    go_wp2_with fail
                    refine (C8.out _).mono ?_
                    rintro e w5 ⟨rfl, hb5⟩
                    have A5 := Atb.below (w := wr.drewN _) ⟨A3.out.res, A3.out.att⟩ hb5
                    have HB5 := HB3.out.trans ((below_undrewN hb5).mono hsz)
                    have hra := A5.range
                    have hres := A5.res
                    clear hb5
                    go_wp2_with (first
                      | (with_reducible refine gate ?_; refine wp_load_att rfl _ rfl (w.heap.size + 1) 0 rfl _ hra ?_)
                      | (with_reducible refine gate ?_; refine wp_store_att rfl _ _ rfl w.heap.size _ _ _ _ _ rfl rfl hres rfl ?_; intro w2 hw2 hu2))
                    refine bodyPost_ret (v := .tuple #[.agg _, _, _]) (res_whole3 Tryz.results121 _ _ w.heap.size rfl _ _ hw2 Tryz.underlying39 rfl attSize _ _ rfl rfl) rfl ⟨?_, ?_⟩
                    · rw [← HR5.out]; exact AttRes.err
                    · exact HB5.trans (hu2.below (Nat.le_refl _) HB5.size)
                  | ok v =>
                    rw [hcc] at c8 hr
                    simp only at hr
                    simp only [contR] at c8
                    rw [if_neg (by omega)] at hr
                    have t9 : ((Z : Int) == (l.length : Int)) = false := by rw [beq_eq_false_iff_ne]; omega
                    have hgz : l.getD Z 0 = l[Z] := by rw [List.getD_eq_getElem?_getD, List.getElem?_eq_getElem (by omega)]; rfl
                    rw [hgz] at hr
                    rw [if_pos HZ60.out] at hr
                    have t10 : ((l[Z].toNat : Int) == 60) = true := by rw [HZ60.out]; rfl
                    clear hgz
                    have C8 := Lib.hid c8
                    have HR5 := Lib.hid hr
                    clear c8 hr hcc HR4
                    go_wp2_with fail
                    go_quiet (fail)
                    go_wp2_with fail
                    refine (C8.out _).mono ?_
                    rintro e w5 ⟨rfl, hb5⟩
                    have A5 := Atb.below (w := wr.drewN _) ⟨A3.out.res, A3.out.att⟩ hb5
                    have HB5 := HB3.out.trans ((below_undrewN hb5).mono hsz)
                    clear hb5
                    have hra := A5.range
                    have hres := A5.res
                    go_wp2_with (first
                      | (with_reducible refine gate ?_; refine wp_load_att rfl _ rfl (w.heap.size + 1) 0 rfl _ hra ?_)
                      | (with_reducible refine gate ?_; refine wp_store_att rfl _ _ rfl w.heap.size _ _ _ _ _ rfl rfl hres rfl ?_; intro w2 hw2 hu2))
                    refine bodyPost_ret (v := .tuple #[.agg _, _, _]) (res_whole3 Tryz.results121 _ _ w.heap.size rfl _ _ hw2 Tryz.underlying39 rfl attSize _ _ rfl rfl) rfl ⟨?_, ?_⟩
                    · rw [← HR5.out]; exact AttRes.err
                    · exact HB5.trans (hu2.below (Nat.le_refl _) HB5.size)
                · have t3 : ((l[z].toNat : Int) == 60) = false := byte_ne (k := 60) (fun e => hz60 (UInt8.toNat_inj.1 e))
                  have t4 : ((l[z].toNat : Int) != 60) = true := by rw [bne, t3]; rfl
                  have HN := Lib.hid (HZZ.out.symm.trans (valEnd_yes hz1 hzq hz60))
                  clear hzq hz60 t1 t3
                  go_wp2_with fail
                  go_quiet (fail)
                  go_wp2
                  go_roundw
                  case rel => exact ⟨z + 1, by omega, by omega, by go_num, HN.out.symm, ⟨A3.out.res, A3.out.att⟩, below_drewN6 HB3.out _⟩
                  case measure => simp [intOf]; omega
            · have i4 : decide ((z : Int) < l.length) = false := by simp; omega
              have i5 : ¬ (z : Int) < l.length := by omega
              have hzl : z = l.length := by omega
              have HZL := Lib.hid hzl
              clear hzl
              obtain rfl : Z = z := by
                have h := HZZ.out
                rw [HZL.out, valEnd_end] at h
                first | exact h.symm | exact h.symm.trans HZL.out.symm
              clear HZZ
              have c8 := fun w => refContent_any true l (y + 1) Z w (by omega) hz hl
              have hr := HR4.out
              cases hcc : cont true l (y + 1) Z with
              | error m =>
                rw [hcc] at c8 hr
                simp only [contR] at c8
                have C8 := Lib.hid c8
                have HR5 := Lib.hid hr
                clear c8 hr hcc HR4
                go_wp2_with fail
                go_quiet (fail)
                go_wp2_with fail
                refine (C8.out _).mono ?_
                rintro e w5 ⟨rfl, hb5⟩
                have A5 := Atb.below (w := wr.drewN _) ⟨A3.out.res, A3.out.att⟩ hb5
                have HB5 := HB3.out.trans ((below_undrewN hb5).mono hsz)
                have hra := A5.range
                have hres := A5.res
                clear hb5
                go_wp2_with (first
                  | (with_reducible refine gate ?_; refine wp_load_att rfl _ rfl (w.heap.size + 1) 0 rfl _ hra ?_)
                  | (with_reducible refine gate ?_; refine wp_store_att rfl _ _ rfl w.heap.size _ _ _ _ _ rfl rfl hres rfl ?_; intro w2 hw2 hu2))
                refine bodyPost_ret (v := .tuple #[.agg _, _, _]) (res_whole3 Tryz.results121 _ _ w.heap.size rfl _ _ hw2 Tryz.underlying39 rfl attSize _ _ rfl rfl) rfl ⟨?_, ?_⟩
                · rw [← HR5.out]; exact AttRes.err
                · exact HB5.trans (hu2.below (Nat.le_refl _) HB5.size)
              | ok v =>
                rw [hcc] at c8 hr
                simp only at hr
                simp only [contR] at c8
                rw [if_pos HZL.out] at hr
                have t9 : ((Z : Int) == (l.length : Int)) = true := by rw [HZL.out]; simp
                have C8 := Lib.hid c8
                have HR5 := Lib.hid hr
                clear c8 hr hcc HR4
                go_wp2_with fail
                go_quiet (fail)
                go_wp2_with fail
                refine (C8.out _).mono ?_
                rintro e w5 ⟨rfl, hb5⟩
                have A5 := Atb.below (w := wr.drewN _) ⟨A3.out.res, A3.out.att⟩ hb5
                have HB5 := HB3.out.trans ((below_undrewN hb5).mono hsz)
                clear hb5
                have hra := A5.range
                have hres := A5.res
                go_wp2_with (first
                  | (with_reducible refine gate ?_; refine wp_load_att rfl _ rfl (w.heap.size + 1) 0 rfl _ hra ?_)
                  | (with_reducible refine gate ?_; refine wp_store_att rfl _ _ rfl w.heap.size _ _ _ _ _ rfl rfl hres rfl ?_; intro w2 hw2 hu2))
                refine bodyPost_ret (v := .tuple #[.agg _, _, _]) (res_whole3 Tryz.results121 _ _ w.heap.size rfl _ _ hw2 Tryz.underlying39 rfl attSize _ _ rfl rfl) rfl ⟨?_, ?_⟩
                · rw [← HR5.out]; exact AttRes.err
                · exact HB5.trans (hu2.below (Nat.le_refl _) HB5.size)
end Go.Proofs.YtclhdppppgjgfaaGreatDoor
set_option linter.unusedVariables false
namespace Go.Proofs.YtclhdppppgjgfaaGreatDoor
open Go.RowKit

theorem refTokTy : TokTy 62 56 := ⟨by kernel_rfl, by kernel_rfl, ⟨_, Tryz.underlying62, rfl⟩⟩
/-- The cells of a token. -/
abbrev tokCells (t : Tok) (A : Option Addr) (c : Nat) : Array Value := #[.int .i64 t.kind, .string (S t.name), .slice A t.attrs.length c, .bool t.empty, .string (S t.text), .int .i64 t.pos]
/-- What start, end and construct return. -/
def TokRes (w' : World) (p : Nat → Prop) (r : Except (Nat × Nat) (Tok × Nat)) (e : Ending) : Prop :=
  match r with
  | .error q => ∃ t A c, e = .returned (.tuple #[.agg (tokCells t A c), .int .i64 q.1, .int .i64 q.2])
  | .ok (t, k) => ∃ A c, e = .returned (.tuple #[.agg (tokCells t A c), .int .i64 k, .int .i64 0]) ∧ AttsP w' p (.slice A t.attrs.length c) t.attrs
theorem TokRes.err {w' : World} {p : Nat → Prop} {q : Nat × Nat} {t : Tok} {A : Option Addr} {c : Nat} : TokRes w' p (.error q) (.returned (.tuple #[.agg (tokCells t A c), .int .i64 q.1, .int .i64 q.2])) := ⟨t, A, c, rfl⟩
theorem TokRes.fine {w' : World} {p : Nat → Prop} {t : Tok} {k : Nat} {i : Int} {A : Option Addr} {c : Nat} (hi : i = (k : Int)) (h : AttsP w' p (.slice A t.attrs.length c) t.attrs) : TokRes w' p (.ok (t, k)) (.returned (.tuple #[.agg (tokCells t A c), .int .i64 i, .int .i64 0])) := by
  subst hi; exact ⟨A, c, rfl, h⟩
theorem AttsP.none (w : World) (p : Nat → Prop) : AttsP w p (.slice Option.none 0 0) [] := ⟨Option.none, 0, rfl, Nat.le_refl _, .inl rfl⟩

abbrev zTokC : Array Value := #[.int .i64 0, .string ⟨#[]⟩, .slice none 0 0, .bool false, .string ⟨#[]⟩, .int .i64 0]
/-- The result's cell and the token that is being built. -/
structure Tkb (w : World) (b : Nat) (k : Int) (nm : Bytes) (A : Option Addr) (n c : Nat) (em : Bool) (p : Int) : Prop where
  res : w.heap[b]? = some (.cells zTokC 62 (0, 0))
  tok : w.heap[b + 1]? = some (.cells #[.int .i64 k, .string (S nm), .slice A n c, .bool em, .string (S []), .int .i64 p] 62 (0, 0))
section
variable {w w' : World} {b : Nat} {k : Int} {nm : Bytes} {A : Option Addr} {n c : Nat} {em : Bool} {p : Int}
theorem Tkb.below (h : Tkb w b k nm A n c em p) (hb : Below w.heap.size w w') : Tkb w' b k nm A n c em p :=
  ⟨(hb.block _ (heap_lt h.res)).trans h.res, (hb.block _ (heap_lt h.tok)).trans h.tok⟩
theorem Tkb.below2 (h : Tkb w b k nm A n c em p) (hb : Below (b + 2) w w') : Tkb w' b k nm A n c em p :=
  ⟨(hb.block _ (by omega)).trans h.res, (hb.block _ (by omega)).trans h.tok⟩
theorem Tkb.c1 (h : Tkb w b k nm A n c em p) : w.cell? ⟨b + 1, 1, none⟩ = some (.string (S nm)) := by rw [Lib.cell_of_heap h.tok]; rfl
theorem Tkb.c2 (h : Tkb w b k nm A n c em p) : w.cell? ⟨b + 1, 2, none⟩ = some (.slice A n c) := by rw [Lib.cell_of_heap h.tok]; rfl
theorem Tkb.c3 (h : Tkb w b k nm A n c em p) : w.cell? ⟨b + 1, 3, none⟩ = some (.bool em) := by rw [Lib.cell_of_heap h.tok]; rfl
theorem Tkb.free (h : Tkb w b k nm A n c em p) (i : Nat) : w.frozen? ⟨b + 1, i, none⟩ = false := Lib.frozen_of_heap h.tok i
theorem Tkb.name (h : Tkb w b k nm A n c em p) (x : Bytes) : Tkb (w.setCell ⟨b + 1, 1, none⟩ (.string (S x))) b k x A n c em p := by
  refine ⟨(Below.heap_setCell _ _ _ _ (by simp)).trans h.res, ?_⟩
  have := h.tok
  simp [World.setCell, Array.getElem?_modify, this]
theorem Tkb.atts (h : Tkb w b k nm A n c em p) (A' : Option Addr) (n' c' : Nat) : Tkb (w.setCell ⟨b + 1, 2, none⟩ (.slice A' n' c')) b k nm A' n' c' em p := by
  refine ⟨(Below.heap_setCell _ _ _ _ (by simp)).trans h.res, ?_⟩
  have := h.tok
  simp [World.setCell, Array.getElem?_modify, this]
theorem Tkb.empt (h : Tkb w b k nm A n c em p) (x : Bool) : Tkb (w.setCell ⟨b + 1, 3, none⟩ (.bool x)) b k nm A n c x p := by
  refine ⟨(Below.heap_setCell _ _ _ _ (by simp)).trans h.res, ?_⟩
  have := h.tok
  simp [World.setCell, Array.getElem?_modify, this]
theorem Tkb.range (h : Tkb w b k nm A n c em p) : w.rangeAt (b + 1) 0 [.int .i64 k, .string (S nm), .slice A n c, .bool em, .string (S []), .int .i64 p] := range_of_heap h.tok
theorem Tkb.new (w : World) (k p : Int) : Tkb ((w.alloc (.cells zTokC 62)).alloc (.cells #[.int .i64 k, .string ⟨#[]⟩, .slice none 0 0, .bool false, .string ⟨#[]⟩, .int .i64 p] 62)) w.heap.size k [] none 0 0 false p :=
  ⟨(Below.heap_alloc _ _ _ (by simp)).trans (heap_alloc_new w _), by have := heap_alloc_new (w.alloc (.cells zTokC 62)) (.cells #[.int .i64 k, .string ⟨#[]⟩, .slice none 0 0, .bool false, .string ⟨#[]⟩, .int .i64 p] 62); simpa [S] using this⟩
end
theorem tokSize : (Tryz.prog.info? 62).map (·.size) = some 6 := by kernel_rfl
theorem wp_store_tok {ops : Array Oper} {rest : List Oper} {o : Oper} {a : Act} {w : World} {Q : Exit → Act → World → Prop} (hgd : o.guard = none) (x y : Operand) (ho : o.op = .store 62 x y)
    (g : Nat) (cur : Array Value) (k p : Int) (nm t : ByteArray) (A : Option Addr) (n c : Nat) (em : Bool) (hx : a.eval x = .pointer (some ⟨g, 0, none⟩)) (hy : a.eval y = .agg #[.int .i64 k, .string nm, .slice A n c, .bool em, .string t, .int .i64 p])
    (hg : w.heap[g]? = some (.cells cur 62 (0, 0))) (hs : cur.size = 6)
    (h : ∀ w', w'.heap[g]? = some (.cells #[.int .i64 k, .string nm, .slice A n c, .bool em, .string t, .int .i64 p] 62 (0, 0)) → Upd g w w' → wpList Tryz.prog ops Q rest (a.put o.dst undef) w') : wpList Tryz.prog ops Q (o :: rest) a w :=
  wp_store_whole hgd 62 x y ho g 62 cur _ hx hy hg (by rw [hs]; rfl) tokSize (by simp [Value.oneCell']) h

theorem ret_int2 {a b c d : Int} (h1 : a = c) (h2 : b = d) : Ending.returned (.tuple #[.int .i64 a, .int .i64 b]) = .returned (.tuple #[.int .i64 c, .int .i64 d]) := by rw [h1, h2]
/-- What skip returns. -/
def skR : Except (Nat × Nat) Nat → Nat × Nat
  | .error q => q
  | .ok e => (e, 0)
set_option maxHeartbeats 1000000 in
theorem refSkip_any (l op last : Bytes) (a : Nat) (w : World) (hl : l.length ≤ 1099511627776) (ha : a + op.length ≤ l.length) (hlast : last ≠ []) (hlen : last.length ≤ 1000000) :
    Calls Tryz.prog 93 #[.string (S l), .int .i64 a, .string (S op), .string (S last)] w fun e w' => e = .returned (.tuple #[.int .i64 (skR (skipAt l a op.length last)).1, .int .i64 (skR (skipAt l a op.length last)).2]) ∧ w = w' := by
  have c1 := fun w => refFind_any l (a + op.length) last w (by omega) ha hlen hlast
  have hfl : ∀ j, findS last (l.drop (a + op.length)) = some j → a + op.length + j + last.length ≤ l.length := fun j h => by
    have := findS_le h
    rw [List.length_drop] at this; omega
  unfold skipAt
  rw [Int.natCast_add] at c1
  cases hf : findS last (l.drop (a + op.length)) with
  | none =>
    rw [hf] at c1
    simp only [Option.map_none, optI] at c1
    simp only [skR]
    have C1 := Lib.hid c1
    clear c1 hf hfl
    go_enter Tryz.func93, Tryz.ntmps93
    go_wp2_with (go_at_call 97; refine (C1.out _).mono ?_; rintro e w' ⟨rfl, rfl⟩)
    go_ret2
    exact ⟨rfl, rfl⟩
  | some j =>
    have hj := hfl j hf
    rw [hf] at c1
    simp only [Option.map_some, optI] at c1
    simp only [skR]
    have C1 := Lib.hid c1
    clear c1 hf hfl
    go_enter Tryz.func93, Tryz.ntmps93
    go_wp2_with (go_at_call 97; refine (C1.out _).mono ?_; rintro e w' ⟨rfl, rfl⟩)
    go_ret2
    exact ⟨ret_int2 (by omega) rfl, rfl⟩

set_option maxHeartbeats 2000000 in
set_option maxRecDepth 100000 in
theorem refEnd_any (l : Bytes) (a : Nat) (w : World) (ha : a + 2 ≤ l.length) (hl : l.length ≤ 1099511627776) :
    Calls Tryz.prog 95 #[.string (S l), .int .i64 a] w fun e w' => TokRes w' (fun b => w.heap.size ≤ b ∧ b < w'.heap.size) (endAt l a) e ∧ Below w.heap.size w w' := by
  obtain ⟨R, hR⟩ : ∃ R, endAt l a = R := ⟨_, rfl⟩
  rw [hR]
  unfold endAt at hR
  have hk := nameLen_le (l.drop (a + 2))
  rw [List.length_drop] at hk
  have c1 := fun w => refName_any l (a + 2) w (by omega) ha
  obtain ⟨k, hkk⟩ : ∃ k, nameLen (l.drop (a + 2)) = k := ⟨_, rfl⟩
  rw [hkk] at hR hk c1
  rw [Int.natCast_add] at c1
  have h0 := Tkb.new w 2 a
  have H0 := Lib.hid h0
  have HBa := Lib.hid (show Below w.heap.size w ((w.alloc (.cells zTokC 62)).alloc (.cells #[.int .i64 2, .string ⟨#[]⟩, .slice none 0 0, .bool false, .string ⟨#[]⟩, .int .i64 a] 62)) from ((Below.refl _ _).alloc (Nat.le_refl _) _).alloc (by simp) _)
  have C1 := Lib.hid c1
  have HR := Lib.hid hR
  clear h0 c1 hR hkk
  have hkn : (a : Int) + 2 + k ≤ l.length := by omega
  go_enter Tryz.func95, Tryz.ntmps95
  go_wp2_with fail
  refine (C1.out _).mono ?_
  rintro e w1 ⟨rfl, hb1⟩
  have A1 := H0.out.below hb1
  have HB1 := HBa.out.trans (hb1.mono HBa.out.size)
  clear hb1
  by_cases hk0 : k = 0
  · have hr := HR.out
    rw [if_pos hk0] at hr
    have c2 := fun w => refMissing_any l a (a + 2) w (by omega)
    rw [Int.natCast_add] at c2
    subst hk0
    have C2 := Lib.hid c2
    have HRR := Lib.hid hr
    clear hr c2
    generalize (missing l a (a + 2)) = M at *
    have hra := A1.range
    have hres := A1.res
    go_wp2_with (first
      | (go_at_call 120; refine (C2.out _).mono ?_; rintro e w' ⟨rfl, rfl⟩)
      | (with_reducible refine gate ?_; refine wp_load_tok refTokTy rfl _ rfl (w.heap.size + 1) 0 rfl _ rfl hra ?_)
      | (with_reducible refine gate ?_; refine wp_store_tok rfl _ _ rfl w.heap.size _ _ _ _ _ _ _ _ _ rfl rfl hres rfl ?_; intro w2 hw2 hu2))
    refine bodyPost_ret (v := .tuple #[.agg _, _, _]) (res_whole3 Tryz.results95 _ _ w.heap.size rfl _ _ hw2 Tryz.underlying62 rfl tokSize _ _ rfl rfl) rfl ⟨?_, ?_⟩
    · rw [← HRR.out]; exact TokRes.err (t := ⟨2, [], [], false, [], a⟩)
    · exact HB1.trans (hu2.below (Nat.le_refl _) HB1.size)
  · have hr := HR.out
    rw [if_neg hk0] at hr
    have hkp : (0 : Int) < k := by omega
    have e3 : ((a : Int) + 2 + k).toNat = a + 2 + k := by omega
    have e4 : (a : Int) + 2 ≤ (a : Int) + 2 + k := by omega
    have c2 := fun w => refSpaces_any l (a + 2 + k) w (by omega) (by omega)
    rw [Int.natCast_add, Int.natCast_add] at c2
    have s1 := spEnd_ge l (a + 2 + k)
    have s2 := spEnd_le (l := l) (n := a + 2 + k) (by omega)
    obtain ⟨x, hx⟩ : ∃ x, spEnd l (a + 2 + k) = x := ⟨_, rfl⟩
    rw [hx] at hr c2 s1 s2
    have C2 := Lib.hid c2
    have HR2 := Lib.hid hr
    have hc1 := A1.c1
    have hf1 := A1.free 1
    have A2 := Lib.hid (A1.name ((l.drop (a + 2)).take k))
    have HB2 := Lib.hid (HB1.setCell (p := ⟨w.heap.size + 1, 1, none⟩) (by simp) (.string (S ((l.drop (a + 2)).take k))))
    clear hr c2 hx HR C1 H0 HBa
    go_wp2_with fail
    generalize hnm : (l.drop (a + 2)).take k = nm at *
    generalize w1.setCell ⟨w.heap.size + 1, 1, none⟩ (.string (S nm)) = W2 at *
    clear hnm hc1 hf1 A1 HB1
    refine (C2.out _).mono ?_
    rintro e w' ⟨rfl, rfl⟩
    have c3 := fun w => refHas_any l x [62] w (by omega) (by omega) (by decide) (by simp)
    cases hb : hasAt l x [62]
    · have hr := HR2.out
      rw [hb, if_neg (by decide)] at hr
      rw [hb] at c3
      have C3 := Lib.hid c3
      have HR3 := Lib.hid hr
      have c4 := fun w => refMissing_any l a x w (by omega)
      have C4 := Lib.hid c4
      clear hr c3 c4 hb HR2
      generalize (missing l a x) = M at *
      have hra := A2.out.range
      have hres := A2.out.res
      go_wp2_with (first
        | (go_at_call 64; refine (C3.out _).mono ?_; rintro e w' ⟨rfl, rfl⟩)
        | (go_at_call 120; refine (C4.out _).mono ?_; rintro e w' ⟨rfl, rfl⟩)
        | (with_reducible refine gate ?_; refine wp_load_tok refTokTy rfl _ rfl (w.heap.size + 1) 0 rfl _ rfl hra ?_)
        | (with_reducible refine gate ?_; refine wp_store_tok rfl _ _ rfl w.heap.size _ _ _ _ _ _ _ _ _ rfl rfl hres rfl ?_; intro w2 hw2 hu2))
      refine bodyPost_ret (v := .tuple #[.agg _, _, _]) (res_whole3 Tryz.results95 _ _ w.heap.size rfl _ _ hw2 Tryz.underlying62 rfl tokSize _ _ rfl rfl) rfl ⟨?_, ?_⟩
      · rw [← HR3.out]; exact TokRes.err (t := ⟨2, nm, [], false, [], a⟩)
      · exact HB2.out.trans (hu2.below (Nat.le_refl _) HB2.out.size)
    · have hr := HR2.out
      rw [hb, if_pos rfl] at hr
      rw [hb] at c3
      have C3 := Lib.hid c3
      have HR3 := Lib.hid hr
      clear hr c3 hb HR2
      have hra := A2.out.range
      have hres := A2.out.res
      go_wp2_with (first
        | (go_at_call 64; refine (C3.out _).mono ?_; rintro e w' ⟨rfl, rfl⟩)
        | (with_reducible refine gate ?_; refine wp_load_tok refTokTy rfl _ rfl (w.heap.size + 1) 0 rfl _ rfl hra ?_)
        | (with_reducible refine gate ?_; refine wp_store_tok rfl _ _ rfl w.heap.size _ _ _ _ _ _ _ _ _ rfl rfl hres rfl ?_; intro w2 hw2 hu2))
      refine bodyPost_ret (v := .tuple #[.agg _, _, _]) (res_whole3 Tryz.results95 _ _ w.heap.size rfl _ _ hw2 Tryz.underlying62 rfl tokSize _ _ rfl rfl) rfl ⟨?_, ?_⟩
      · rw [← HR3.out]; exact TokRes.fine (t := ⟨2, nm, [], false, [], a⟩) (by simp) (AttsP.none _ _)
      · exact HB2.out.trans (hu2.below (Nat.le_refl _) HB2.out.size)
end Go.Proofs.YtclhdppppgjgfaaGreatDoor
set_option linter.unusedVariables false
namespace Go.Proofs.YtclhdppppgjgfaaGreatDoor
open Go.RowKit

theorem AttRow.attsP {w : World} {base : Nat} {p : Nat → Prop} {v : Value} {ats : List Att} (h : AttRow w base v ats) (hr : ∀ k, v.ownBlock = some k → p k) : AttsP w p v ats := by
  rcases h.2 with ⟨hv, hn⟩ | ⟨g, cap, cur, hv, hg, hh, hc, _⟩
  · have : ats = [] := List.eq_nil_of_length_eq_zero hn
    subst this
    exact ⟨none, 0, hv, by simp, .inl rfl⟩
  · refine ⟨_, cap, hv, hc, .inr ⟨g, 0, rfl, hr g (by rw [hv]; rfl), fun i a hi j u hu => ?_⟩⟩
    have hj : j < 4 := by have := (List.getElem?_eq_some_iff.1 hu).1; rw [attCells_len] at this; exact this
    have hx := flat_at (c := 4) (css := ats.map attCells) (by simp [attCells_len]) (i := i) (j := j) (cs := attCells a) (by simp [hi]) hj
    have := h.cells (g := g) (by rw [hv]; rfl) (i * 4 + j) u (by rw [hx]; exact hu)
    rw [add_zero_block] at this
    rw [show 0 + i * 4 + j = i * 4 + j by omega]
    exact this
theorem AttRow.heap {w w' : World} {base : Nat} {v : Value} {ats : List Att} (h : AttRow w base v ats) (hb : ∀ k, v.ownBlock = some k → w'.heap[k]? = w.heap[k]?) : AttRow w' base v ats := ownsRow_heap h hb
theorem AttRow.upd {w w' : World} {base b : Nat} {v : Value} {ats : List Att} (h : AttRow w base v ats) (hb : b < base) (hu : Upd b w w') : AttRow w' base v ats :=
  h.heap fun k hk => by have := h.lt k hk; exact hu.block k this.2 (by omega)
theorem any_take {bs : List Att} {j : Nat} {p : Att → Bool} (h : j < bs.length) : (bs.take (j + 1)).any p = ((bs.take j).any p || p bs[j]) := by
  rw [← List.take_append_getElem h, List.any_append]; simp
theorem any_hit {bs : List Att} {j : Nat} {p : Att → Bool} (h : j < bs.length) (hp : p bs[j] = true) : bs.any p = true :=
  List.any_eq_true.2 ⟨_, List.getElem_mem h, hp⟩
theorem attAt_err {l : Bytes} {a n : Nat} {q : Nat × Nat} (h : attAt l a n = .error q) : q.2 ≠ 0 := by
  have hm : ∀ x, (missing l a x).2 ≠ 0 := fun x => by unfold missing; split <;> simp
  unfold attAt at h
  split at h
  · cases h; exact hm _
  · split at h
    · cases h; exact hm _
    · split at h
      · cases h; exact hm _
      · unfold valAt at h
        split at h
        · cases h; simp
        · split at h
          · cases h; simp
          · split at h
            · cases h; simp
            · cases h
theorem Tkb.keep {w w' : World} {b : Nat} {k : Int} {nm : Bytes} {A : Option Addr} {n c : Nat} {em : Bool} {p : Int} {v v' : Value} (h : Tkb w b k nm A n c em p) (hg : Grew w v v' w') (hl : ∀ k, v.ownBlock = some k → b + 2 ≤ k) : Tkb w' b k nm A n c em p :=
  ⟨hg.heap h.res (fun e => by have := hl _ e; omega), hg.heap h.tok (fun e => by have := hl _ e; omega)⟩
theorem drew_heap (w : World) : w.drew.heap = w.heap := rfl
theorem six_set {W : World} {b : Nat} {t : TypeId} {c0 c1 c2 c3 c4 c5 : Value} (h : W.heap[b]? = some (.cells #[c0, c1, c2, c3, c4, c5] t (0, 0))) (v0 v1 v2 v3 v4 v5 : Value) :
    ((((((W.setCell ⟨b, 0, none⟩ v0).setCell ⟨b, 1, none⟩ v1).setCell ⟨b, 2, none⟩ v2).setCell ⟨b, 3, none⟩ v3).setCell ⟨b, 4, none⟩ v4).setCell ⟨b, 5, none⟩ v5).drew.heap[b]? = some (.cells #[v0, v1, v2, v3, v4, v5] t (0, 0)) := by
  rw [drew_heap]
  exact heap_set (heap_set (heap_set (heap_set (heap_set (heap_set h v0) v1) v2) v3) v4) v5
theorem cells6 {w : World} {b : Nat} {c0 c1 c2 c3 c4 c5 : Value} {t : TypeId} {fr : Nat × Nat} (h : w.heap[b]? = some (.cells #[c0, c1, c2, c3, c4, c5] t fr)) :
    w.cell? ⟨b, 0, none⟩ = some c0 ∧ w.cell? ⟨b, 1, none⟩ = some c1 ∧ w.cell? ⟨b, 2, none⟩ = some c2 ∧ w.cell? ⟨b, 3, none⟩ = some c3 ∧ w.cell? ⟨b, 4, none⟩ = some c4 ∧ w.cell? ⟨b, 5, none⟩ = some c5 := by
  refine ⟨?_, ?_, ?_, ?_, ?_, ?_⟩ <;> (rw [Lib.cell_of_heap h]; rfl)
theorem cells4 {w : World} {b : Nat} {c0 c1 c2 c3 : Value} {t : TypeId} {fr : Nat × Nat} (h : w.heap[b]? = some (.cells #[c0, c1, c2, c3] t fr)) :
    w.cell? ⟨b, 0, none⟩ = some c0 ∧ w.cell? ⟨b, 1, none⟩ = some c1 ∧ w.cell? ⟨b, 2, none⟩ = some c2 ∧ w.cell? ⟨b, 3, none⟩ = some c3 := by
  refine ⟨?_, ?_, ?_, ?_⟩ <;> (rw [Lib.cell_of_heap h]; rfl)
/-- What start makes of its tag. -/
def tagR (nm : Bytes) (a : Nat) : Except (Nat × Nat) (List Att × Bool × Nat) → Except (Nat × Nat) (Tok × Nat)
  | .error e => .error e
  | .ok (bs, em, e) => .ok (⟨1, nm, bs, em, [], a⟩, e)
theorem startAt_eq (l : Bytes) (a : Nat) : startAt l a = if nameLen (l.drop (a + 1)) = 0 then .error (missing l a (a + 1)) else tagR ((l.drop (a + 1)).take (nameLen (l.drop (a + 1)))) a (tagF l a (l.length + 1) (a + 1 + nameLen (l.drop (a + 1))) []) := by
  unfold startAt tagS tagR
  split
  · rfl
  · cases tagF l a (l.length + 1) (a + 1 + nameLen (l.drop (a + 1))) [] <;> rfl

set_option maxHeartbeats 4000000 in
set_option maxRecDepth 100000 in
theorem refStart_any (l : Bytes) (a : Nat) (w : World) (ha : a + 1 ≤ l.length) (hl : l.length ≤ 100000000000) :
    Calls Tryz.prog 96 #[.string (S l), .int .i64 a] w fun e w' => TokRes w' (fun b => w.heap.size ≤ b ∧ b < w'.heap.size) (startAt l a) e ∧ Below w.heap.size w w' := by
  obtain ⟨R, hR⟩ : ∃ R, startAt l a = R := ⟨_, rfl⟩
  rw [hR]
  rw [startAt_eq] at hR
  have hk := nameLen_le (l.drop (a + 1))
  rw [List.length_drop] at hk
  have c1 := fun w => refName_any l (a + 1) w (by omega) ha
  obtain ⟨k, hkk⟩ : ∃ k, nameLen (l.drop (a + 1)) = k := ⟨_, rfl⟩
  rw [hkk] at hR hk c1
  rw [Int.natCast_add] at c1
  have h0 := Tkb.new w 1 a
  have H0 := Lib.hid h0
  have HBa := Lib.hid (show Below w.heap.size w ((w.alloc (.cells zTokC 62)).alloc (.cells #[.int .i64 1, .string ⟨#[]⟩, .slice none 0 0, .bool false, .string ⟨#[]⟩, .int .i64 a] 62)) from ((Below.refl _ _).alloc (Nat.le_refl _) _).alloc (by simp) _)
  have C1 := Lib.hid c1
  have HR := Lib.hid hR
  clear h0 c1 hR hkk
  have hkn : (a : Int) + 1 + k ≤ l.length := by omega
  go_enter Tryz.func96, Tryz.ntmps96
  go_wp2_with fail
  refine (C1.out _).mono ?_
  rintro e w1 ⟨rfl, hb1⟩
  have A1 := H0.out.below hb1
  have HB1 := HBa.out.trans (hb1.mono HBa.out.size)
  clear hb1
  by_cases hk0 : k = 0
  · have hr := HR.out
    rw [if_pos hk0] at hr
    have c2 := fun w => refMissing_any l a (a + 1) w (by omega)
    rw [Int.natCast_add] at c2
    subst hk0
    have C2 := Lib.hid c2
    have HRR := Lib.hid hr
    have ht : ((a : Int) + 1 == (a : Int) + 1) = true := by simp
    clear hr c2
    generalize (missing l a (a + 1)) = M at *
    have hra := A1.range
    have hres := A1.res
    go_wp2_with (first
      | (go_at_call 120; refine (C2.out _).mono ?_; rintro e w' ⟨rfl, rfl⟩)
      | (with_reducible refine gate ?_; refine wp_load_tok refTokTy rfl _ rfl (w.heap.size + 1) 0 rfl _ rfl hra ?_)
      | (with_reducible refine gate ?_; refine wp_store_tok rfl _ _ rfl w.heap.size _ _ _ _ _ _ _ _ _ rfl rfl hres rfl ?_; intro w2 hw2 hu2))
    refine bodyPost_ret (v := .tuple #[.agg _, _, _]) (res_whole3 Tryz.results96 _ _ w.heap.size rfl _ _ hw2 Tryz.underlying62 rfl tokSize _ _ rfl rfl) rfl ⟨?_, ?_⟩
    · rw [← HRR.out]; exact TokRes.err (t := ⟨1, [], [], false, [], a⟩)
    · exact HB1.trans (hu2.below (Nat.le_refl _) HB1.size)
  · have hr := HR.out
    rw [if_neg hk0] at hr
    have ht : ((a : Int) + 1 + k == (a : Int) + 1) = false := by rw [beq_eq_false_iff_ne]; omega
    have e3 : ((a : Int) + 1 + k).toNat = a + 1 + k := by omega
    have e4 : (a : Int) + 1 ≤ (a : Int) + 1 + k := by omega
    obtain ⟨T, hT⟩ : ∃ T, tagF l a (l.length + 1) (a + 1 + k) [] = T := ⟨_, rfl⟩
    rw [hT] at hr
    have HT := Lib.hid hT
    have HRT := Lib.hid hr
    have hc1 := A1.c1
    have hf1 := A1.free 1
    have A2 := Lib.hid (A1.name ((l.drop (a + 1)).take k))
    have HB2 := Lib.hid (HB1.setCell (p := ⟨w.heap.size + 1, 1, none⟩) (by simp) (.string (S ((l.drop (a + 1)).take k))))
    clear hr hT HR C1 H0 HBa
    go_wp2_with fail
    generalize hnm : (l.drop (a + 1)).take k = nm at *
    generalize w1.setCell ⟨w.heap.size + 1, 1, none⟩ (.string (S nm)) = W2 at *
    clear hnm hc1 hf1 A1 HB1
    go_loopw [8] (fun i8 wr => ∃ (z f : Nat) (bs : List Att) (A : Option Addr) (c : Nat), a < z ∧ z ≤ l.length ∧ l.length < z + f ∧ i8 = .int .i64 z ∧ bs.length ≤ z ∧ tagF l a f z bs = T ∧ AttRow wr (w.heap.size + 2) (.slice A bs.length c) bs ∧ Tkb wr w.heap.size 1 nm A bs.length c false a ∧ Below w.heap.size w wr) (fun i8 _ => l.length - (intOf i8).toNat)
    case atStart => exact ⟨a + 1 + k, l.length + 1, [], none, 0, by omega, by omega, by omega, by go_num, by simp, HT.out, AttRow.nil _ _, A2.out, HB2.out⟩
    case round =>
      clear A2 HB2 HT ht e3 e4 hkn hk
      obtain ⟨z, f, bs, A, c, haz, hzl, hzf, rfl, hbl, htg, hrow, htk, hB⟩ := hrel
      obtain ⟨f, rfl⟩ : ∃ g, f = g + 1 := ⟨f - 1, by omega⟩
      rw [tagF] at htg
      have c2 := fun w => refSpaces_any l z w (by omega) hzl
      have s1 := spEnd_ge l z
      have s2 := spEnd_le hzl
      obtain ⟨x, hx⟩ : ∃ x, spEnd l z = x := ⟨_, rfl⟩
      rw [hx] at htg c2 s1 s2
      have d1 : ∀ w, Calls Tryz.prog 64 #[.string (S l), .int .i64 x, .string ⟨#[62]⟩] w fun e w' => e = .returned (.bool (hasAt l x [62])) ∧ w = w' := fun w => refHas_any l x [62] w (by omega) (by omega) (by decide) (by simp)
      have d2 : ∀ w, Calls Tryz.prog 64 #[.string (S l), .int .i64 x, .string ⟨#[47, 62]⟩] w fun e w' => e = .returned (.bool (hasAt l x [47, 62])) ∧ w = w' := fun w => refHas_any l x [47, 62] w (by omega) (by omega) (by decide) (by simp)
      have d3 : ∀ w, Calls Tryz.prog 64 #[.string (S l), .int .i64 x, .string ⟨#[47]⟩] w fun e w' => e = .returned (.bool (hasAt l x [47])) ∧ w = w' := fun w => refHas_any l x [47] w (by omega) (by omega) (by decide) (by simp)
      have HROW := Lib.hid hrow
      have HTK := Lib.hid htk
      have HB := Lib.hid hB
      have hsz := hB.size
      have hsz2 := heap_lt htk.tok
      have C2 := Lib.hid c2
      clear hrow htk hB c2 hx
      cases b1 : hasAt l x [62]
      case true =>
        rw [b1, if_pos rfl] at htg
        have hr := HRT.out
        rw [← htg] at hr
        have HRR := Lib.hid hr
        rw [b1] at d1
        have D1 := Lib.hid d1
        clear d1 d2 d3 b1 htg hr HRT
        have hra := HTK.out.range
        have hres := HTK.out.res
        go_wp2_with (first
          | (go_at_call 119; refine (C2.out _).mono ?_; rintro e w' ⟨rfl, rfl⟩)
          | (go_at_call 64; first | (with_reducible refine (D1.out _).mono ?_; rintro e w' ⟨rfl, rfl⟩))
          | (with_reducible refine gate ?_; refine wp_load_tok refTokTy rfl _ rfl (w.heap.size + 1) 0 rfl _ rfl hra ?_)
          | (with_reducible refine gate ?_; refine wp_store_tok rfl _ _ rfl w.heap.size _ _ _ _ _ _ _ _ _ rfl rfl hres rfl ?_; intro w2 hw2 hu2))
        refine bodyPost_ret (v := .tuple #[.agg _, _, _]) (res_whole3 Tryz.results96 _ _ w.heap.size rfl _ _ hw2 Tryz.underlying62 rfl tokSize _ _ rfl rfl) rfl ⟨?_, ?_⟩
        · rw [← HRR.out]; exact TokRes.fine (t := ⟨1, nm, bs, false, [], a⟩) (by simp) ((HROW.out.upd (by omega) hu2).attsP fun k hk => by have := HROW.out.lt k hk; have := hu2.size; exact ⟨by omega, by omega⟩)
        · exact HB.out.trans (hu2.below (Nat.le_refl _) HB.out.size)
      case false =>
        rw [b1, if_neg (by decide)] at htg
        rw [b1] at d1
        have D1 := Lib.hid d1
        clear d1 b1
        cases b2 : hasAt l x [47, 62]
        case true =>
          rw [b2, if_pos rfl] at htg
          have hr := HRT.out
          rw [← htg] at hr
          have HRR := Lib.hid hr
          rw [b2] at d2
          have D2 := Lib.hid d2
          have hc3 := HTK.out.c3
          have hf3 := HTK.out.free 3
          have A3 := Lib.hid (HTK.out.empt true)
          have HB3 := Lib.hid (HB.out.setCell (p := ⟨w.heap.size + 1, 3, none⟩) (by simp) (.bool true))
          have HROW3 : Hid (AttRow (wr.setCell ⟨w.heap.size + 1, 3, none⟩ (.bool true)) (w.heap.size + 2) (.slice A bs.length c) bs) := HROW.out.upd (by omega) (Upd.set_ (w.heap.size + 1) 3 wr (.bool true))
          clear d2 d3 b2 htg hr HRT
          have hra := A3.out.range
          have hres := A3.out.res
          go_wp2_with (first
            | (go_at_call 119; refine (C2.out _).mono ?_; rintro e w' ⟨rfl, rfl⟩)
            | (go_at_call 64; first | (with_reducible refine (D1.out _).mono ?_; rintro e w' ⟨rfl, rfl⟩) | (with_reducible refine (D2.out _).mono ?_; rintro e w' ⟨rfl, rfl⟩))
            | (with_reducible refine gate ?_; refine wp_load_tok refTokTy rfl _ rfl (w.heap.size + 1) 0 rfl _ rfl hra ?_)
            | (with_reducible refine gate ?_; refine wp_store_tok rfl _ _ rfl w.heap.size _ _ _ _ _ _ _ _ _ rfl rfl hres rfl ?_; intro w2 hw2 hu2))
          refine bodyPost_ret (v := .tuple #[.agg _, _, _]) (res_whole3 Tryz.results96 _ _ w.heap.size rfl _ _ hw2 Tryz.underlying62 rfl tokSize _ _ rfl rfl) rfl ⟨?_, ?_⟩
          · rw [← HRR.out]; exact TokRes.fine (t := ⟨1, nm, bs, true, [], a⟩) (by simp) ((HROW3.out.upd (by omega) hu2).attsP fun k hk => by have := HROW3.out.lt k hk; have := hu2.size; exact ⟨by omega, by omega⟩)
          · exact HB3.out.trans (hu2.below (Nat.le_refl _) HB3.out.size)
        case false =>
          rw [b2, if_neg (by decide)] at htg
          rw [b2] at d2
          have D2 := Lib.hid d2
          clear d2 b2
          cases b3 : hasAt l x [47]
          case true =>
            rw [b3, if_pos rfl] at htg
            have hr := HRT.out
            rw [← htg] at hr
            have HRR := Lib.hid hr
            rw [b3] at d3
            have D3 := Lib.hid d3
            have c4 := fun w => refMissing_any l a (x + 1) w (by omega)
            rw [Int.natCast_add] at c4
            have C4 := Lib.hid c4
            clear d3 b3 htg hr HRT c4
            generalize (missing l a (x + 1)) = M at *
            have hra := HTK.out.range
            have hres := HTK.out.res
            go_wp2_with (first
              | (go_at_call 119; refine (C2.out _).mono ?_; rintro e w' ⟨rfl, rfl⟩)
              | (go_at_call 64; first | (with_reducible refine (D1.out _).mono ?_; rintro e w' ⟨rfl, rfl⟩) | (with_reducible refine (D2.out _).mono ?_; rintro e w' ⟨rfl, rfl⟩) | (with_reducible refine (D3.out _).mono ?_; rintro e w' ⟨rfl, rfl⟩))
              | (go_at_call 120; refine (C4.out _).mono ?_; rintro e w' ⟨rfl, rfl⟩)
              | (with_reducible refine gate ?_; refine wp_load_tok refTokTy rfl _ rfl (w.heap.size + 1) 0 rfl _ rfl hra ?_)
              | (with_reducible refine gate ?_; refine wp_store_tok rfl _ _ rfl w.heap.size _ _ _ _ _ _ _ _ _ rfl rfl hres rfl ?_; intro w2 hw2 hu2))
            refine bodyPost_ret (v := .tuple #[.agg _, _, _]) (res_whole3 Tryz.results96 _ _ w.heap.size rfl _ _ hw2 Tryz.underlying62 rfl tokSize _ _ rfl rfl) rfl ⟨?_, ?_⟩
            · rw [← HRR.out]; exact TokRes.err (t := ⟨1, nm, bs, false, [], a⟩)
            · exact HB.out.trans (hu2.below (Nat.le_refl _) HB.out.size)
          case false =>
            rw [b3, if_neg (by decide)] at htg
            rw [b3] at d3
            have D3 := Lib.hid d3
            clear d3 b3
            by_cases hxz : x = z
            · rw [if_pos hxz] at htg
              have hr := HRT.out
              rw [← htg] at hr
              have HRR := Lib.hid hr
              have c4 := fun w => refMissing_any l a z w (by omega)
              have C4 := Lib.hid c4
              have t5 : ((x : Int) == (z : Int)) = true := by rw [hxz]; simp
              have HXZ := Lib.hid hxz
              clear htg hr HRT c4 hxz
              generalize (missing l a z) = M at *
              have hra := HTK.out.range
              have hres := HTK.out.res
              go_wp2_with (first
                | (go_at_call 119; refine (C2.out _).mono ?_; rintro e w' ⟨rfl, rfl⟩)
                | (go_at_call 64; first | (with_reducible refine (D1.out _).mono ?_; rintro e w' ⟨rfl, rfl⟩) | (with_reducible refine (D2.out _).mono ?_; rintro e w' ⟨rfl, rfl⟩) | (with_reducible refine (D3.out _).mono ?_; rintro e w' ⟨rfl, rfl⟩))
                | (go_at_call 120; refine (C4.out _).mono ?_; rintro e w' ⟨rfl, rfl⟩)
                | (with_reducible refine gate ?_; refine wp_load_tok refTokTy rfl _ rfl (w.heap.size + 1) 0 rfl _ rfl hra ?_)
                | (with_reducible refine gate ?_; refine wp_store_tok rfl _ _ rfl w.heap.size _ _ _ _ _ _ _ _ _ rfl rfl hres rfl ?_; intro w2 hw2 hu2))
              refine bodyPost_ret (v := .tuple #[.agg _, _, _]) (res_whole3 Tryz.results96 _ _ w.heap.size rfl _ _ hw2 Tryz.underlying62 rfl tokSize _ _ rfl rfl) rfl ⟨?_, ?_⟩
              · rw [← HRR.out]; exact TokRes.err (t := ⟨1, nm, bs, false, [], a⟩)
              · exact HB.out.trans (hu2.below (Nat.le_refl _) HB.out.size)
            · rw [if_neg hxz] at htg
              have t5 : ((x : Int) == (z : Int)) = false := by rw [beq_eq_false_iff_ne]; omega
              have c4 := fun w => refAttr_any l a x w s2 (by omega) (by omega)
              cases hat : attAt l a x with
              | error q =>
                rw [hat] at htg c4
                have hq := attAt_err hat
                have hr := HRT.out
                simp only at htg
                rw [← htg] at hr
                have HRR := Lib.hid hr
                have C4 := Lib.hid c4
                have t6 : ((q.2 : Int) == 0) = false := by rw [beq_eq_false_iff_ne]; omega
                have t7 : ((q.2 : Int) != 0) = true := by rw [bne, t6]; rfl
                clear htg hr HRT c4 hat hq
                go_wp2_with (first
                  | (go_at_call 119; refine (C2.out _).mono ?_; rintro e w' ⟨rfl, rfl⟩)
                  | (go_at_call 64; first | (with_reducible refine (D1.out _).mono ?_; rintro e w' ⟨rfl, rfl⟩) | (with_reducible refine (D2.out _).mono ?_; rintro e w' ⟨rfl, rfl⟩) | (with_reducible refine (D3.out _).mono ?_; rintro e w' ⟨rfl, rfl⟩))
                  | fail)
                refine (C4.out _).mono ?_
                rintro e w5 ⟨⟨a0, rfl⟩, hb5⟩
                have A5 := Lib.hid ((HTK.out.below hb5).below2 (w' := w5.alloc (.cells #[.string (S a0.space), .string (S a0.name), .string (S a0.value), .int .i64 a0.pos] 39)) ((Below.refl _ _).alloc (by have := hb5.size; omega) _))
                have HB5 := Lib.hid ((HB.out.trans (hb5.mono hsz)).alloc (by have := hb5.size; omega) (.cells #[.string (S a0.space), .string (S a0.name), .string (S a0.value), .int .i64 a0.pos] 39))
                clear hb5
                have hra := A5.out.range
                have hres := A5.out.res
                go_wp2_with (first
                  | (with_reducible refine gate ?_; refine wp_load_tok refTokTy rfl _ rfl (w.heap.size + 1) 0 rfl _ rfl hra ?_)
                  | (with_reducible refine gate ?_; refine wp_store_tok rfl _ _ rfl w.heap.size _ _ _ _ _ _ _ _ _ rfl rfl hres rfl ?_; intro w2 hw2 hu2))
                refine bodyPost_ret (v := .tuple #[.agg _, _, _]) (res_whole3 Tryz.results96 _ _ w.heap.size rfl _ _ hw2 Tryz.underlying62 rfl tokSize _ _ rfl rfl) rfl ⟨?_, ?_⟩
                · rw [← HRR.out]; exact TokRes.err (t := ⟨1, nm, bs, false, [], a⟩)
                · exact HB5.out.trans (hu2.below (Nat.le_refl _) HB5.out.size)
              | ok p =>
                obtain ⟨b, e2⟩ := p
                rw [hat] at htg c4
                have hok := attAt_ok s2 hat
                have C4 := Lib.hid c4
                simp only at htg
                have HTG := Lib.hid htg
                have HOK := Lib.hid hok
                clear htg c4 hat hok
                go_wp2_with (first
                  | (go_at_call 119; refine (C2.out _).mono ?_; rintro e w' ⟨rfl, rfl⟩)
                  | (go_at_call 64; first | (with_reducible refine (D1.out _).mono ?_; rintro e w' ⟨rfl, rfl⟩) | (with_reducible refine (D2.out _).mono ?_; rintro e w' ⟨rfl, rfl⟩) | (with_reducible refine (D3.out _).mono ?_; rintro e w' ⟨rfl, rfl⟩))
                  | fail)
                refine (C4.out _).mono ?_
                rintro e w5 ⟨hret, hb5⟩
                unfold AttRes at hret
                simp only at hret
                subst hret
                obtain ⟨sp, nb, vb, pb⟩ := b
                obtain ⟨o1, o2, o3⟩ := HOK.out
                simp only at o3
                subst o3
                have HB6 := Lib.hid ((HB.out.trans (hb5.mono hsz)).alloc (by have := hb5.size; omega) (.cells #[.string (S sp), .string (S nb), .string (S vb), .int .i64 x] 39))
                have TK6 := Lib.hid ((HTK.out.below hb5).below2 (w' := w5.alloc (.cells #[.string (S sp), .string (S nb), .string (S vb), .int .i64 x] 39)) ((Below.refl _ _).alloc (by have := hb5.size; omega) _))
                have RW6 := Lib.hid ((HROW.out.below hb5).below (w' := w5.alloc (.cells #[.string (S sp), .string (S nb), .string (S vb), .int .i64 x] 39)) ((Below.refl _ _).alloc (Nat.le_refl _) _))
                have GB6 := Lib.hid (heap_alloc_new w5 (.cells #[.string (S sp), .string (S nb), .string (S vb), .int .i64 x] 39))
                have hg6 : w.heap.size + 1 < w5.heap.size := by have := hb5.size; omega
                clear hb5 HB HTK HROW C2 C4 D1 D2 D3 HOK
                go_wp2_with fail
                generalize w5.heap.size = g at *
                generalize w5.alloc (.cells #[.string (S sp), .string (S nb), .string (S vb), .int .i64 x] 39) = W6 at *
                go_loopw [19] (fun i19 wx => ∃ j : Nat, j ≤ bs.length ∧ i19 = .int .i64 j ∧ (bs.take j).any (fun c => c.name == nb) = false ∧ AttRow wx (w.heap.size + 2) (.slice A bs.length c) bs ∧ Tkb wx w.heap.size 1 nm A bs.length c false a ∧ wx.heap[g]? = some (.cells #[.string (S sp), .string (S nb), .string (S vb), .int .i64 x] 39 (0, 0)) ∧ Below w.heap.size w wx) (fun i19 _ => bs.length - (intOf i19).toNat)
                case atStart => exact ⟨0, Nat.zero_le _, rfl, by simp, RW6.out, TK6.out, GB6.out, HB6.out⟩
                case round =>
                  clear RW6 TK6 GB6 HB6
                  obtain ⟨j, hjl, rfl, hany, hrow, htk, hgb, hB⟩ := hrel
                  have HROW := Lib.hid hrow
                  have HTK := Lib.hid htk
                  have HB := Lib.hid hB
                  have HGB := Lib.hid hgb
                  have hsx := hB.size
                  have hsx2 := heap_lt htk.tok
                  have HANY := Lib.hid hany
                  clear hB hany
                  have k2 := htk.c2
                  by_cases hlt : j < bs.length
                  · have hlt' : (j : Int) < bs.length := by omega
                    obtain ⟨ga, off, hAA, hga, hr⟩ := hrow.attsIn.at_ hlt
                    subst hAA
                    have d1 : wr.cell? ⟨ga, off + j * 4 + 1, none⟩ = some (.string (S bs[j].name)) := hr 1 _ rfl
                    obtain ⟨g0, g1, g2, g3⟩ := cells4 hgb
                    have hat := any_take (p := fun c => c.name == nb) hlt
                    rw [HANY.out, Bool.false_or] at hat
                    have hhit := fun h => any_hit (p := fun c : Att => c.name == nb) hlt h
                    try simp only at hat
                    try simp only at hhit
                    generalize bs[j].name = nj at *
                    cases y : (nj == nb)
                    · rw [y] at hat
                      have HAT := Lib.hid hat
                      clear hat hhit hr hrow htk hgb g0 g2 g3
                      go_wp2_with fail
                      go_quiet (fail)
                      go_wp2
                      go_roundw
                      case rel => exact ⟨j + 1, by omega, by go_num, HAT.out, HROW.out, ⟨HTK.out.res, HTK.out.tok⟩, HGB.out, below_drewN6 HB.out _⟩
                      case measure => simp [intOf]; omega
                    · have htg := HTG.out
                      rw [if_pos (hhit y)] at htg
                      have hr2 := HRT.out
                      rw [← htg] at hr2
                      have HRR := Lib.hid hr2
                      clear hat hhit htg hr2 hr hrow hgb g0 g2 HRT
                      have hra := htk.range
                      clear htk
                      go_wp2_with fail
                      go_quiet (fail)
                      go_wp2_with fail
                      have HW : Hid (Below w.heap.size w (wr.drewN nq)) := below_drewN6 HB.out nq
                      have htk2 : Tkb (wr.drewN nq) w.heap.size 1 nm (some ⟨ga, off, none⟩) bs.length c false a := ⟨HTK.out.res, HTK.out.tok⟩
                      have g3' : (wr.drewN nq).cell? ⟨g, 3, none⟩ = some (.int .i64 x) := g3
                      have hgne : ¬ (w.heap.size = g) := by omega
                      generalize wr.drewN nq = W at *
                      obtain ⟨p0, p1, p2, p3, p4, p5⟩ := cells6 htk2.tok
                      obtain ⟨q0, q1, q2, q3, q4, q5⟩ := cells6 htk2.res
                      have hfr : ∀ i, W.frozen? ⟨w.heap.size, i, none⟩ = false := Lib.frozen_of_heap htk2.res
                      have HRES := Lib.hid htk2.res
                      clear htk2 hra g3 k2 HTK HROW HGB
                      go_region
                      all_goals
                        go_wp2_with fail
                        refine bodyPost_ret (v := .tuple #[.agg _, _, _]) (res_whole3 Tryz.results96 _ _ w.heap.size rfl 62 #[.int .i64 1, .string (S nm), .slice (some ⟨ga, off, none⟩) bs.length c, .bool false, .string (S []), .int .i64 a] (six_set HRES.out _ _ _ _ _ _) Tryz.underlying62 rfl tokSize _ _ rfl rfl) rfl ⟨?_, ?_⟩
                        · rw [← HRR.out]; exact TokRes.err (t := ⟨1, nm, bs, false, [], a⟩)
                        · exact ((((((HW.out.setCell (p := ⟨w.heap.size, 0, none⟩) (Nat.le_refl _) _).setCell (p := ⟨w.heap.size, 1, none⟩) (Nat.le_refl _) _).setCell (p := ⟨w.heap.size, 2, none⟩) (Nat.le_refl _) _).setCell (p := ⟨w.heap.size, 3, none⟩) (Nat.le_refl _) _).setCell (p := ⟨w.heap.size, 4, none⟩) (Nat.le_refl _) _).setCell (p := ⟨w.heap.size, 5, none⟩) (Nat.le_refl _) _).drew
                  · obtain rfl : j = bs.length := by omega
                    have hany := HANY.out
                    rw [List.take_length] at hany
                    have htg := HTG.out
                    rw [if_neg (by rw [hany]; decide)] at htg
                    have HTN := Lib.hid htg
                    have hgr : wr.rangeAt g 0 (attCells ⟨sp, nb, vb, x⟩) := range_of_heap (cs := attCells ⟨sp, nb, vb, x⟩) hgb
                    have F1 : Hid (∀ (g' c' : Nat) (w' : World), AttRow w' (w.heap.size + 2) (.slice (some ⟨g', 0, none⟩) (bs.length + 1) c') (bs ++ [⟨sp, nb, vb, x⟩]) → Grew wr (.slice A bs.length c) (.slice (some ⟨g', 0, none⟩) (bs.length + 1) c') w' → Below (w.heap.size + 2) wr w' →
                        w'.cell? ⟨w.heap.size + 1, 2, none⟩ = some (.slice A bs.length c) ∧ w'.frozen? ⟨w.heap.size + 1, 2, none⟩ = false ∧ Hid (AttRow (w'.setCell ⟨w.heap.size + 1, 2, none⟩ (.slice (some ⟨g', 0, none⟩) (bs.length + 1) c')) (w.heap.size + 2) (.slice (some ⟨g', 0, none⟩) (bs.length + 1) c') (bs ++ [⟨sp, nb, vb, x⟩]) ∧ Tkb (w'.setCell ⟨w.heap.size + 1, 2, none⟩ (.slice (some ⟨g', 0, none⟩) (bs.length + 1) c')) w.heap.size 1 nm (some ⟨g', 0, none⟩) (bs.length + 1) c' false a ∧ Below w.heap.size w (w'.setCell ⟨w.heap.size + 1, 2, none⟩ (.slice (some ⟨g', 0, none⟩) (bs.length + 1) c')))) := by
                      intro g' c' w' r1 r2 r3
                      have hk := HTK.out.keep r2 (fun k hk => (HROW.out.lt k hk).1)
                      exact ⟨hk.c2, hk.free 2, r1.upd (by omega) (Upd.set_ (w.heap.size + 1) 2 w' _), hk.atts _ _ _, (HB.out.trans (r3.mono (by omega))).setCell (p := ⟨w.heap.size + 1, 2, none⟩) (by simp) _⟩
                    clear hany htg hrow htk hgb HGB
                    go_wp2_with (first
                      | (with_reducible refine gate ?_; refine wp_load_att rfl _ rfl g 0 rfl ⟨sp, nb, vb, x⟩ hgr ?_)
                      | (at_builtin; refine atts_append rfl _ _ rfl wr (w.heap.size + 2) (.slice A bs.length c) bs rfl HROW.out ⟨sp, nb, vb, x⟩ wr.heap.size rfl rfl (by omega) (by omega) ?_; intro g' c' w6 r1 r2 r3; obtain ⟨f1, f2, f3⟩ := F1.out g' c' w6 r1 r2 r3))
                    go_roundw
                    case rel => exact ⟨e2, f, bs ++ [⟨sp, nb, vb, x⟩], _, c', by omega, by omega, by omega, rfl, by simp; omega, HTN.out, by simpa using f3.out.1, by simpa using f3.out.2.1, f3.out.2.2⟩
                    case measure => simp [intOf]; omega
end Go.Proofs.YtclhdppppgjgfaaGreatDoor
