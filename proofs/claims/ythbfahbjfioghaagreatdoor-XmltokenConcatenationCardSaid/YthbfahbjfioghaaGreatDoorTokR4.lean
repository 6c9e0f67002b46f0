/-
  Walks of chapter 6: the reference's end and skip.
-/
import Derived.Test.YthbfahbjfioghaaGreatDoorTokR3
set_option linter.unusedVariables false
namespace Go.Proofs.YthbfahbjfioghaaGreatDoor
open Go.RowKit

theorem refTokTy : TokTy 43 27 := ⟨by kernel_rfl, by kernel_rfl, ⟨_, Tryz.underlying43, rfl⟩⟩
/-- The cells of a token. -/
abbrev tokCells (t : Tok) (A : Option Addr) (c : Nat) : Array Value := #[.int .i64 t.kind, .string (S t.name), .slice A t.attrs.length c, .bool t.empty, .string (S t.text), .int .i64 t.pos]
/-- What start, end and construct return. -/
def TokRes (w' : World) (p : Nat → Prop) (r : Except (Nat × Nat) (Tok × Nat)) (e : Ending) : Prop :=
  match r with
  | .error q => ∃ t A c, e = .returned (.tuple #[.agg (tokCells t A c), .int .i64 q.1, .int .i64 q.2])
  | .ok (t, k) => ∃ A c, e = .returned (.tuple #[.agg (tokCells t A c), .int .i64 k, .int .i64 0]) ∧ AttsP w' p (.slice A t.attrs.length c) t.attrs
theorem TokRes.err {w' : World} {p : Nat → Prop} {q : Nat × Nat} {t : Tok} {A : Option Addr} {c : Nat} : TokRes w' p (.error q) (.returned (.tuple #[.agg (tokCells t A c), .int .i64 q.1, .int .i64 q.2])) := ⟨t, A, c, rfl⟩
theorem TokRes.fine {w' : World} {p : Nat → Prop} {t : Tok} {k : Nat} {i : Int} {A : Option Addr} {c : Nat} (hi : i = (k : Int)) (h : AttsP w' p (.slice A t.attrs.length c) t.attrs) : TokRes w' p (.ok (t, k)) (.returned (.tuple #[.agg (tokCells t A c), .int .i64 i, .int .i64 0])) := by
  subst hi; exact ⟨A, c, rfl, h⟩
theorem AttsP.none (w : World) (p : Nat → Prop) : AttsP w p (.slice Option.none 0 0) [] := ⟨Option.none, 0, rfl, Nat.le_refl _, .inl rfl⟩

abbrev zTokC : Array Value := #[.int .i64 0, .string ⟨#[]⟩, .slice none 0 0, .bool false, .string ⟨#[]⟩, .int .i64 0]
/-- The result's cell and the token that is being built. -/
structure Tkb (w : World) (b : Nat) (k : Int) (nm : Bytes) (A : Option Addr) (n c : Nat) (em : Bool) (p : Int) : Prop where
  res : w.heap[b]? = some (.cells zTokC 43 (0, 0))
  tok : w.heap[b + 1]? = some (.cells #[.int .i64 k, .string (S nm), .slice A n c, .bool em, .string (S []), .int .i64 p] 43 (0, 0))
section
variable {w w' : World} {b : Nat} {k : Int} {nm : Bytes} {A : Option Addr} {n c : Nat} {em : Bool} {p : Int}
theorem Tkb.below (h : Tkb w b k nm A n c em p) (hb : Below w.heap.size w w') : Tkb w' b k nm A n c em p :=
  ⟨(hb.block _ (heap_lt h.res)).trans h.res, (hb.block _ (heap_lt h.tok)).trans h.tok⟩
theorem Tkb.below2 (h : Tkb w b k nm A n c em p) (hb : Below (b + 2) w w') : Tkb w' b k nm A n c em p :=
  ⟨(hb.block _ (by omega)).trans h.res, (hb.block _ (by omega)).trans h.tok⟩
theorem Tkb.c1 (h : Tkb w b k nm A n c em p) : w.cell? ⟨b + 1, 1, none⟩ = some (.string (S nm)) := by rw [Lib.cell_of_heap h.tok]; rfl
theorem Tkb.c2 (h : Tkb w b k nm A n c em p) : w.cell? ⟨b + 1, 2, none⟩ = some (.slice A n c) := by rw [Lib.cell_of_heap h.tok]; rfl
theorem Tkb.c3 (h : Tkb w b k nm A n c em p) : w.cell? ⟨b + 1, 3, none⟩ = some (.bool em) := by rw [Lib.cell_of_heap h.tok]; rfl
theorem Tkb.free (h : Tkb w b k nm A n c em p) (i : Nat) : w.frozen? ⟨b + 1, i, none⟩ = false := Lib.frozen_of_heap h.tok i
theorem Tkb.name (h : Tkb w b k nm A n c em p) (x : Bytes) : Tkb (w.setCell ⟨b + 1, 1, none⟩ (.string (S x))) b k x A n c em p := by
  refine ⟨(Below.heap_setCell _ _ _ _ (by simp)).trans h.res, ?_⟩
  have := h.tok
  simp [World.setCell, Array.getElem?_modify, this]
theorem Tkb.atts (h : Tkb w b k nm A n c em p) (A' : Option Addr) (n' c' : Nat) : Tkb (w.setCell ⟨b + 1, 2, none⟩ (.slice A' n' c')) b k nm A' n' c' em p := by
  refine ⟨(Below.heap_setCell _ _ _ _ (by simp)).trans h.res, ?_⟩
  have := h.tok
  simp [World.setCell, Array.getElem?_modify, this]
theorem Tkb.empt (h : Tkb w b k nm A n c em p) (x : Bool) : Tkb (w.setCell ⟨b + 1, 3, none⟩ (.bool x)) b k nm A n c x p := by
  refine ⟨(Below.heap_setCell _ _ _ _ (by simp)).trans h.res, ?_⟩
  have := h.tok
  simp [World.setCell, Array.getElem?_modify, this]
theorem Tkb.range (h : Tkb w b k nm A n c em p) : w.rangeAt (b + 1) 0 [.int .i64 k, .string (S nm), .slice A n c, .bool em, .string (S []), .int .i64 p] := range_of_heap h.tok
theorem Tkb.new (w : World) (k p : Int) : Tkb ((w.alloc (.cells zTokC 43)).alloc (.cells #[.int .i64 k, .string ⟨#[]⟩, .slice none 0 0, .bool false, .string ⟨#[]⟩, .int .i64 p] 43)) w.heap.size k [] none 0 0 false p :=
  ⟨(Below.heap_alloc _ _ _ (by simp)).trans (heap_alloc_new w _), by have := heap_alloc_new (w.alloc (.cells zTokC 43)) (.cells #[.int .i64 k, .string ⟨#[]⟩, .slice none 0 0, .bool false, .string ⟨#[]⟩, .int .i64 p] 43); simpa [S] using this⟩
end
theorem tokSize : (Tryz.prog.info? 43).map (·.size) = some 6 := by kernel_rfl
theorem wp_store_tok {ops : Array Oper} {rest : List Oper} {o : Oper} {a : Act} {w : World} {Q : Exit → Act → World → Prop} (hgd : o.guard = none) (x y : Operand) (ho : o.op = .store 43 x y)
    (g : Nat) (cur : Array Value) (k p : Int) (nm t : ByteArray) (A : Option Addr) (n c : Nat) (em : Bool) (hx : a.eval x = .pointer (some ⟨g, 0, none⟩)) (hy : a.eval y = .agg #[.int .i64 k, .string nm, .slice A n c, .bool em, .string t, .int .i64 p])
    (hg : w.heap[g]? = some (.cells cur 43 (0, 0))) (hs : cur.size = 6)
    (h : ∀ w', w'.heap[g]? = some (.cells #[.int .i64 k, .string nm, .slice A n c, .bool em, .string t, .int .i64 p] 43 (0, 0)) → Upd g w w' → wpList Tryz.prog ops Q rest (a.put o.dst undef) w') : wpList Tryz.prog ops Q (o :: rest) a w :=
  wp_store_whole hgd 43 x y ho g 43 cur _ hx hy hg (by rw [hs]; rfl) tokSize (by simp [Value.oneCell']) h

theorem ret_int2 {a b c d : Int} (h1 : a = c) (h2 : b = d) : Ending.returned (.tuple #[.int .i64 a, .int .i64 b]) = .returned (.tuple #[.int .i64 c, .int .i64 d]) := by rw [h1, h2]
/-- What skip returns. -/
def skR : Except (Nat × Nat) Nat → Nat × Nat
  | .error q => q
  | .ok e => (e, 0)
set_option maxHeartbeats 1000000 in
theorem refSkip_any (l op last : Bytes) (a : Nat) (w : World) (hl : l.length ≤ 1099511627776) (ha : a + op.length ≤ l.length) (hlast : last ≠ []) (hlen : last.length ≤ 1000000) :
    Calls Tryz.prog 78 #[.string (S l), .int .i64 a, .string (S op), .string (S last)] w fun e w' => e = .returned (.tuple #[.int .i64 (skR (skipAt l a op.length last)).1, .int .i64 (skR (skipAt l a op.length last)).2]) ∧ w = w' := by
  have c1 := fun w => refFind_any l (a + op.length) last w (by omega) ha hlen hlast
  have hfl : ∀ j, findS last (l.drop (a + op.length)) = some j → a + op.length + j + last.length ≤ l.length := fun j h => by
    have := findS_le h
    rw [List.length_drop] at this; omega
  unfold skipAt
  rw [Int.natCast_add] at c1
  cases hf : findS last (l.drop (a + op.length)) with
  | none =>
    rw [hf] at c1
    simp only [Option.map_none, optI] at c1
    simp only [skR]
    have C1 := Lib.hid c1
    clear c1 hf hfl
    go_enter Tryz.func78, Tryz.ntmps78
    go_wp2_with (go_at_call 81; refine (C1.out _).mono ?_; rintro e w' ⟨rfl, rfl⟩)
    go_ret2
    exact ⟨rfl, rfl⟩
  | some j =>
    have hj := hfl j hf
    rw [hf] at c1
    simp only [Option.map_some, optI] at c1
    simp only [skR]
    have C1 := Lib.hid c1
    clear c1 hf hfl
    go_enter Tryz.func78, Tryz.ntmps78
    go_wp2_with (go_at_call 81; refine (C1.out _).mono ?_; rintro e w' ⟨rfl, rfl⟩)
    go_ret2
    exact ⟨ret_int2 (by omega) rfl, rfl⟩

set_option maxHeartbeats 2000000 in
set_option maxRecDepth 100000 in
theorem refEnd_any (l : Bytes) (a : Nat) (w : World) (ha : a + 2 ≤ l.length) (hl : l.length ≤ 1099511627776) :
    Calls Tryz.prog 79 #[.string (S l), .int .i64 a] w fun e w' => TokRes w' (fun b => w.heap.size ≤ b ∧ b < w'.heap.size) (endAt l a) e ∧ Below w.heap.size w w' := by
  obtain ⟨R, hR⟩ : ∃ R, endAt l a = R := ⟨_, rfl⟩
  rw [hR]
  unfold endAt at hR
  have hk := nameLen_le (l.drop (a + 2))
  rw [List.length_drop] at hk
  have c1 := fun w => refName_any l (a + 2) w (by omega) ha
  obtain ⟨k, hkk⟩ : ∃ k, nameLen (l.drop (a + 2)) = k := ⟨_, rfl⟩
  rw [hkk] at hR hk c1
  rw [Int.natCast_add] at c1
  have h0 := Tkb.new w 2 a
  have H0 := Lib.hid h0
  have HBa := Lib.hid (show Below w.heap.size w ((w.alloc (.cells zTokC 43)).alloc (.cells #[.int .i64 2, .string ⟨#[]⟩, .slice none 0 0, .bool false, .string ⟨#[]⟩, .int .i64 a] 43)) from ((Below.refl _ _).alloc (Nat.le_refl _) _).alloc (by simp) _)
  have C1 := Lib.hid c1
  have HR := Lib.hid hR
  clear h0 c1 hR hkk
  have hkn : (a : Int) + 2 + k ≤ l.length := by omega
  go_enter Tryz.func79, Tryz.ntmps79
  go_wp2_with fail
  refine (C1.out _).mono ?_
  rintro e w1 ⟨rfl, hb1⟩
  have A1 := H0.out.below hb1
  have HB1 := HBa.out.trans (hb1.mono HBa.out.size)
  clear hb1
  by_cases hk0 : k = 0
  · have hr := HR.out
    rw [if_pos hk0] at hr
    have c2 := fun w => refMissing_any l a (a + 2) w (by omega)
    rw [Int.natCast_add] at c2
    subst hk0
    have C2 := Lib.hid c2
    have HRR := Lib.hid hr
    clear hr c2
    generalize (missing l a (a + 2)) = M at *
    have hra := A1.range
    have hres := A1.res
    go_wp2_with (first
      | (go_at_call 110; refine (C2.out _).mono ?_; rintro e w' ⟨rfl, rfl⟩)
      | (with_reducible refine gate ?_; refine wp_load_tok refTokTy rfl _ rfl (w.heap.size + 1) 0 rfl _ rfl hra ?_)
      | (with_reducible refine gate ?_; refine wp_store_tok rfl _ _ rfl w.heap.size _ _ _ _ _ _ _ _ _ rfl rfl hres rfl ?_; intro w2 hw2 hu2))
    refine bodyPost_ret (v := .tuple #[.agg _, _, _]) (res_whole3 Tryz.results79 _ _ w.heap.size rfl _ _ hw2 Tryz.underlying43 rfl tokSize _ _ rfl rfl) rfl ⟨?_, ?_⟩
    · rw [← HRR.out]; exact TokRes.err (t := ⟨2, [], [], false, [], a⟩)
    · exact HB1.trans (hu2.below (Nat.le_refl _) HB1.size)
  · have hr := HR.out
    rw [if_neg hk0] at hr
    have hkp : (0 : Int) < k := by omega
    have e3 : ((a : Int) + 2 + k).toNat = a + 2 + k := by omega
    have e4 : (a : Int) + 2 ≤ (a : Int) + 2 + k := by omega
    have c2 := fun w => refSpaces_any l (a + 2 + k) w (by omega) (by omega)
    rw [Int.natCast_add, Int.natCast_add] at c2
    have s1 := spEnd_ge l (a + 2 + k)
    have s2 := spEnd_le (l := l) (n := a + 2 + k) (by omega)
    obtain ⟨x, hx⟩ : ∃ x, spEnd l (a + 2 + k) = x := ⟨_, rfl⟩
    rw [hx] at hr c2 s1 s2
    have C2 := Lib.hid c2
    have HR2 := Lib.hid hr
    have hc1 := A1.c1
    have hf1 := A1.free 1
    have A2 := Lib.hid (A1.name ((l.drop (a + 2)).take k))
    have HB2 := Lib.hid (HB1.setCell (p := ⟨w.heap.size + 1, 1, none⟩) (by simp) (.string (S ((l.drop (a + 2)).take k))))
    clear hr c2 hx HR C1 H0 HBa
    go_wp2_with fail
    generalize hnm : (l.drop (a + 2)).take k = nm at *
    generalize w1.setCell ⟨w.heap.size + 1, 1, none⟩ (.string (S nm)) = W2 at *
    clear hnm hc1 hf1 A1 HB1
    refine (C2.out _).mono ?_
    rintro e w' ⟨rfl, rfl⟩
    have c3 := fun w => refHas_any l x [62] w (by omega) (by omega) (by decide) (by simp)
    cases hb : hasAt l x [62]
    · have hr := HR2.out
      rw [hb, if_neg (by decide)] at hr
      rw [hb] at c3
      have C3 := Lib.hid c3
      have HR3 := Lib.hid hr
      have c4 := fun w => refMissing_any l a x w (by omega)
      have C4 := Lib.hid c4
      clear hr c3 c4 hb HR2
      generalize (missing l a x) = M at *
      have hra := A2.out.range
      have hres := A2.out.res
      go_wp2_with (first
        | (go_at_call 43; refine (C3.out _).mono ?_; rintro e w' ⟨rfl, rfl⟩)
        | (go_at_call 110; refine (C4.out _).mono ?_; rintro e w' ⟨rfl, rfl⟩)
        | (with_reducible refine gate ?_; refine wp_load_tok refTokTy rfl _ rfl (w.heap.size + 1) 0 rfl _ rfl hra ?_)
        | (with_reducible refine gate ?_; refine wp_store_tok rfl _ _ rfl w.heap.size _ _ _ _ _ _ _ _ _ rfl rfl hres rfl ?_; intro w2 hw2 hu2))
      refine bodyPost_ret (v := .tuple #[.agg _, _, _]) (res_whole3 Tryz.results79 _ _ w.heap.size rfl _ _ hw2 Tryz.underlying43 rfl tokSize _ _ rfl rfl) rfl ⟨?_, ?_⟩
      · rw [← HR3.out]; exact TokRes.err (t := ⟨2, nm, [], false, [], a⟩)
      · exact HB2.out.trans (hu2.below (Nat.le_refl _) HB2.out.size)
    · have hr := HR2.out
      rw [hb, if_pos rfl] at hr
      rw [hb] at c3
      have C3 := Lib.hid c3
      have HR3 := Lib.hid hr
      clear hr c3 hb HR2
      have hra := A2.out.range
      have hres := A2.out.res
      go_wp2_with (first
        | (go_at_call 43; refine (C3.out _).mono ?_; rintro e w' ⟨rfl, rfl⟩)
        | (with_reducible refine gate ?_; refine wp_load_tok refTokTy rfl _ rfl (w.heap.size + 1) 0 rfl _ rfl hra ?_)
        | (with_reducible refine gate ?_; refine wp_store_tok rfl _ _ rfl w.heap.size _ _ _ _ _ _ _ _ _ rfl rfl hres rfl ?_; intro w2 hw2 hu2))
      refine bodyPost_ret (v := .tuple #[.agg _, _, _]) (res_whole3 Tryz.results79 _ _ w.heap.size rfl _ _ hw2 Tryz.underlying43 rfl tokSize _ _ rfl rfl) rfl ⟨?_, ?_⟩
      · rw [← HR3.out]; exact TokRes.fine (t := ⟨2, nm, [], false, [], a⟩) (by simp) (AttsP.none _ _)
      · exact HB2.out.trans (hu2.below (Nat.le_refl _) HB2.out.size)
end Go.Proofs.YthbfahbjfioghaaGreatDoor

