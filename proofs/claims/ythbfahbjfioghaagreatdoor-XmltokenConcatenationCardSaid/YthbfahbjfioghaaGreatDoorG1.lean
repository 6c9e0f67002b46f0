/-
  Several texts in one file, in build order:
  - Walk of chapter 6: the program's construct. Made by gen_tokp8.py.
  - Walk of chapter 6: the program's Tokens.
  - Walks of chapter 6's statements: the examples; whether two rows of tokens are the same.
  - Walks of chapter 6's statements: the examples; MatchesReference.
-/
import Derived.Test.YthbfahbjfioghaaGreatDoorG5
import Derived.Test.YthbfahbjfioghaaGreatDoorTokR7
import Derived.Laws.StructEq
set_option linter.unusedVariables false
namespace Go.Proofs.YthbfahbjfioghaaGreatDoor
open Go.RowKit

theorem proTokTy : TokTy 34 23 := ⟨by kernel_rfl, by kernel_rfl, ⟨_, Tryz.underlying34, rfl⟩⟩
theorem tokSizeP : (Tryz.prog.info? 34).map (·.size) = some 6 := by kernel_rfl
theorem wp_store_tokP {ops : Array Oper} {rest : List Oper} {o : Oper} {a : Act} {w : World} {Q : Exit → Act → World → Prop} (hgd : o.guard = none) (x y : Operand) (ho : o.op = .store 34 x y)
    (g : Nat) (cur : Array Value) (k p : Int) (nm t : ByteArray) (A : Option Addr) (n c : Nat) (em : Bool) (hx : a.eval x = .pointer (some ⟨g, 0, none⟩)) (hy : a.eval y = .agg #[.int .i64 k, .string nm, .slice A n c, .bool em, .string t, .int .i64 p])
    (hg : w.heap[g]? = some (.cells cur 34 (0, 0))) (hs : cur.size = 6)
    (h : ∀ w', w'.heap[g]? = some (.cells #[.int .i64 k, .string nm, .slice A n c, .bool em, .string t, .int .i64 p] 34 (0, 0)) → Upd g w w' → wpList Tryz.prog ops Q rest (a.put o.dst undef) w') : wpList Tryz.prog ops Q (o :: rest) a w :=
  wp_store_whole hgd 34 x y ho g 34 cur _ hx hy hg (by rw [hs]; rfl) tokSizeP (by simp [Value.oneCell']) h
theorem findS_upto (c : UInt8) : ∀ y : Bytes, findS [c] y = (upto c y).map List.length
  | [] => rfl
  | d :: y => by
    rw [findS, upto, findS_upto c y]
    by_cases h : d = c
    · subst h; simp
    · have h1 : List.isPrefixOf [c] (d :: y) = false := by
        have : (c == d) = false := by rw [beq_eq_false_iff_ne]; exact fun e => h e.symm
        simp [List.isPrefixOf, this]
      rw [if_neg (by rw [h1]; decide), if_neg h]
      cases upto c y <;> simp
theorem index_lt (y : Bytes) : Lib.indexByte y 60 = optI (findS sLt y) := by
  rw [indexByte_upto, show sLt = [60] from rfl, findS_upto]
  cases upto 60 y <;> rfl
/-- Whether the program keeps a token. -/
def keepP (t : Tok) : Bool := t.kind == 1 || t.kind == 2 || t.text != []
/-- A token of the program and one of the plain function: both are kept and the same, or neither is kept. -/
def KeepSame (t t' : Tok) : Prop := (keepTok t = true ∧ t' = t ∧ keepP t = true) ∨ (keepTok t = false ∧ keepP t' = false)
/-- What construct returns. -/
def ConsRes (w0 : World) (b : Nat) (l : Bytes) (ea : Int) (R : Except (Nat × Nat) (Tok × Nat)) (e : Ending) (w' : World) : Prop :=
  (match R with
  | .error q => (∃ t A c, e = .returned (.agg (tokCells t A c))) ∧ ∃ n : Int, Cur w' b l n q.1 q.2
  | .ok (t, x) => Cur w' b l x ea 0 ∧ ∃ t' A c, e = .returned (.agg (tokCells t' A c)) ∧ AttsP w' (fun k => w0.heap.size ≤ k ∧ k < w'.heap.size) (.slice A t'.attrs.length c) t'.attrs ∧ KeepSame t t') ∧ Upd b w0 w'
/-- The result's block. -/
abbrev Res0 (W : World) (r : Nat) : Prop := W.heap[r]? = some (.cells zTokC 34 (0, 0))
theorem TagB.range {w : World} {g b : Nat} {k : Int} {nm : Bytes} {A : Option Addr} {n c : Nat} {em : Bool} {tx : Bytes} {p : Int} (h : TagB w g b k nm A n c em tx p) : w.rangeAt g 1 [.int .i64 k, .string (S nm), .slice A n c, .bool em, .string (S tx), .int .i64 p] := by
  obtain ⟨h0, h1, h2, h3, h4, h5, h6⟩ := h.cells
  intro j v hj
  match j, hj with
  | 0, hj => cases hj; exact h1
  | 1, hj => cases hj; exact h2
  | 2, hj => cases hj; exact h3
  | 3, hj => cases hj; exact h4
  | 4, hj => cases hj; exact h5
  | 5, hj => cases hj; exact h6
section
variable {w W W2 : World} {b r : Nat} {l : Bytes} {ea : Int} {R : Except (Nat × Nat) (Tok × Nat)} {q : Nat × Nat}
theorem ConsRes.err {k : Int} {nm : Bytes} {A : Option Addr} {n c : Nat} {em : Bool} {tx : Bytes} {p i : Int} (hR : R = .error q) (hr : r = w.heap.size) (hC : Cur W b l i q.1 q.2) (hU : Upd b w W) (hbr : b < r) (hu2 : Upd r W W2) :
    ConsRes w b l ea R (.returned (.agg #[.int .i64 k, .string (S nm), .slice A n c, .bool em, .string (S tx), .int .i64 p])) W2 := by
  subst hR hr
  refine ⟨⟨⟨⟨k, nm, List.replicate n ⟨[], [], [], 0⟩, em, tx, p⟩, A, c, by simp [tokCells]⟩, i, hC.keep (hu2.block b hC.lt (by omega))⟩, hU.more (hu2.below (Nat.le_refl _) hU.size)⟩
theorem ConsRes.fine {t t' : Tok} {x : Nat} {A : Option Addr} {n c : Nat} {k : Int} {nm : Bytes} {em : Bool} {tx : Bytes} {p : Int} (hR : R = .ok (t, x)) (hr : r = w.heap.size) (hC : Cur W b l x ea 0) (hU : Upd b w W) (hbr : b < r) (hu2 : Upd r W W2)
    (ht : t' = ⟨k, nm, t'.attrs, em, tx, p⟩) (hn : n = t'.attrs.length) (hat : AttsP W (fun j => r < j ∧ j < W.heap.size) (.slice A n c) t'.attrs) (hk : KeepSame t t') :
    ConsRes w b l ea R (.returned (.agg #[.int .i64 k, .string (S nm), .slice A n c, .bool em, .string (S tx), .int .i64 p])) W2 := by
  subst hR hr hn
  refine ⟨⟨hC.keep (hu2.block b hC.lt (by omega)), t', A, c, ?_, ?_, hk⟩, hU.more (hu2.below (Nat.le_refl _) hU.size)⟩
  · rw [ht]
  · exact hat.keep (fun j hj => hu2.block j hj.2 (by omega)) (fun j hj => ⟨by omega, by have := hu2.size; omega⟩)
end

/-- The tag's cells while nothing has been read. -/
theorem ReS.kind_ {w0 W : World} {b g : Nat} {k : Int} {nm : Bytes} {A : Option Addr} {bs : List Att} {c : Nat} {em : Bool} {tx : Bytes} {a : Nat} (s : ReS w0 b g k nm A bs c em tx a W) (h0 : w0.heap.size ≤ g) (x : Int) : ReS w0 b g x nm A bs c em tx a (W.setCell ⟨g, 1, none⟩ (.int .i64 x)) :=
  ⟨s.up.more ((Below.refl _ _).setCell (p := ⟨g, 1, none⟩) h0 _), s.tag.kind_ x, s.row.heap fun j hj => Below.heap_setCell _ _ _ _ (by have := s.row.lt j hj; simp; omega)⟩
theorem ReS.text_ {w0 W : World} {b g : Nat} {k : Int} {nm : Bytes} {A : Option Addr} {bs : List Att} {c : Nat} {em : Bool} {tx : Bytes} {a : Nat} (s : ReS w0 b g k nm A bs c em tx a W) (h0 : w0.heap.size ≤ g) (x : Bytes) : ReS w0 b g k nm A bs c em x a (W.setCell ⟨g, 5, none⟩ (.string (S x))) :=
  ⟨s.up.more ((Below.refl _ _).setCell (p := ⟨g, 5, none⟩) h0 _), s.tag.text_ x, s.row.heap fun j hj => Below.heap_setCell _ _ _ _ (by have := s.row.lt j hj; simp; omega)⟩
theorem ReS.t1 {w0 W : World} {b g : Nat} {k : Int} {nm : Bytes} {A : Option Addr} {bs : List Att} {c : Nat} {em : Bool} {tx : Bytes} {a : Nat} (s : ReS w0 b g k nm A bs c em tx a W) : W.cell? ⟨g, 1, none⟩ = some (.int .i64 k) := s.tag.cells.2.1
theorem ReS.t5 {w0 W : World} {b g : Nat} {k : Int} {nm : Bytes} {A : Option Addr} {bs : List Att} {c : Nat} {em : Bool} {tx : Bytes} {a : Nat} (s : ReS w0 b g k nm A bs c em tx a W) : W.cell? ⟨g, 5, none⟩ = some (.string (S tx)) := s.tag.cells.2.2.2.2.2.1
theorem ReS.res {w0 W : World} {b g r : Nat} {k : Int} {nm : Bytes} {A : Option Addr} {bs : List Att} {c : Nat} {em : Bool} {tx : Bytes} {a : Nat} (s : ReS w0 b g k nm A bs c em tx a W) (h : Res0 w0 r) (hb : b < r) : Res0 W r := (s.up.block r (heap_lt h) (by omega)).trans h
theorem ReS.atts {w0 W : World} {b g r : Nat} {k : Int} {nm : Bytes} {A : Option Addr} {bs : List Att} {c : Nat} {em : Bool} {tx : Bytes} {a : Nat} (s : ReS w0 b g k nm A bs c em tx a W) (h : r < g) : AttsP W (fun j => r < j ∧ j < W.heap.size) (.slice A bs.length c) bs :=
  s.row.attsP fun j hj => by have := s.row.lt j hj; exact ⟨by omega, this.2⟩

theorem keepText {D : Bytes} {a : Int} : KeepSame ⟨3, [], [], false, D, a⟩ ⟨3, [], [], false, D, a⟩ := by
  by_cases h : D = []
  · subst h; exact .inr ⟨rfl, rfl⟩
  · have h1 : (D != []) = true := by rw [bne_iff_ne]; exact h
    exact .inl ⟨by simp [keepTok, h1], rfl, by simp [keepP, h1]⟩

set_option maxHeartbeats 4000000 in
set_option maxRecDepth 100000 in
theorem curCons_any (b : Nat) (l : Bytes) (a : Nat) (ea m : Int) (w : World) (hT : Tabs w) (hM : MaxLen m w) (hC : Cur w b l a ea 0) (ha : a < l.length) (hl : l.length ≤ 1000000000) :
    Calls Tryz.prog 42 #[.pointer (some ⟨b, 0, none⟩)] w (ConsRes w b l ea (consAt l a)) := by
  obtain ⟨R, hR⟩ : ∃ R, consAt l a = R := ⟨_, rfl⟩
  rw [hR]
  unfold consAt at hR
  have hb := hC.lt
  obtain ⟨r, hr⟩ : ∃ r, w.heap.size = r := ⟨_, rfl⟩
  rw [hr] at hb
  obtain ⟨w0, hw0⟩ : ∃ w0, w.alloc (.cells zTokC 34) = w0 := ⟨_, rfl⟩
  have hz0 : w0.heap.size = r + 1 := by rw [← hw0]; simp [hr]
  have hB0 : Below w.heap.size w w0 := by rw [← hw0]; exact (Below.refl _ _).alloc (Nat.le_refl _) _
  have hU0 : Upd b w w0 := .of_below hB0
  have hC0 : Cur w0 b l a ea 0 := hC.below hB0
  have hS : TS w0 b m := ⟨hT.next hB0, hM.below hB0, _, _, _, _, hC0⟩
  have hres : Res0 w0 r := by unfold Res0; rw [← hw0]; exact alloc_at hr
  have hbg : b < r + 1 := by omega
  have s1 : ReS w0 b (r + 1) 0 [] none [] 0 false [] a (w0.alloc (.cells #[.pointer (some ⟨b, 0, none⟩), .int .i64 0, .string ⟨#[]⟩, .slice none 0 0, .bool false, .string ⟨#[]⟩, .int .i64 a] 104)) :=
    ⟨(Upd.refl _ _).alloc _, alloc_at hz0, AttRow.nil _ _⟩
  have C1 := Lib.hid (hC0.alloc (.cells #[.pointer (some ⟨b, 0, none⟩), .int .i64 0, .string ⟨#[]⟩, .slice none 0 0, .bool false, .string ⟨#[]⟩, .int .i64 a] 104))
  have S1 := Lib.hid s1
  have HR := Lib.hid hR
  have HS := Lib.hid hS
  have HRES := Lib.hid hres
  have HU0 := Lib.hid hU0
  have HRR := Lib.hid hr.symm
  have HZ0 := Lib.hid hz0
  have hg0 : w0.heap.size ≤ r + 1 := by omega
  have k1 := hC0.c1
  have ha' : a ≤ l.length := by omega
  clear s1 hR hS hres hU0 hC hC0 hB0 hT hM
  go_enter Tryz.func42, Tryz.ntmps42
  go_upto_region 9 with (fail)
  clear k1
  generalize w0.alloc (.cells #[.pointer (some ⟨b, 0, none⟩), .int .i64 0, .string ⟨#[]⟩, .slice none 0 0, .bool false, .string ⟨#[]⟩, .int .i64 a] 104) = W1 at *
  clear hw0 hz0 hr
  cases b1 : hasAt l a sPi
  case true =>
    have hr := HR.out
    rw [b1, if_pos rfl] at hr
    have HR := Lib.hid hr
    clear hr
    have cA : Calls Tryz.prog 41 #[.pointer (some ⟨b, 0, none⟩), .string ⟨#[60, 63]⟩] W1 _ := curYes_any b l a ea 0 sPi W1 b1 C1.out ha' hl
    have CA := Lib.hid cA
    clear cA
    go_wp2_with fail
    refine CA.out.mono ?_
    rintro e W2 ⟨rfl, hcu, hup⟩
    have S2 := Lib.hid (S1.out.upd hup hbg)
    have C2 := Lib.hid hcu
    clear hup hcu CA S1 C1
    have hle : a + 2 ≤ l.length := by
      have := hasAt_le b1
      simp [sPi] at this; omega
    have hr := HR.out
    clear HR b1
    unfold skipAt at hr
    have cU : Calls Tryz.prog 70 #[.pointer (some ⟨b, 0, none⟩), .string ⟨#[63, 62]⟩] W2 _ := curUntil_any b l (a + 2) ea 0 sPiEnd m W2 (HS.out.max_ S2.out.up) C2.out hle (by omega)
    unfold untlS untlN at cU
    cases hf : findS sPiEnd (l.drop (a + 2)) with
    | none =>
      rw [hf] at hr cU
      have HRE : Hid (R = .error (a, 8)) := hr.symm
      have CU := Lib.hid cU
      clear cU hf hr
      go_wp2_with fail
      refine CU.out.mono ?_
      rintro e W3 ⟨rfl, hcu, hup⟩
      have S3 := Lib.hid (S2.out.upd hup hbg)
      have C3 := Lib.hid hcu
      clear hup hcu CU S2 C2
      go_wp2_with fail
      refine (curFail0_any b l _ ea a 8 _ C3.out).mono ?_
      rintro e W8 ⟨rfl, hcu, hup⟩
      have S8 := Lib.hid (S3.out.upd hup hbg)
      have C8 := Lib.hid hcu
      clear hup hcu
      have hra := S8.out.tag.range
      have hrs := S8.out.res HRES.out hb
      have HRS := Lib.hid hrs
      go_wp2_with (first
        | (with_reducible refine gate ?_; refine wp_load_tok proTokTy rfl _ rfl (r + 1) 1 rfl _ rfl hra ?_)
        | (with_reducible refine gate ?_; refine wp_store_tokP rfl _ _ rfl r _ _ _ _ _ _ _ _ _ rfl rfl hrs rfl ?_; intro w2 hw2 hu2))
      refine bodyPost_ret (v := .agg _) (res_whole Tryz.results42 _ _ r rfl _ _ hw2 Tryz.underlying34 rfl tokSizeP) rfl ?_
      exact ConsRes.err HRE.out HRR.out C8.out (HU0.out.trans S8.out.up) hb hu2

    | some j =>
      rw [hf] at hr cU
      have HRE : Hid (R = .ok (zTok 3, a + 2 + j + sPiEnd.length)) := hr.symm
      have CU := Lib.hid cU
      clear cU hf hr
      go_wp2_with fail
      refine CU.out.mono ?_
      rintro e W3 ⟨rfl, hcu, hup⟩
      have S3 := Lib.hid (S2.out.upd hup hbg)
      have C3 := Lib.hid hcu
      clear hup hcu CU S2 C2
      have hra := S3.out.tag.range
      have hrs := S3.out.res HRES.out hb
      have HRS := Lib.hid hrs
      go_wp2_with (first
        | (with_reducible refine gate ?_; refine wp_load_tok proTokTy rfl _ rfl (r + 1) 1 rfl _ rfl hra ?_)
        | (with_reducible refine gate ?_; refine wp_store_tokP rfl _ _ rfl r _ _ _ _ _ _ _ _ _ rfl rfl hrs rfl ?_; intro w2 hw2 hu2))
      refine bodyPost_ret (v := .agg _) (res_whole Tryz.results42 _ _ r rfl _ _ hw2 Tryz.underlying34 rfl tokSizeP) rfl ?_
      exact ConsRes.fine (t' := ⟨0, [], [], false, [], a⟩) HRE.out HRR.out (by rw [Nat.add_assoc]; exact C3.out) (HU0.out.trans S3.out.up) hb hu2 rfl rfl (S3.out.atts (by omega)) (.inr ⟨rfl, rfl⟩)

  have hr := HR.out
  rw [b1, if_neg (by decide)] at hr
  have HR := Lib.hid hr
  clear hr
  have cA : Calls Tryz.prog 41 #[.pointer (some ⟨b, 0, none⟩), .string ⟨#[60, 63]⟩] W1 _ := curNo_any b l a ea 0 sPi W1 b1 C1.out ha' hl
  have CA := Lib.hid cA
  clear cA
  go_wp2_with fail
  refine CA.out.mono ?_
  rintro e W11 ⟨rfl, hcu, hup⟩
  have S11 := Lib.hid (S1.out.upd hup hbg)
  have C11 := Lib.hid hcu
  clear hup hcu CA S1 C1
  clear b1
  cases b1 : hasAt l a sCom
  case true =>
    have hr := HR.out
    rw [b1, if_pos rfl] at hr
    have HR := Lib.hid hr
    clear hr
    have cA : Calls Tryz.prog 41 #[.pointer (some ⟨b, 0, none⟩), .string ⟨#[60, 33, 45, 45]⟩] W11 _ := curYes_any b l a ea 0 sCom W11 b1 C11.out ha' hl
    have CA := Lib.hid cA
    clear cA
    go_wp2_with fail
    refine CA.out.mono ?_
    rintro e W2 ⟨rfl, hcu, hup⟩
    have S2 := Lib.hid (S11.out.upd hup hbg)
    have C2 := Lib.hid hcu
    clear hup hcu CA S11 C11
    have hle : a + 4 ≤ l.length := by
      have := hasAt_le b1
      simp [sCom] at this; omega
    have hr := HR.out
    clear HR b1
    unfold skipAt at hr
    have cU : Calls Tryz.prog 70 #[.pointer (some ⟨b, 0, none⟩), .string ⟨#[45, 45, 62]⟩] W2 _ := curUntil_any b l (a + 4) ea 0 sComEnd m W2 (HS.out.max_ S2.out.up) C2.out hle (by omega)
    unfold untlS untlN at cU
    cases hf : findS sComEnd (l.drop (a + 4)) with
    | none =>
      rw [hf] at hr cU
      have HRE : Hid (R = .error (a, 8)) := hr.symm
      have CU := Lib.hid cU
      clear cU hf hr
      go_wp2_with fail
      refine CU.out.mono ?_
      rintro e W3 ⟨rfl, hcu, hup⟩
      have S3 := Lib.hid (S2.out.upd hup hbg)
      have C3 := Lib.hid hcu
      clear hup hcu CU S2 C2
      go_wp2_with fail
      refine (curFail0_any b l _ ea a 8 _ C3.out).mono ?_
      rintro e W8 ⟨rfl, hcu, hup⟩
      have S8 := Lib.hid (S3.out.upd hup hbg)
      have C8 := Lib.hid hcu
      clear hup hcu
      have hra := S8.out.tag.range
      have hrs := S8.out.res HRES.out hb
      have HRS := Lib.hid hrs
      go_wp2_with (first
        | (with_reducible refine gate ?_; refine wp_load_tok proTokTy rfl _ rfl (r + 1) 1 rfl _ rfl hra ?_)
        | (with_reducible refine gate ?_; refine wp_store_tokP rfl _ _ rfl r _ _ _ _ _ _ _ _ _ rfl rfl hrs rfl ?_; intro w2 hw2 hu2))
      refine bodyPost_ret (v := .agg _) (res_whole Tryz.results42 _ _ r rfl _ _ hw2 Tryz.underlying34 rfl tokSizeP) rfl ?_
      exact ConsRes.err HRE.out HRR.out C8.out (HU0.out.trans S8.out.up) hb hu2

    | some j =>
      rw [hf] at hr cU
      have HRE : Hid (R = .ok (zTok 3, a + 4 + j + sComEnd.length)) := hr.symm
      have CU := Lib.hid cU
      clear cU hf hr
      go_wp2_with fail
      refine CU.out.mono ?_
      rintro e W3 ⟨rfl, hcu, hup⟩
      have S3 := Lib.hid (S2.out.upd hup hbg)
      have C3 := Lib.hid hcu
      clear hup hcu CU S2 C2
      have hra := S3.out.tag.range
      have hrs := S3.out.res HRES.out hb
      have HRS := Lib.hid hrs
      go_wp2_with (first
        | (with_reducible refine gate ?_; refine wp_load_tok proTokTy rfl _ rfl (r + 1) 1 rfl _ rfl hra ?_)
        | (with_reducible refine gate ?_; refine wp_store_tokP rfl _ _ rfl r _ _ _ _ _ _ _ _ _ rfl rfl hrs rfl ?_; intro w2 hw2 hu2))
      refine bodyPost_ret (v := .agg _) (res_whole Tryz.results42 _ _ r rfl _ _ hw2 Tryz.underlying34 rfl tokSizeP) rfl ?_
      exact ConsRes.fine (t' := ⟨0, [], [], false, [], a⟩) HRE.out HRR.out (by rw [Nat.add_assoc]; exact C3.out) (HU0.out.trans S3.out.up) hb hu2 rfl rfl (S3.out.atts (by omega)) (.inr ⟨rfl, rfl⟩)

  have hr := HR.out
  rw [b1, if_neg (by decide)] at hr
  have HR := Lib.hid hr
  clear hr
  have cA : Calls Tryz.prog 41 #[.pointer (some ⟨b, 0, none⟩), .string ⟨#[60, 33, 45, 45]⟩] W11 _ := curNo_any b l a ea 0 sCom W11 b1 C11.out ha' hl
  have CA := Lib.hid cA
  clear cA
  go_wp2_with fail
  refine CA.out.mono ?_
  rintro e W12 ⟨rfl, hcu, hup⟩
  have S12 := Lib.hid (S11.out.upd hup hbg)
  have C12 := Lib.hid hcu
  clear hup hcu CA S11 C11
  clear b1
  cases b1 : hasAt l a sCd
  case true =>
    have hr := HR.out
    rw [b1, if_pos rfl] at hr
    have HR := Lib.hid hr
    clear hr
    have cA : Calls Tryz.prog 41 #[.pointer (some ⟨b, 0, none⟩), .string ⟨#[60, 33, 91, 67, 68, 65, 84, 65, 91]⟩] W12 _ := curYes_any b l a ea 0 sCd W12 b1 C12.out ha' hl
    have CA := Lib.hid cA
    clear cA
    go_wp2_with fail
    refine CA.out.mono ?_
    rintro e W2 ⟨rfl, hcu, hup⟩
    have S2 := Lib.hid (S12.out.upd hup hbg)
    have C2 := Lib.hid hcu
    clear hup hcu CA S12 C12
    have hle : a + 9 ≤ l.length := by
      have := hasAt_le b1
      simp [sCd] at this; omega
    have hr := HR.out
    clear HR b1
    unfold skipAt at hr
    have x1 := S2.out.t1
    have xf := S2.out.tag.free 1
    have S3 := Lib.hid (S2.out.kind_ hg0 3)
    have C3 := Lib.hid (C2.out.other (i := 1) (show b ≠ r + 1 by omega) (.int .i64 3))
    have cU : ∀ W, Upd b w0 W → Cur W b l ((a + 9 : Nat) : Int) ea 0 → Calls Tryz.prog 70 #[.pointer (some ⟨b, 0, none⟩), .string ⟨#[93, 93, 62]⟩] W _ := fun W h1 h2 => curUntil_any b l (a + 9) ea 0 sCdEnd m W (HS.out.max_ h1) h2 hle (by omega)
    unfold untlS untlN at cU
    cases hf : findS sCdEnd (l.drop (a + 9)) with
    | none =>
      rw [hf] at hr cU
      have HRE : Hid (R = .error (a, 8)) := hr.symm
      have CU := Lib.hid cU
      clear cU hf hr
      go_wp2_with fail
      refine (CU.out _ S3.out.up C3.out).mono ?_
      rintro e W4 ⟨rfl, hcu, hup⟩
      have hs4 := S3.out.upd hup hbg
      have x5 := hs4.t5
      have xf5 := hs4.tag.free 5
      have S5 := Lib.hid (hs4.text_ hg0 (l.drop (a + 9)))
      have C5 := Lib.hid (hcu.other (i := 5) (show b ≠ r + 1 by omega) (.string (S (l.drop (a + 9)))))
      have y5 := S5.out.t5
      have yf5 := S5.out.tag.free 5
      clear hup hcu CU hs4
      have hln : ∀ W, Upd b w0 W → Calls Tryz.prog 71 #[.string (S (l.drop (a + 9)))] W fun e w' => e = .returned (.string (S (linesB (l.drop (a + 9))))) ∧ Below W.heap.size W w' := fun W h => lines_any (l.drop (a + 9)) m W (HS.out.max_ h) (by simp; omega)
      obtain ⟨D, hD⟩ : ∃ D, linesB (l.drop (a + 9)) = D := ⟨_, rfl⟩
      -- no result
      rw [hD] at hln
      have HLN := Lib.hid hln
      clear hln hD
      go_wp2_with fail
      refine (HLN.out _ S5.out.up).mono ?_
      rintro e W6 ⟨rfl, hbe⟩
      have hs6 := S5.out.upd (Upd.of_below hbe) hbg
      have hc6 := C5.out.below hbe
      have u5 := hs6.t5
      have uf5 := hs6.tag.free 5
      have S7 := Lib.hid (hs6.text_ hg0 D)
      have C7 := Lib.hid (hc6.other (i := 5) (show b ≠ r + 1 by omega) (.string (S D)))
      clear hbe hs6 hc6 y5 yf5 HLN
      go_wp2_with fail
      refine (curFail0_any b l _ ea a 8 _ C7.out).mono ?_
      rintro e W8 ⟨rfl, hcu, hup⟩
      have S8 := Lib.hid (S7.out.upd hup hbg)
      have C8 := Lib.hid hcu
      clear hup hcu
      have hra := S8.out.tag.range
      have hrs := S8.out.res HRES.out hb
      have HRS := Lib.hid hrs
      go_wp2_with (first
        | (with_reducible refine gate ?_; refine wp_load_tok proTokTy rfl _ rfl (r + 1) 1 rfl _ rfl hra ?_)
        | (with_reducible refine gate ?_; refine wp_store_tokP rfl _ _ rfl r _ _ _ _ _ _ _ _ _ rfl rfl hrs rfl ?_; intro w2 hw2 hu2))
      refine bodyPost_ret (v := .agg _) (res_whole Tryz.results42 _ _ r rfl _ _ hw2 Tryz.underlying34 rfl tokSizeP) rfl ?_
      exact ConsRes.err HRE.out HRR.out C8.out (HU0.out.trans S8.out.up) hb hu2

    | some j =>
      rw [hf] at hr cU
      have hfl := findS_le hf
      rw [List.length_drop] at hfl
      have HRE : Hid (R = .ok (⟨3, [], [], false, linesB ((l.drop (a + 9)).take j), a⟩, a + 9 + j + sCdEnd.length)) := by
        have e3 : a + 9 + j + sCdEnd.length - 3 - (a + 9) = j := by simp only [sCdEnd, List.length_cons, List.length_nil]; omega
        refine hr.symm.trans ?_
        show Except.ok ((⟨3, [], [], false, linesB ((l.drop (a + 9)).take (a + 9 + j + sCdEnd.length - 3 - (a + 9))), a⟩ : Tok), a + 9 + j + sCdEnd.length) = _
        rw [e3]
      have CU := Lib.hid cU
      clear cU hf hr hfl
      go_wp2_with fail
      refine (CU.out _ S3.out.up C3.out).mono ?_
      rintro e W4 ⟨rfl, hcu, hup⟩
      have hs4 := S3.out.upd hup hbg
      have x5 := hs4.t5
      have xf5 := hs4.tag.free 5
      have S5 := Lib.hid (hs4.text_ hg0 ((l.drop (a + 9)).take j))
      have C5 := Lib.hid (hcu.other (i := 5) (show b ≠ r + 1 by omega) (.string (S ((l.drop (a + 9)).take j))))
      have y5 := S5.out.t5
      have yf5 := S5.out.tag.free 5
      clear hup hcu CU hs4
      have hln : ∀ W, Upd b w0 W → Calls Tryz.prog 71 #[.string (S ((l.drop (a + 9)).take j))] W fun e w' => e = .returned (.string (S (linesB ((l.drop (a + 9)).take j)))) ∧ Below W.heap.size W w' := fun W h => lines_any ((l.drop (a + 9)).take j) m W (HS.out.max_ h) (by simp; omega)
      obtain ⟨D, hD⟩ : ∃ D, linesB ((l.drop (a + 9)).take j) = D := ⟨_, rfl⟩
      have HRE := HRE.out
      rw [hD] at HRE
      have HRE := Lib.hid HRE
      rw [hD] at hln
      have HLN := Lib.hid hln
      clear hln hD
      go_wp2_with fail
      refine (HLN.out _ S5.out.up).mono ?_
      rintro e W6 ⟨rfl, hbe⟩
      have hs6 := S5.out.upd (Upd.of_below hbe) hbg
      have hc6 := C5.out.below hbe
      have u5 := hs6.t5
      have uf5 := hs6.tag.free 5
      have S7 := Lib.hid (hs6.text_ hg0 D)
      have C7 := Lib.hid (hc6.other (i := 5) (show b ≠ r + 1 by omega) (.string (S D)))
      clear hbe hs6 hc6 y5 yf5 HLN
      have hra := S7.out.tag.range
      have hrs := S7.out.res HRES.out hb
      have HRS := Lib.hid hrs
      go_wp2_with (first
        | (with_reducible refine gate ?_; refine wp_load_tok proTokTy rfl _ rfl (r + 1) 1 rfl _ rfl hra ?_)
        | (with_reducible refine gate ?_; refine wp_store_tokP rfl _ _ rfl r _ _ _ _ _ _ _ _ _ rfl rfl hrs rfl ?_; intro w2 hw2 hu2))
      refine bodyPost_ret (v := .agg _) (res_whole Tryz.results42 _ _ r rfl _ _ hw2 Tryz.underlying34 rfl tokSizeP) rfl ?_
      exact ConsRes.fine (t' := ⟨3, [], [], false, D, a⟩) (t := ⟨3, [], [], false, D, a⟩) HRE.out HRR.out (by rw [Nat.add_assoc]; exact C7.out) (HU0.out.trans S7.out.up) hb hu2 rfl rfl (S7.out.atts (by omega)) keepText

  have hr := HR.out
  rw [b1, if_neg (by decide)] at hr
  have HR := Lib.hid hr
  clear hr
  have cA : Calls Tryz.prog 41 #[.pointer (some ⟨b, 0, none⟩), .string ⟨#[60, 33, 91, 67, 68, 65, 84, 65, 91]⟩] W12 _ := curNo_any b l a ea 0 sCd W12 b1 C12.out ha' hl
  have CA := Lib.hid cA
  clear cA
  go_wp2_with fail
  refine CA.out.mono ?_
  rintro e W13 ⟨rfl, hcu, hup⟩
  have S13 := Lib.hid (S12.out.upd hup hbg)
  have C13 := Lib.hid hcu
  clear hup hcu CA S12 C12
  clear b1
  cases b1 : hasAt l a sDoc
  case true =>
    have hr := HR.out
    rw [b1, if_pos rfl] at hr
    have HR := Lib.hid hr
    clear hr
    have cA : Calls Tryz.prog 41 #[.pointer (some ⟨b, 0, none⟩), .string ⟨#[60, 33, 68, 79, 67, 84, 89, 80, 69]⟩] W13 _ := curYes_any b l a ea 0 sDoc W13 b1 C13.out ha' hl
    have CA := Lib.hid cA
    clear cA
    go_wp2_with fail
    refine CA.out.mono ?_
    rintro e W2 ⟨rfl, hcu, hup⟩
    have S2 := Lib.hid (S13.out.upd hup hbg)
    have C2 := Lib.hid hcu
    clear hup hcu CA S13 C13
    have HRE : Hid (R = .error (a, 11)) := HR.out.symm
    clear HR b1
    go_wp2_with fail
    refine (curFail0_any b l _ ea a 11 _ C2.out).mono ?_
    rintro e W8 ⟨rfl, hcu, hup⟩
    have S8 := Lib.hid (S2.out.upd hup hbg)
    have C8 := Lib.hid hcu
    clear hup hcu
    have hra := S8.out.tag.range
    have hrs := S8.out.res HRES.out hb
    have HRS := Lib.hid hrs
    go_wp2_with (first
      | (with_reducible refine gate ?_; refine wp_load_tok proTokTy rfl _ rfl (r + 1) 1 rfl _ rfl hra ?_)
      | (with_reducible refine gate ?_; refine wp_store_tokP rfl _ _ rfl r _ _ _ _ _ _ _ _ _ rfl rfl hrs rfl ?_; intro w2 hw2 hu2))
    refine bodyPost_ret (v := .agg _) (res_whole Tryz.results42 _ _ r rfl _ _ hw2 Tryz.underlying34 rfl tokSizeP) rfl ?_
    exact ConsRes.err HRE.out HRR.out C8.out (HU0.out.trans S8.out.up) hb hu2

  have hr := HR.out
  rw [b1, if_neg (by decide)] at hr
  have HR := Lib.hid hr
  clear hr
  have cA : Calls Tryz.prog 41 #[.pointer (some ⟨b, 0, none⟩), .string ⟨#[60, 33, 68, 79, 67, 84, 89, 80, 69]⟩] W13 _ := curNo_any b l a ea 0 sDoc W13 b1 C13.out ha' hl
  have CA := Lib.hid cA
  clear cA
  go_wp2_with fail
  refine CA.out.mono ?_
  rintro e W14 ⟨rfl, hcu, hup⟩
  have S14 := Lib.hid (S13.out.upd hup hbg)
  have C14 := Lib.hid hcu
  clear hup hcu CA S13 C13
  clear b1
  cases b1 : hasAt l a sBang
  case true =>
    have hr := HR.out
    rw [b1, if_pos rfl] at hr
    have HR := Lib.hid hr
    clear hr
    have cA : Calls Tryz.prog 41 #[.pointer (some ⟨b, 0, none⟩), .string ⟨#[60, 33]⟩] W14 _ := curYes_any b l a ea 0 sBang W14 b1 C14.out ha' hl
    have CA := Lib.hid cA
    clear cA
    go_wp2_with fail
    refine CA.out.mono ?_
    rintro e W2 ⟨rfl, hcu, hup⟩
    have S2 := Lib.hid (S14.out.upd hup hbg)
    have C2 := Lib.hid hcu
    clear hup hcu CA S14 C14
    have HRE : Hid (R = .error (a, 7)) := HR.out.symm
    clear HR b1
    go_wp2_with fail
    refine (curFail0_any b l _ ea a 7 _ C2.out).mono ?_
    rintro e W8 ⟨rfl, hcu, hup⟩
    have S8 := Lib.hid (S2.out.upd hup hbg)
    have C8 := Lib.hid hcu
    clear hup hcu
    have hra := S8.out.tag.range
    have hrs := S8.out.res HRES.out hb
    have HRS := Lib.hid hrs
    go_wp2_with (first
      | (with_reducible refine gate ?_; refine wp_load_tok proTokTy rfl _ rfl (r + 1) 1 rfl _ rfl hra ?_)
      | (with_reducible refine gate ?_; refine wp_store_tokP rfl _ _ rfl r _ _ _ _ _ _ _ _ _ rfl rfl hrs rfl ?_; intro w2 hw2 hu2))
    refine bodyPost_ret (v := .agg _) (res_whole Tryz.results42 _ _ r rfl _ _ hw2 Tryz.underlying34 rfl tokSizeP) rfl ?_
    exact ConsRes.err HRE.out HRR.out C8.out (HU0.out.trans S8.out.up) hb hu2

  have hr := HR.out
  rw [b1, if_neg (by decide)] at hr
  have HR := Lib.hid hr
  clear hr
  have cA : Calls Tryz.prog 41 #[.pointer (some ⟨b, 0, none⟩), .string ⟨#[60, 33]⟩] W14 _ := curNo_any b l a ea 0 sBang W14 b1 C14.out ha' hl
  have CA := Lib.hid cA
  clear cA
  go_wp2_with fail
  refine CA.out.mono ?_
  rintro e W15 ⟨rfl, hcu, hup⟩
  have S15 := Lib.hid (S14.out.upd hup hbg)
  have C15 := Lib.hid hcu
  clear hup hcu CA S14 C14
  clear b1
  cases b1 : hasAt l a sEnd
  case true =>
    have hr := HR.out
    rw [b1, if_pos rfl] at hr
    have HR := Lib.hid hr
    clear hr
    have cA : Calls Tryz.prog 41 #[.pointer (some ⟨b, 0, none⟩), .string ⟨#[60, 47]⟩] W15 _ := curYes_any b l a ea 0 sEnd W15 b1 C15.out ha' hl
    have CA := Lib.hid cA
    clear cA
    go_wp2_with fail
    refine CA.out.mono ?_
    rintro e W2 ⟨rfl, hcu, hup⟩
    have S2 := Lib.hid (S15.out.upd hup hbg)
    have C2 := Lib.hid hcu
    clear hup hcu CA S15 C15
    have hle : a + 2 ≤ l.length := by
      have := hasAt_le b1
      simp [sEnd] at this; omega
    have hr := HR.out
    clear HR b1
    unfold endAt at hr
    have x1 := S2.out.t1
    have xf := S2.out.tag.free 1
    have S3 := Lib.hid (S2.out.kind_ hg0 2)
    have C3 := Lib.hid (C2.out.other (i := 1) (show b ≠ r + 1 by omega) (.int .i64 2))
    have hN := fun W (s : ReS w0 b (r + 1) 2 [] none [] 0 false [] a W) (hc : Cur W b l ((a + 2 : Nat) : Int) ea 0) => tagNamed_any w0 m (r + 1) b l (a + 2) a ea 2 [] none 0 0 false [] W HS.out hg0 s.up s.tag hc hle hl
    have hkl := nameLen_le (l.drop (a + 2))
    rw [List.length_drop] at hkl
    obtain ⟨K, hK⟩ : ∃ K, nameLen (l.drop (a + 2)) = K := ⟨_, rfl⟩
    rw [hK] at hN hkl hr
    obtain ⟨T, hTT⟩ : ∃ T, (l.drop (a + 2)).take K = T := ⟨_, rfl⟩
    rw [hTT] at hN hr
    have HN := Lib.hid hN
    clear hN hK hTT
    go_wp2_with fail
    refine (HN.out _ S3.out C3.out).mono ?_
    intro e W4 hres
    unfold NamedRes at hres
    by_cases hk0 : K = 0
    · rw [if_pos hk0] at hr hres
      have HRE : Hid (R = .error (missing l a (a + 2))) := hr.symm
      obtain ⟨rfl, hcu, ⟨nm, htag⟩, hup⟩ := hres
      have S5 : Hid (ReS w0 b (r + 1) 2 nm none [] 0 false [] a W4) := ⟨hup, htag, AttRow.nil _ _⟩
      have C5 := Lib.hid hcu
      clear hcu htag hup hk0 HN
      have hra := S5.out.tag.range
      have hrs := S5.out.res HRES.out hb
      have HRS := Lib.hid hrs
      go_wp2_with (first
        | (with_reducible refine gate ?_; refine wp_load_tok proTokTy rfl _ rfl (r + 1) 1 rfl _ rfl hra ?_)
        | (with_reducible refine gate ?_; refine wp_store_tokP rfl _ _ rfl r _ _ _ _ _ _ _ _ _ rfl rfl hrs rfl ?_; intro w2 hw2 hu2))
      refine bodyPost_ret (v := .agg _) (res_whole Tryz.results42 _ _ r rfl _ _ hw2 Tryz.underlying34 rfl tokSizeP) rfl ?_
      exact ConsRes.err HRE.out HRR.out C5.out (HU0.out.trans S5.out.up) hb hu2

    · rw [if_neg hk0] at hr hres
      obtain ⟨rfl, hcu, htag, hup⟩ := hres
      have S5 : Hid (ReS w0 b (r + 1) 2 T none [] 0 false [] a W4) := ⟨hup, htag, AttRow.nil _ _⟩
      have C5 := Lib.hid hcu
      have x0 := S5.out.t0
      have s1 := spEnd_ge l (a + 2 + K)
      have s2 := spEnd_le (l := l) (n := a + 2 + K) (by omega)
      have hsp := curSpaces_any b l (a + 2 + K) ea 0 W4 hcu (by omega) (by omega)
      obtain ⟨x, hx⟩ : ∃ x, spEnd l (a + 2 + K) = x := ⟨_, rfl⟩
      rw [hx] at hr s1 s2 hsp
      have HSP := Lib.hid hsp
      clear hcu htag hup hk0 HN hsp hx
      go_wp2_with fail
      refine HSP.out.mono ?_
      rintro e W6 ⟨rfl, hcu, hup⟩
      have S6 := Lib.hid (S5.out.upd hup hbg)
      have C6 := Lib.hid hcu
      clear hup hcu S5 C5 HSP x0
      have x0 := S6.out.t0
      cases b2 : hasAt l x [62]
      · rw [b2, if_neg (by decide)] at hr
        have HRE : Hid (R = .error (missing l a x)) := hr.symm
        have cB : Calls Tryz.prog 41 #[.pointer (some ⟨b, 0, none⟩), .string ⟨#[62]⟩] W6 _ := curNo_any b l x ea 0 [62] W6 b2 C6.out s2 hl
        have CB := Lib.hid cB
        clear cB b2 hr
        go_wp2_with fail
        refine CB.out.mono ?_
        rintro e W7 ⟨rfl, hcu, hup⟩
        have S7 := Lib.hid (S6.out.upd hup hbg)
        have C7 := Lib.hid hcu
        clear hup hcu S6 C6 CB x0
        go_wp2_with fail
        refine (tagExpected_any (r + 1) b l x a ea 2 T none 0 0 false [] W7 S7.out.tag (by omega) C7.out hl).mono ?_
        rintro e W8 ⟨rfl, hcu, hup⟩
        have S8 := Lib.hid (S7.out.upd hup hbg)
        have C8 := Lib.hid hcu
        clear hup hcu S7 C7
        have hra := S8.out.tag.range
        have hrs := S8.out.res HRES.out hb
        have HRS := Lib.hid hrs
        go_wp2_with (first
          | (with_reducible refine gate ?_; refine wp_load_tok proTokTy rfl _ rfl (r + 1) 1 rfl _ rfl hra ?_)
          | (with_reducible refine gate ?_; refine wp_store_tokP rfl _ _ rfl r _ _ _ _ _ _ _ _ _ rfl rfl hrs rfl ?_; intro w2 hw2 hu2))
        refine bodyPost_ret (v := .agg _) (res_whole Tryz.results42 _ _ r rfl _ _ hw2 Tryz.underlying34 rfl tokSizeP) rfl ?_
        exact ConsRes.err HRE.out HRR.out C8.out (HU0.out.trans S8.out.up) hb hu2

      · rw [b2, if_pos rfl] at hr
        have HRE := Lib.hid hr.symm
        have cB : Calls Tryz.prog 41 #[.pointer (some ⟨b, 0, none⟩), .string ⟨#[62]⟩] W6 _ := curYes_any b l x ea 0 [62] W6 b2 C6.out s2 hl
        have CB := Lib.hid cB
        clear cB b2 hr
        go_wp2_with fail
        refine CB.out.mono ?_
        rintro e W7 ⟨rfl, hcu, hup⟩
        have S7 := Lib.hid (S6.out.upd hup hbg)
        have C7 := Lib.hid hcu
        clear hup hcu S6 C6 CB x0
        have hra := S7.out.tag.range
        have hrs := S7.out.res HRES.out hb
        have HRS := Lib.hid hrs
        go_wp2_with (first
          | (with_reducible refine gate ?_; refine wp_load_tok proTokTy rfl _ rfl (r + 1) 1 rfl _ rfl hra ?_)
          | (with_reducible refine gate ?_; refine wp_store_tokP rfl _ _ rfl r _ _ _ _ _ _ _ _ _ rfl rfl hrs rfl ?_; intro w2 hw2 hu2))
        refine bodyPost_ret (v := .agg _) (res_whole Tryz.results42 _ _ r rfl _ _ hw2 Tryz.underlying34 rfl tokSizeP) rfl ?_
        exact ConsRes.fine (t' := ⟨2, T, [], false, [], a⟩) HRE.out HRR.out C7.out (HU0.out.trans S7.out.up) hb hu2 rfl rfl (S7.out.atts (by omega)) (.inl ⟨rfl, rfl, rfl⟩)

  have hr := HR.out
  rw [b1, if_neg (by decide)] at hr
  have HR := Lib.hid hr
  clear hr
  have cA : Calls Tryz.prog 41 #[.pointer (some ⟨b, 0, none⟩), .string ⟨#[60, 47]⟩] W15 _ := curNo_any b l a ea 0 sEnd W15 b1 C15.out ha' hl
  have CA := Lib.hid cA
  clear cA
  go_wp2_with fail
  refine CA.out.mono ?_
  rintro e W16 ⟨rfl, hcu, hup⟩
  have S16 := Lib.hid (S15.out.upd hup hbg)
  have C16 := Lib.hid hcu
  clear hup hcu CA S15 C15
  clear b1
  cases b1 : hasAt l a sLt
  case true =>
    have hr := HR.out
    rw [b1, if_pos rfl] at hr
    have HR := Lib.hid hr
    clear hr
    have cA : Calls Tryz.prog 41 #[.pointer (some ⟨b, 0, none⟩), .string ⟨#[60]⟩] W16 _ := curYes_any b l a ea 0 sLt W16 b1 C16.out ha' hl
    have CA := Lib.hid cA
    clear cA
    go_wp2_with fail
    refine CA.out.mono ?_
    rintro e W2 ⟨rfl, hcu, hup⟩
    have S2 := Lib.hid (S16.out.upd hup hbg)
    have C2 := Lib.hid hcu
    clear hup hcu CA S16 C16
    have hle : a + 1 ≤ l.length := by omega
    have hr := HR.out
    clear HR b1
    rw [startAt_eq] at hr
    have x1 := S2.out.t1
    have xf := S2.out.tag.free 1
    have S3 := Lib.hid (S2.out.kind_ hg0 1)
    have C3 := Lib.hid (C2.out.other (i := 1) (show b ≠ r + 1 by omega) (.int .i64 1))
    have hN := fun W (s : ReS w0 b (r + 1) 1 [] none [] 0 false [] a W) (hc : Cur W b l ((a + 1 : Nat) : Int) ea 0) => tagNamed_any w0 m (r + 1) b l (a + 1) a ea 1 [] none 0 0 false [] W HS.out hg0 s.up s.tag hc hle hl
    have hkl := nameLen_le (l.drop (a + 1))
    rw [List.length_drop] at hkl
    obtain ⟨K, hK⟩ : ∃ K, nameLen (l.drop (a + 1)) = K := ⟨_, rfl⟩
    rw [hK] at hN hkl hr
    obtain ⟨T, hTT⟩ : ∃ T, (l.drop (a + 1)).take K = T := ⟨_, rfl⟩
    rw [hTT] at hN hr
    have HN := Lib.hid hN
    clear hN hK hTT
    go_wp2_with fail
    refine (HN.out _ S3.out C3.out).mono ?_
    intro e W4 hres
    unfold NamedRes at hres
    by_cases hk0 : K = 0
    · rw [if_pos hk0] at hr hres
      have HRE : Hid (R = .error (missing l a (a + 1))) := hr.symm
      obtain ⟨rfl, hcu, ⟨nm, htag⟩, hup⟩ := hres
      have S5 : Hid (ReS w0 b (r + 1) 1 nm none [] 0 false [] a W4) := ⟨hup, htag, AttRow.nil _ _⟩
      have C5 := Lib.hid hcu
      clear hcu htag hup hk0 HN
      have hra := S5.out.tag.range
      have hrs := S5.out.res HRES.out hb
      have HRS := Lib.hid hrs
      go_wp2_with (first
        | (with_reducible refine gate ?_; refine wp_load_tok proTokTy rfl _ rfl (r + 1) 1 rfl _ rfl hra ?_)
        | (with_reducible refine gate ?_; refine wp_store_tokP rfl _ _ rfl r _ _ _ _ _ _ _ _ _ rfl rfl hrs rfl ?_; intro w2 hw2 hu2))
      refine bodyPost_ret (v := .agg _) (res_whole Tryz.results42 _ _ r rfl _ _ hw2 Tryz.underlying34 rfl tokSizeP) rfl ?_
      exact ConsRes.err HRE.out HRR.out C5.out (HU0.out.trans S5.out.up) hb hu2

    · rw [if_neg hk0] at hr hres
      obtain ⟨rfl, hcu, htag, hup⟩ := hres
      have hs5 : ReS w0 b (r + 1) 1 T none [] 0 false [] a W4 := ⟨hup, htag, AttRow.nil _ _⟩
      have hrest := tagRest_any w0 m (r + 1) b l (a + 1 + K) a ea 1 T none [] 0 [] (l.length + 1) W4 HS.out hg0 hs5 hcu (by omega) (by simp) (by omega) hl
      obtain ⟨Z, hZ⟩ : ∃ Z, tagF l a (l.length + 1) (a + 1 + K) [] = Z := ⟨_, rfl⟩
      rw [hZ] at hrest hr
      have HRS2 := Lib.hid hrest
      clear hcu htag hup hk0 HN hs5 hrest hZ
      go_wp2_with fail
      refine HRS2.out.mono ?_
      intro e W5 hres
      unfold RestRes at hres
      cases Z with
      | error q =>
        obtain ⟨rfl, ⟨n, hcu⟩, ⟨k', nm', A', n', c', em', tx', p', htag⟩, hup⟩ := hres
        have HRE : Hid (R = .error q) := hr.symm
        have HTA := Lib.hid htag
        have HC8 := Lib.hid hcu
        have HU8 := Lib.hid hup
        have hra := htag.range
        have hrs : Res0 W5 r := (hup.block r (heap_lt HRES.out) (by omega)).trans HRES.out
        clear htag hcu hup HRS2 hr
        go_wp2_with (first
          | (with_reducible refine gate ?_; refine wp_load_tok proTokTy rfl _ rfl (r + 1) 1 rfl _ rfl hra ?_)
          | (with_reducible refine gate ?_; refine wp_store_tokP rfl _ _ rfl r _ _ _ _ _ _ _ _ _ rfl rfl hrs rfl ?_; intro w2 hw2 hu2))
        refine bodyPost_ret (v := .agg _) (res_whole Tryz.results42 _ _ r rfl _ _ hw2 Tryz.underlying34 rfl tokSizeP) rfl ?_
        exact ConsRes.err HRE.out HRR.out HC8.out (HU0.out.trans HU8.out) hb hu2
      | ok z =>
        obtain ⟨cs, em, x⟩ := z
        obtain ⟨rfl, hcu, hup, A', c', htag, hrow⟩ := hres
        have HRE : Hid (R = .ok (⟨1, T, cs, em, [], a⟩, x)) := hr.symm
        have S7 : Hid (ReS w0 b (r + 1) 1 T A' cs c' em [] a W5) := ⟨hup, htag, hrow⟩
        have C7 := Lib.hid hcu
        clear htag hcu hup hrow HRS2 hr
        have hra := S7.out.tag.range
        have hrs := S7.out.res HRES.out hb
        have HRS := Lib.hid hrs
        go_wp2_with (first
          | (with_reducible refine gate ?_; refine wp_load_tok proTokTy rfl _ rfl (r + 1) 1 rfl _ rfl hra ?_)
          | (with_reducible refine gate ?_; refine wp_store_tokP rfl _ _ rfl r _ _ _ _ _ _ _ _ _ rfl rfl hrs rfl ?_; intro w2 hw2 hu2))
        refine bodyPost_ret (v := .agg _) (res_whole Tryz.results42 _ _ r rfl _ _ hw2 Tryz.underlying34 rfl tokSizeP) rfl ?_
        exact ConsRes.fine (t' := ⟨1, T, cs, em, [], a⟩) HRE.out HRR.out C7.out (HU0.out.trans S7.out.up) hb hu2 rfl rfl (S7.out.atts (by omega)) (.inl ⟨rfl, rfl, rfl⟩)

  have hr := HR.out
  rw [b1, if_neg (by decide)] at hr
  have HR := Lib.hid hr
  clear hr
  have cA : Calls Tryz.prog 41 #[.pointer (some ⟨b, 0, none⟩), .string ⟨#[60]⟩] W16 _ := curNo_any b l a ea 0 sLt W16 b1 C16.out ha' hl
  have CA := Lib.hid cA
  clear cA
  go_wp2_with fail
  refine CA.out.mono ?_
  rintro e W17 ⟨rfl, hcu, hup⟩
  have S17 := Lib.hid (S16.out.upd hup hbg)
  have C17 := Lib.hid hcu
  clear hup hcu CA S16 C16
  clear b1
  have hr := HR.out
  clear HR
  have h1 := textEnd_ge l a (by omega)
  have hix := fun W => Tryz.strings_IndexByte (S (l.drop a)) 60 W
  rw [S_data, show ((60 : Int).toNat.toUInt8) = (60 : UInt8) from rfl, index_lt] at hix
  have hcon := fun W (s : ReS w0 b (r + 1) 3 [] none [] 0 false [] a W) (hc : Cur W b l a ea 0) => curContent_any false b l a (textEnd l a) ea m W (HS.out.max_ s.up) hc h1.1 h1.2 hl
  have x1 := S17.out.t1
  have xf := S17.out.tag.free 1
  have k0 := C17.out.c0
  have S3 := Lib.hid (S17.out.kind_ hg0 3)
  have C3 := Lib.hid (C17.out.other (i := 1) (show b ≠ r + 1 by omega) (.int .i64 3))
  obtain ⟨E, hE⟩ : ∃ E, textEnd l a = E := ⟨_, rfl⟩
  have hE2 : (∃ j : Nat, findS sLt (l.drop a) = some j ∧ E = a + j) ∨ (findS sLt (l.drop a) = none ∧ E = l.length) := by
    rw [← hE]
    unfold textEnd
    cases findS sLt (l.drop a) with
    | none => exact .inr ⟨rfl, rfl⟩
    | some j => exact .inl ⟨j, rfl, rfl⟩
  rw [hE] at hr hcon h1
  obtain ⟨h1, h2⟩ := h1
  obtain ⟨Z, hZ⟩ : ∃ Z, cont false l a E = Z := ⟨_, rfl⟩
  rw [hZ] at hr hcon
  have hcon2 : ∀ x : Int, x = E → ∀ W, ReS w0 b (r + 1) 3 [] none [] 0 false [] a W → Cur W b l a ea 0 → Calls Tryz.prog 77 #[.pointer (some ⟨b, 0, none⟩), .int .i64 x, .bool false] W fun e w' => ConRes b l E ea Z e w' ∧ Upd b W w' := fun x hx W h1 h2 => by subst hx; exact hcon W h1 h2
  have HCON := Lib.hid hcon2
  have HR2 := Lib.hid hr
  clear hcon hcon2 hE hZ hr
  rcases hE2 with ⟨j, hj1, hj2⟩ | ⟨hj1, hj2⟩
  · rw [hj1] at hix
    have HIX : Hid (∀ W, Calls Tryz.prog 18 #[.string (S (l.drop a)), .int .u8 60] W fun e w' => e = .returned (.int .i64 (j : Int)) ∧ W = w') := fun W => (hix W).mono fun _ _ h => ⟨h.1, h.2.symm⟩
    have hjj : (a : Int) + j ≤ l.length := by omega
    have HX : Hid ((a : Int) + j = E) := show (a : Int) + j = E by omega
    clear hix hj1 hj2
    go_wp2_with (go_at_call 18; refine (HIX.out _).mono ?_; rintro e wq ⟨rfl, rfl⟩)
    refine (HCON.out _ HX.out _ S3.out C3.out).mono ?_
    rintro e W4 ⟨hcr, hup⟩
    unfold ConRes at hcr
    cases Z with
    | error x =>
      obtain ⟨rfl, hcu⟩ := hcr
      have HRE : Hid (R = .error (x, 12)) := HR2.out.symm
      have hs4 := S3.out.upd hup hbg
      have x5 := hs4.t5
      have xf5 := hs4.tag.free 5
      have S5 := Lib.hid (hs4.text_ hg0 [])
      have C5 := Lib.hid (hcu.other (i := 5) (show b ≠ r + 1 by omega) (.string (S [])))
      clear hup hcu hs4 HR2
      have hra := S5.out.tag.range
      have hrs := S5.out.res HRES.out hb
      have HRS := Lib.hid hrs
      go_wp2_with (first
        | (with_reducible refine gate ?_; refine wp_load_tok proTokTy rfl _ rfl (r + 1) 1 rfl _ rfl hra ?_)
        | (with_reducible refine gate ?_; refine wp_store_tokP rfl _ _ rfl r _ _ _ _ _ _ _ _ _ rfl rfl hrs rfl ?_; intro w2 hw2 hu2))
      refine bodyPost_ret (v := .agg _) (res_whole Tryz.results42 _ _ r rfl _ _ hw2 Tryz.underlying34 rfl tokSizeP) rfl ?_
      exact ConsRes.err HRE.out HRR.out C5.out (HU0.out.trans S5.out.up) hb hu2

    | ok v =>
      obtain ⟨rfl, hcu⟩ := hcr
      have HRE : Hid (R = .ok (⟨3, [], [], false, v, a⟩, E)) := HR2.out.symm
      have hs4 := S3.out.upd hup hbg
      have x5 := hs4.t5
      have xf5 := hs4.tag.free 5
      have S5 := Lib.hid (hs4.text_ hg0 v)
      have C5 := Lib.hid (hcu.other (i := 5) (show b ≠ r + 1 by omega) (.string (S v)))
      clear hup hcu hs4 HR2
      have hra := S5.out.tag.range
      have hrs := S5.out.res HRES.out hb
      have HRS := Lib.hid hrs
      go_wp2_with (first
        | (with_reducible refine gate ?_; refine wp_load_tok proTokTy rfl _ rfl (r + 1) 1 rfl _ rfl hra ?_)
        | (with_reducible refine gate ?_; refine wp_store_tokP rfl _ _ rfl r _ _ _ _ _ _ _ _ _ rfl rfl hrs rfl ?_; intro w2 hw2 hu2))
      refine bodyPost_ret (v := .agg _) (res_whole Tryz.results42 _ _ r rfl _ _ hw2 Tryz.underlying34 rfl tokSizeP) rfl ?_
      exact ConsRes.fine (t' := ⟨3, [], [], false, v, a⟩) HRE.out HRR.out C5.out (HU0.out.trans S5.out.up) hb hu2 rfl rfl (S5.out.atts (by omega)) keepText

  · rw [hj1] at hix
    have HIX : Hid (∀ W, Calls Tryz.prog 18 #[.string (S (l.drop a)), .int .u8 60] W fun e w' => e = .returned (.int .i64 (-1 : Int)) ∧ W = w') := fun W => (hix W).mono fun _ _ h => ⟨h.1, h.2.symm⟩
    have HX : Hid (∀ x : Int, x = (l.length : Int) → x = E) := fun x hx => by rw [hx, hj2]
    clear hix hj1 hj2
    go_wp2_with (go_at_call 18; refine (HIX.out _).mono ?_; rintro e wq ⟨rfl, rfl⟩)
    refine (HCON.out _ (HX.out _ (by omega)) _ S3.out C3.out).mono ?_
    rintro e W4 ⟨hcr, hup⟩
    unfold ConRes at hcr
    cases Z with
    | error x =>
      obtain ⟨rfl, hcu⟩ := hcr
      have HRE : Hid (R = .error (x, 12)) := HR2.out.symm
      have hs4 := S3.out.upd hup hbg
      have x5 := hs4.t5
      have xf5 := hs4.tag.free 5
      have S5 := Lib.hid (hs4.text_ hg0 [])
      have C5 := Lib.hid (hcu.other (i := 5) (show b ≠ r + 1 by omega) (.string (S [])))
      clear hup hcu hs4 HR2
      have hra := S5.out.tag.range
      have hrs := S5.out.res HRES.out hb
      have HRS := Lib.hid hrs
      go_wp2_with (first
        | (with_reducible refine gate ?_; refine wp_load_tok proTokTy rfl _ rfl (r + 1) 1 rfl _ rfl hra ?_)
        | (with_reducible refine gate ?_; refine wp_store_tokP rfl _ _ rfl r _ _ _ _ _ _ _ _ _ rfl rfl hrs rfl ?_; intro w2 hw2 hu2))
      refine bodyPost_ret (v := .agg _) (res_whole Tryz.results42 _ _ r rfl _ _ hw2 Tryz.underlying34 rfl tokSizeP) rfl ?_
      exact ConsRes.err HRE.out HRR.out C5.out (HU0.out.trans S5.out.up) hb hu2

    | ok v =>
      obtain ⟨rfl, hcu⟩ := hcr
      have HRE : Hid (R = .ok (⟨3, [], [], false, v, a⟩, E)) := HR2.out.symm
      have hs4 := S3.out.upd hup hbg
      have x5 := hs4.t5
      have xf5 := hs4.tag.free 5
      have S5 := Lib.hid (hs4.text_ hg0 v)
      have C5 := Lib.hid (hcu.other (i := 5) (show b ≠ r + 1 by omega) (.string (S v)))
      clear hup hcu hs4 HR2
      have hra := S5.out.tag.range
      have hrs := S5.out.res HRES.out hb
      have HRS := Lib.hid hrs
      go_wp2_with (first
        | (with_reducible refine gate ?_; refine wp_load_tok proTokTy rfl _ rfl (r + 1) 1 rfl _ rfl hra ?_)
        | (with_reducible refine gate ?_; refine wp_store_tokP rfl _ _ rfl r _ _ _ _ _ _ _ _ _ rfl rfl hrs rfl ?_; intro w2 hw2 hu2))
      refine bodyPost_ret (v := .agg _) (res_whole Tryz.results42 _ _ r rfl _ _ hw2 Tryz.underlying34 rfl tokSizeP) rfl ?_
      exact ConsRes.fine (t' := ⟨3, [], [], false, v, a⟩) HRE.out HRR.out C5.out (HU0.out.trans S5.out.up) hb hu2 rfl rfl (S5.out.atts (by omega)) keepText

end Go.Proofs.YthbfahbjfioghaaGreatDoor
set_option linter.unusedVariables false
namespace Go.Proofs.YthbfahbjfioghaaGreatDoor
open Go.RowKit

theorem TokRow.base_ {T : TypeId} {w : World} {base base' : Nat} {p : Nat → Prop} {v : Value} {ts : List Tok} (h : TokRow T w base p v ts) (hb : base' ≤ base) : TokRow T w base' p v ts := by
  obtain ⟨css, h1, h2, h3⟩ := h
  exact ⟨css, h1, h2, ownsRow_base h3 hb⟩
/-- The tokens read so far; all in blocks behind the position's. -/
def TkAt (w : World) (b : Nat) (A : Option Addr) (ts : List Tok) (c : Nat) : Prop :=
  TokRow 34 w (b + 1) (fun k => b < k ∧ k < w.heap.size ∧ (Value.slice A ts.length c).ownBlock ≠ some k) (.slice A ts.length c) ts
theorem TkAt.upd {w w' : World} {b : Nat} {A : Option Addr} {ts : List Tok} {c : Nat} (h : TkAt w b A ts c) (hu : Upd b w w') : TkAt w' b A ts c :=
  (TokRow.heap h (fun k hk => by have := TokRow.lt h k hk; exact hu.block k this.2 (by omega)) (fun k hk => hu.block k hk.2.1 (by omega))).more (fun k hk => ⟨hk.1, by have := hu.size; omega, hk.2.2⟩)
theorem keepP_cases {t : Tok} (h : keepP t = true) : ((t.kind == 1) = true) ∨ ((t.kind == 1) = false ∧ (t.kind == 2) = true) ∨ ((t.kind == 1) = false ∧ (t.kind == 2) = false ∧ t.text.isEmpty = false) := by
  unfold keepP at h
  cases h1 : (t.kind == 1)
  · cases h2 : (t.kind == 2)
    · rw [h1, h2] at h
      simp at h
      exact .inr (.inr ⟨rfl, rfl, by cases h3 : t.text with | nil => exact absurd h3 h | cons => rfl⟩)
    · exact .inr (.inl ⟨rfl, rfl⟩)
  · exact .inl rfl
theorem keepP_no {t : Tok} (h : keepP t = false) : (t.kind == 1) = false ∧ (t.kind == 2) = false ∧ t.text = [] := by
  unfold keepP at h
  cases h1 : (t.kind == 1)
  · cases h2 : (t.kind == 2)
    · rw [h1, h2] at h
      simp at h
      exact ⟨rfl, rfl, h⟩
    · rw [h1, h2] at h; simp at h
  · rw [h1] at h; simp at h

set_option maxHeartbeats 4000000 in
set_option maxRecDepth 100000 in
theorem tokens_any (l : Bytes) (m : Int) (w : World) (hT : Tabs w) (hM : MaxLen m w) (hl : l.length ≤ 1000000000) :
    Calls Tryz.prog 15 #[.string (S l)] w fun e w' => ToksRes 34 w.heap.size w' (toks l) e ∧ Below w.heap.size w w' := by
  obtain ⟨R, hR⟩ : ∃ R, toks l = R := ⟨_, rfl⟩
  rw [hR]
  unfold toks at hR
  have c1 := check_any l w hT (by omega)
  by_cases hch : (check l).2 = 0
  · rw [if_neg (by simp [hch])] at hR
    have t6 : (((check l).2 : Int) == 0) = true := by rw [hch]; rfl
    have t7 : (((check l).2 : Int) != 0) = false := by rw [bne, t6]; rfl
    obtain ⟨X, hX⟩ : ∃ X, tokS l (if hasAt l 0 sBom = true then 3 else 0) [] = X := ⟨_, rfl⟩
    rw [hX] at hR
    unfold tokS at hX
    have C1 := Lib.hid c1
    have HR := Lib.hid hR
    have HT := Lib.hid hT
    have HM := Lib.hid hM
    clear c1 hR hch hT hM
    go_enter Tryz.func15, Tryz.ntmps15
    go_wp2_with fail
    refine C1.out.mono ?_
    rintro e w1 ⟨rfl, hb1⟩
    obtain ⟨b, hb⟩ : ∃ b, w1.heap.size = b := ⟨_, rfl⟩
    have hwb : w.heap.size ≤ b := by have := hb1.size; omega
    have hC0 : Cur (w1.alloc (.cells #[.string (S l), .int .i64 0, .int .i64 0, .int .i64 0] 62)) b l 0 0 0 := by rw [← hb]; exact Cur.new w1 l 0 0 0
    have HC0 := Lib.hid hC0
    have HB1 := Lib.hid (hb1.alloc hb1.size (.cells #[.string (S l), .int .i64 0, .int .i64 0, .int .i64 0] 62))
    clear hb1 hC0
    have hacc : ∃ (x : Bool) (z0 : Nat), z0 ≤ l.length ∧ tokF l (l.length + 1) z0 [] = X ∧ ∀ W, Cur W b l 0 0 0 → Calls Tryz.prog 41 #[.pointer (some ⟨b, 0, none⟩), .string ⟨#[239, 187, 191]⟩] W fun e w' => e = .returned (.bool x) ∧ Cur w' b l z0 0 0 ∧ Upd b W w' := by
      cases h : hasAt l 0 sBom
      · rw [h] at hX
        refine ⟨false, 0, by omega, hX, fun W hW => ?_⟩
        exact curNo_any b l 0 0 0 sBom W h hW (by omega) hl
      · rw [h] at hX
        have hle := hasAt_le h
        simp [sBom] at hle
        refine ⟨true, 3, by omega, hX, fun W hW => ?_⟩
        exact curYes_any b l 0 0 0 sBom W h hW (by omega) hl
    clear hX
    obtain ⟨x, z0, hz0, hX, hacc⟩ := hacc
    have HACC := Lib.hid hacc
    have HX := Lib.hid hX
    clear hacc hX
    go_wp2_with fail
    clear hb t6 t7
    refine (HACC.out _ HC0.out).mono ?_
    rintro e w2 ⟨rfl, hcu, hup⟩
    have HC2 := Lib.hid hcu
    have HB2 := Lib.hid (HB1.out.trans (hup.below hwb HB1.out.size))
    clear hcu hup HACC HC0 HB1
    go_wp2_with fail
    go_loopg [8] (l.length - z0) (fun kk v8 wr => ∃ (z f : Nat) (ts : List Tok) (A : Option Addr) (c : Nat), z ≤ l.length ∧ kk = l.length - z ∧ l.length < z + f ∧ v8 = .slice A ts.length c ∧ ts.length ≤ z ∧ tokF l f z ts = X ∧ TkAt wr b A ts c ∧ Cur wr b l z 0 0 ∧ Below w.heap.size w wr)
    case atStart => exact ⟨z0, l.length + 1, [], none, 0, hz0, rfl, by omega, rfl, by simp, HX.out, TokRow.nil _ _ _ _, HC2.out, HB2.out⟩
    case round =>
      clear HC2 HB2 HX hz0
      obtain ⟨z, f, ts, A, c, hz, hkk, hzf, rfl, htl, htk, hrow, hcu, hB⟩ := hrel
      obtain ⟨f, rfl⟩ : ∃ g, f = g + 1 := ⟨f - 1, by omega⟩
      rw [tokF] at htk
      have HROW := Lib.hid hrow
      have HCU := Lib.hid hcu
      have HB := Lib.hid hB
      have HKK := Lib.hid hkk
      have hsz := hB.size
      have hbz := hcu.lt
      have k1 := hcu.c1
      clear hrow hcu hB hkk
      by_cases hlt : z < l.length
      · rw [if_pos hlt] at htk
        have hlt' : (z : Int) < l.length := by omega
        have c2 := curCons_any b l z 0 m wr (HT.out.next HB.out) (HM.out.below HB.out) HCU.out hlt hl
        have hcok := fun t k => consAt_ok (l := l) (a := z) (t := t) (e := k) hlt
        have hcer := fun q => consAt_err (l := l) (a := z) (q := q)
        generalize consAt l z = Z at *
        have C2 := Lib.hid c2
        clear c2
        cases Z with
        | error q =>
          have hq := hcer q rfl
          have t8 : ((q.2 : Int) == 0) = false := by rw [beq_eq_false_iff_ne]; omega
          have t9 : ((q.2 : Int) != 0) = true := by rw [bne, t8]; rfl
          simp only at htk
          have hr := HR.out
          rw [← htk] at hr
          simp only at hr
          have HRR := Lib.hid hr
          clear htk hr hq HR hcok hcer
          go_wp2_with fail
          refine C2.out.mono ?_
          rintro e w5 ⟨⟨⟨t, A5, c5, rfl⟩, n, hcu5⟩, hup5⟩
          have hc6 := hcu5.alloc (.cells (tokCells t A5 c5) 34)
          have HB6 := Lib.hid ((HB.out.trans (hup5.below hwb hsz)).alloc (by have := hup5.size; omega) (.cells (tokCells t A5 c5) 34))
          have k2 := hc6.c2
          have k3 := hc6.c3
          clear hcu5 hup5 k1 hc6
          go_wp2_with fail
          go_quiet (fail)
          go_wp2_with fail
          go_ret3
          exact ⟨by rw [← HRR.out]; exact ToksRes.none, below_drewN6 HB6.out _⟩
        | ok p =>
          obtain ⟨t, k⟩ := p
          have hk := hcok t k rfl
          simp only at htk
          have HTK := Lib.hid htk
          clear htk hcok hcer
          go_wp2_with fail
          refine C2.out.mono ?_
          rintro e w5 ⟨⟨hcu5, t', A5, c5, rfl, hatt, hkeep⟩, hup5⟩
          have hlt5 := hup5.size
          have hc6 := hcu5.alloc (.cells (tokCells t' A5 c5) 34)
          have HB6 := Lib.hid ((HB.out.trans (hup5.below hwb hsz)).alloc (by omega) (.cells (tokCells t' A5 c5) 34))
          have hg6 := heap_alloc_new w5 (.cells (tokCells t' A5 c5) 34)
          have hal : Below w5.heap.size w5 (w5.alloc (.cells (tokCells t' A5 c5) 34)) := (Below.refl _ _).alloc (Nat.le_refl _) _
          have hk3 := hc6.c3
          have RW5 := HROW.out.upd hup5
          have hown := HROW.out.lt
          have RW6 := RW5.upd (.of_below hal)
          have hat6 : TokP (w5.alloc (.cells (tokCells t' A5 c5) 34)) (fun k => b < k ∧ k < (w5.alloc (.cells (tokCells t' A5 c5) 34)).heap.size ∧ (Value.slice A ts.length c).ownBlock ≠ some k) t' [.int .i64 t'.kind, .string (S t'.name), .slice A5 t'.attrs.length c5, .bool t'.empty, .string (S t'.text), .int .i64 t'.pos] :=
            ⟨_, rfl, hatt.keep (fun k hk => hal.block k hk.2) (fun k hk => ⟨by omega, by have := hk.2; simp; omega, fun e => by have := hown k e; omega⟩)⟩
          obtain ⟨q0, q1, q2, q3, q4, q5⟩ := cells6 hg6
          have hra : (w5.alloc (.cells (tokCells t' A5 c5) 34)).rangeAt w5.heap.size 0 [.int .i64 t'.kind, .string (S t'.name), .slice A5 t'.attrs.length c5, .bool t'.empty, .string (S t'.text), .int .i64 t'.pos] := range_of_heap hg6
          have HC6 := Lib.hid hc6
          have HR6 := Lib.hid RW6
          have HT6 := Lib.hid hat6
          clear RW5 RW6 hat6 hg6 hown C2 HROW HB q1 q2 q3 q5 hcu5 hup5 hatt hal hc6 k1 HCU
          rcases hkeep with ⟨hk1, rfl, hk2⟩ | ⟨hk1, hk2⟩
          · have htk := HTK.out
            rw [if_pos hk1] at htk
            have HTN := Lib.hid htk
            have hts : ts.length < 1000000000000 := by omega
            have hcs := keepP_cases hk2
            have F1 : Hid (∀ (g' c' : Nat) (w' : World), ((Value.slice A ts.length c).ownBlock = some g' ∨ (w5.alloc (.cells (tokCells t' A5 c5) 34)).heap.size ≤ g') → g' < w'.heap.size → TokRow 34 w' (b + 1) (fun k => b < k ∧ k < (w5.alloc (.cells (tokCells t' A5 c5) 34)).heap.size ∧ (Value.slice A ts.length c).ownBlock ≠ some k) (.slice (some ⟨g', 0, none⟩) (ts.length + 1) c') (ts ++ [t']) → Grew (w5.alloc (.cells (tokCells t' A5 c5) 34)) (.slice A ts.length c) (.slice (some ⟨g', 0, none⟩) (ts.length + 1) c') w' → Below (b + 1) (w5.alloc (.cells (tokCells t' A5 c5) 34)) w' →
                TkAt w' b (some ⟨g', 0, none⟩) (ts ++ [t']) c' ∧ Cur w' b l k 0 0 ∧ Below w.heap.size w w') := by
              intro g' c' w' r1 r2 r3 r4 r5
              have hz6 := r5.size
              refine ⟨?_, HC6.out.keep (r5.block b (by omega)), HB6.out.trans (r5.mono (by omega))⟩
              unfold TkAt
              rw [show (ts ++ [t']).length = ts.length + 1 by simp]
              refine r3.more fun k hk => ⟨hk.1, by have := hk.2.1; omega, ?_⟩
              intro e
              simp only [Value.ownBlock, Option.some.injEq] at e
              rcases r1 with r1 | r1
              · exact hk.2.2 (by rw [r1, e])
              · have := hk.2.1; omega
            clear hk1 hk2 htk HTK
            rcases hcs with t1 | ⟨t1, t2⟩ | ⟨t1, t2, t3⟩
            all_goals
              go_wp2_with (first
                | (with_reducible refine gate ?_; refine wp_load_tok proTokTy rfl _ rfl w5.heap.size 0 rfl _ rfl hra ?_)
                | (at_builtin; refine toks_append proTokTy rfl _ _ rfl (w5.alloc (.cells (tokCells t' A5 c5) 34)) (b + 1) _ (.slice A ts.length c) ts rfl HR6.out t' _ (w5.heap.size + 1) (by simp) rfl HT6.out (fun b hb => hb.2.2) (fun b hb => hb.2.1) (by simp; omega) hts ?_; intro g' c' w6 r1 r2 r3 r4 r5; obtain ⟨f1, f2, f3⟩ := F1.out g' c' w6 r1 r2 r3 r4 r5))
              go_roundg (l.length - k)
              case measure => rw [HKK.out]; omega
              case rel => exact ⟨k, f, ts ++ [t'], some ⟨g', 0, none⟩, c', hk.2, rfl, by omega, by simp, by simp; omega, HTN.out, f1, f2, f3⟩
          · have htk := HTK.out
            rw [if_neg (by rw [hk1]; decide)] at htk
            have HTN := Lib.hid htk
            obtain ⟨t1, t2, t3⟩ := keepP_no hk2
            rw [t3] at q4
            have HT3 := Lib.hid t3
            clear hk1 hk2 htk HTK t3
            go_wp2_with fail
            go_roundg (l.length - k)
            case measure => rw [HKK.out]; omega
            case rel => exact ⟨k, f, ts, A, c, hk.2, rfl, by omega, rfl, by omega, HTN.out, HR6.out, HC6.out, HB6.out⟩
      · obtain rfl : z = l.length := by omega
        rw [if_neg (by omega)] at htk
        have hr := HR.out
        rw [← htk] at hr
        simp only at hr
        have HRR := Lib.hid hr
        clear htk hr HR
        go_wp2_with fail
        go_ret3
        refine ⟨?_, HB.out⟩
        rw [← HRR.out]
        refine ⟨_, rfl, (HROW.out.base_ (by omega)).more fun k hk => ⟨by omega, hk.2⟩⟩
  · rw [if_pos hch] at hR
    have t6 : (((check l).2 : Int) == 0) = false := by rw [beq_eq_false_iff_ne]; omega
    have t7 : (((check l).2 : Int) != 0) = true := by rw [bne, t6]; rfl
    have C1 := Lib.hid c1
    have HR := Lib.hid hR
    clear c1 hR hch hT hM
    go_enter Tryz.func15, Tryz.ntmps15
    go_wp2_with fail
    refine C1.out.mono ?_
    rintro e w1 ⟨rfl, hb1⟩
    have HB1 := Lib.hid hb1
    clear hb1
    go_wp2_with fail
    go_ret3
    exact ⟨by rw [← HR.out]; exact ToksRes.none, HB1.out⟩
end Go.Proofs.YthbfahbjfioghaaGreatDoor
set_option linter.unusedVariables false
namespace Go.Proofs.YthbfahbjfioghaaGreatDoor
open Go.RowKit

/-! Attributes compared by ==. -/
abbrev attV (a : Att) : Value := .agg #[.string (S a.space), .string (S a.name), .string (S a.value), .int .i64 a.pos]
def attB (a b : Att) : Bool := (a.space == b.space) && ((a.name == b.name) && ((a.value == b.value) && (a.pos == b.pos)))
theorem attB_same (a : Att) : attB a a = true := by simp [attB]
theorem eqIn_att (a b : Att) (w : World) : (Op.equalIn 10000 42 (attV a) (attV b)).run Tryz.prog w = .ok (attB a b) w := by
  have hS : Tryz.prog.underlying 42 = some (.struct (Tryz.prog.fieldsOf 42)) := by kernel_rfl
  have hp : Tryz.prog.stoodInHeld 42 = false := by kernel_rfl
  have u9 := Tryz.underlying9
  have u2 := Tryz.underlying3
  have a9 := Tryz.isAgg9
  have z9 := Tryz.sizeOf9
  have a2 := Tryz.isAgg3
  have z2 := Tryz.sizeOf3
  rw [show (10000 : Nat) = 9999 + 1 from rfl, run_equalIn_agg w 9999 42 _ _ hS hp]
  simp only [Program.fieldsOf, Tryz.underlying42]
  go_simp
  unfold attB
  cases h1 : (a.space == b.space) <;> cases h2 : (a.name == b.name) <;> cases h3 : (a.value == b.value) <;> cases h5 : (a.pos == b.pos) <;> simp_all
theorem run_eq_att (a b : Att) (w : World) : (binOp .eql 42 (attV a) (attV b)).run Tryz.prog w = .ok (.bool (attB a b)) w := by
  rw [run_eql_struct, eqIn_att]; rfl
theorem run_ne_att (a b : Att) (w : World) : (binOp .neq 42 (attV a) (attV b)).run Tryz.prog w = .ok (.bool (!(attB a b))) w := by
  rw [run_neq_struct, eqIn_att]; rfl

theorem atts_at6 {w : World} {p : Nat → Prop} {A : Option Addr} {n cap i : Nat} {l : List Att} (h : AttsP w p (.slice A n cap) l) (hi : i < l.length) :
    ∃ b off, A = some ⟨b, off, none⟩ ∧ p b ∧ w.rangeAt b (off + i * 4) (attCells l[i]) := by
  obtain ⟨A', cap', hv, _, h⟩ := h
  cases hv
  rcases h with h | ⟨b, off, hA, hpb, hr⟩
  · subst h; simp at hi
  · exact ⟨b, off, hA, hpb, hr i _ (List.getElem?_eq_getElem hi)⟩

set_option maxHeartbeats 2000000 in
theorem sameAttrs_any (l : List Att) (A B : Option Addr) (c d : Nat) (p q : Nat → Prop) (w : World) (h1 : AttsP w p (.slice A l.length c) l) (h2 : AttsP w q (.slice B l.length d) l) (hl : l.length ≤ 1000000000) :
    Calls Tryz.prog 45 #[.slice A l.length c, .slice B l.length d] w fun e w' => e = .returned (.bool true) ∧ ∃ k, w' = w.drewN k := by
  have H1 := Lib.hid h1
  have H2 := Lib.hid h2
  clear h1 h2
  go_enter Tryz.func45, Tryz.ntmps45
  go_wp2_with fail
  go_loopw [5] (fun i5 wr => ∃ (i k : Nat), i ≤ l.length ∧ i5 = .int .i64 i ∧ wr = w.drewN k) (fun i5 _ => l.length - (intOf i5).toNat)
  case atStart => exact ⟨0, 0, Nat.zero_le _, rfl, rfl⟩
  case round =>
    obtain ⟨i, k, hi, rfl, hw⟩ := hrel
    have HW := Lib.hid hw
    by_cases hlt : i < l.length
    · have hlt' : (i : Int) < l.length := by omega
      obtain ⟨b, off, rfl, _, hr⟩ := atts_at6 H1.out hlt
      obtain ⟨b2, off2, rfl, _, hr2⟩ := atts_at6 H2.out hlt
      have x0 : wr.cell? ⟨b, off + i * 4, none⟩ = some (.string (S l[i].space)) := by rw [hw, World.cell?_drewN]; exact hr 0 _ rfl
      have x1 : wr.cell? ⟨b, off + i * 4 + 1, none⟩ = some (.string (S l[i].name)) := by rw [hw, World.cell?_drewN]; exact hr 1 _ rfl
      have x2 : wr.cell? ⟨b, off + i * 4 + 2, none⟩ = some (.string (S l[i].value)) := by rw [hw, World.cell?_drewN]; exact hr 2 _ rfl
      have x3 : wr.cell? ⟨b, off + i * 4 + 3, none⟩ = some (.int .i64 l[i].pos) := by rw [hw, World.cell?_drewN]; exact hr 3 _ rfl
      have y0 : wr.cell? ⟨b2, off2 + i * 4, none⟩ = some (.string (S l[i].space)) := by rw [hw, World.cell?_drewN]; exact hr2 0 _ rfl
      have y1 : wr.cell? ⟨b2, off2 + i * 4 + 1, none⟩ = some (.string (S l[i].name)) := by rw [hw, World.cell?_drewN]; exact hr2 1 _ rfl
      have y2 : wr.cell? ⟨b2, off2 + i * 4 + 2, none⟩ = some (.string (S l[i].value)) := by rw [hw, World.cell?_drewN]; exact hr2 2 _ rfl
      have y3 : wr.cell? ⟨b2, off2 + i * 4 + 3, none⟩ = some (.int .i64 l[i].pos) := by rw [hw, World.cell?_drewN]; exact hr2 3 _ rfl
      generalize l[i] = t at *
      have hne : ∀ w, (binOp .neq 42 (.agg #[.string (S t.space), .string (S t.name), .string (S t.value), .int .i64 t.pos]) (.agg #[.string (S t.space), .string (S t.name), .string (S t.value), .int .i64 t.pos])).run Tryz.prog w = .ok (.bool false) w := fun w => by
        have := run_ne_att t t w
        rw [attB_same] at this
        exact this
      clear hw hr hr2
      go_wp2_with fail
      go_quiet (fail)
      go_wp2_with fail
      go_roundw
      case rel => exact ⟨i + 1, _, by omega, by go_num, by rw [HW.out, World.drewN_drewN]⟩
      case measure => simp [intOf]; omega
    · obtain rfl : i = l.length := by omega
      clear hw
      go_wp2_with fail
      go_ret
      exact ⟨rfl, k, HW.out⟩

set_option maxHeartbeats 4000000 in
set_option maxRecDepth 100000 in
theorem sameToks_any (ts : List Tok) (A B : Option Addr) (c d : Nat) (p q : Nat → Prop) (w : World) (hp : ∀ k, p k → k < w.heap.size) (hq : ∀ k, q k → k < w.heap.size) (h1 : ToksP w p (.slice A ts.length c) ts) (h2 : ToksP w q (.slice B ts.length d) ts)
    (hl : ts.length ≤ 1000000000) (hat : ∀ t ∈ ts, t.attrs.length ≤ 1000000000) :
    Calls Tryz.prog 17 #[.slice A ts.length c, .slice B ts.length d] w fun e w' => e = .returned (.bool true) ∧ Below w.heap.size w w' := by
  have H1 := Lib.hid h1
  have H2 := Lib.hid h2
  have HP := Lib.hid hp
  have HQ := Lib.hid hq
  have HAT := Lib.hid hat
  clear h1 h2 hp hq hat
  go_enter Tryz.func17, Tryz.ntmps17
  go_wp2_with fail
  go_loopw [15] (fun i15 wr => ∃ i : Nat, i ≤ ts.length ∧ i15 = .int .i64 i ∧ Below w.heap.size w wr) (fun i15 _ => ts.length - (intOf i15).toNat)
  case atStart => exact ⟨0, Nat.zero_le _, rfl, Below.refl _ _⟩
  case round =>
    obtain ⟨i, hi, rfl, hB⟩ := hrel
    have HB := Lib.hid hB
    have hsz := hB.size
    clear hB
    by_cases hlt : i < ts.length
    · have hlt' : (i : Int) < ts.length := by omega
      have k1 := ToksP.keep H1.out (w' := wr) (p' := p) (fun k hk => HB.out.block k (HP.out k hk)) (fun _ h => h)
      have k2 := ToksP.keep H2.out (w' := wr) (p' := q) (fun k hk => HB.out.block k (HQ.out k hk)) (fun _ h => h)
      obtain ⟨b, cs, rfl, hb, hr, ht⟩ := k1.at_ hlt
      obtain ⟨b2, cs2, rfl, hb2, hr2, ht2⟩ := k2.at_ hlt
      have hta := HAT.out ts[i] (List.getElem_mem hlt)
      generalize ts[i] = t at *
      obtain ⟨A1, c1, rfl, ha1, hc1⟩ := ht.open_
      obtain ⟨A2, c2, rfl, ha2, hc2⟩ := ht2.open_
      have hb' : b < wr.heap.size := by have := HP.out b hb; omega
      have hb2' : b2 < wr.heap.size := by have := HQ.out b2 hb2; omega
      obtain ⟨W1, hW1⟩ : ∃ W1, wr.alloc (.cells (tokCells t A1 c1) 34) = W1 := ⟨_, rfl⟩
      have hr2' : W1.rangeAt b2 (i * 6) [.int .i64 t.kind, .string (S t.name), .slice A2 t.attrs.length c2, .bool t.empty, .string (S t.text), .int .i64 t.pos] := by rw [← hW1]; exact rangeAt_keep hr2 (Below.heap_alloc _ _ _ hb2')
      have hg1 : W1.heap[wr.heap.size]? = some (.cells (tokCells t A1 c1) 34 (0, 0)) := by rw [← hW1]; exact heap_alloc_new _ _
      have hz1 : W1.heap.size = wr.heap.size + 1 := by rw [← hW1]; simp
      obtain ⟨W2, hW2⟩ : ∃ W2, W1.alloc (.cells (tokCells t A2 c2) 43) = W2 := ⟨_, rfl⟩
      have hg2 : W2.heap[wr.heap.size]? = some (.cells (tokCells t A1 c1) 34 (0, 0)) := by rw [← hW2]; exact alloc_old hg1
      have hg3 : W2.heap[wr.heap.size + 1]? = some (.cells (tokCells t A2 c2) 43 (0, 0)) := by rw [← hW2]; exact alloc_at hz1
      have hBW : Below wr.heap.size wr W2 := by rw [← hW2, ← hW1]; exact ((Below.refl _ _).alloc (Nat.le_refl _) _).alloc (by simp) _
      obtain ⟨x0, x1, x2, x3, x4, x5⟩ := cells6 hg2
      obtain ⟨y0, y1, y2, y3, y4, y5⟩ := cells6 hg3
      have a1 := ha1.keep (w' := W2) (p' := p) (fun k hk => hBW.block k (by have := HP.out k hk; omega)) (fun _ h => h)
      have a2 := ha2.keep (w' := W2) (p' := q) (fun k hk => hBW.block k (by have := HQ.out k hk; omega)) (fun _ h => h)
      have hsm := sameAttrs_any t.attrs A1 A2 c1 c2 p q W2 a1 a2 hta
      have HSM := Lib.hid hsm
      have HBW := Lib.hid (HB.out.trans (hBW.mono hsz))
      have HW1 := Lib.hid hW1
      clear k1 k2 hb hb2 ht ht2 hr2 ha1 ha2 hg1 hg2 hg3 hBW a1 a2 hsm
      go_wp2_with (first
        | (with_reducible refine gate ?_; refine wp_load_tok proTokTy rfl _ rfl b (i * 6) rfl _ rfl hr ?_)
        | (with_reducible refine gate ?_; refine wp_load_tok refTokTy rfl _ rfl b2 (i * 6) rfl _ rfl hr2' ?_)
        | (go_at_call 45; refine HSM.out.mono ?_; rintro e w' ⟨rfl, kk, rfl⟩))
      go_roundw
      case rel => exact ⟨i + 1, by omega, by go_num, below_drewN6 HBW.out _⟩
      case measure => simp [intOf]; omega
    · obtain rfl : i = ts.length := by omega
      go_wp2_with fail
      go_ret
      exact ⟨rfl, HB.out⟩
end Go.Proofs.YthbfahbjfioghaaGreatDoor
set_option linter.unusedVariables false
namespace Go.Proofs.YthbfahbjfioghaaGreatDoor
open Go.RowKit

def doc6a : Bytes := [60, 97, 32, 98, 61, 39, 49, 39, 47, 62, 120]
def doc6b : Bytes := [60, 97, 32, 98, 61, 49, 62]
def doc6c : Bytes := [60, 97]
def doc6d : Bytes := [60, 33, 68, 79, 67, 84, 89, 80, 69, 32, 120, 62]
def att6 : Att := ⟨[], [98], [49], 3⟩
def tok6a : Tok := ⟨1, [97], [att6], true, [], 0⟩
def tok6b : Tok := ⟨3, [], [], false, [120], 10⟩
theorem toks6a : toks doc6a = ([tok6a, tok6b], 11, 0) := by kernel_rfl
theorem toks6b : toks doc6b = ([], 5, 7) := by kernel_rfl
theorem toks6c : toks doc6c = ([], 0, 8) := by kernel_rfl
theorem toks6d : toks doc6d = ([], 0, 11) := by kernel_rfl
theorem name6 : isQName [120, 58, 121] = true := by kernel_rfl

set_option maxHeartbeats 4000000 in
set_option maxRecDepth 100000 in
theorem alive6_any (m : Int) (w : World) (hT : Tabs w) (hM : MaxLen m w) : Calls Tryz.prog 14 #[] w fun e w' => e = .returned (.bool true) ∧ Below w.heap.size w w' := by
  have hA : ∀ W, Tabs W → MaxLen m W → Calls Tryz.prog 15 #[.string ⟨#[60, 97, 32, 98, 61, 39, 49, 39, 47, 62, 120]⟩] W fun e w' => ToksRes 34 W.heap.size w' (toks doc6a) e ∧ Below W.heap.size W w' := fun W h1 h2 => tokens_any doc6a m W h1 h2 (by decide)
  have hB : ∀ W, Tabs W → MaxLen m W → Calls Tryz.prog 15 #[.string ⟨#[60, 97, 32, 98, 61, 49, 62]⟩] W fun e w' => ToksRes 34 W.heap.size w' (toks doc6b) e ∧ Below W.heap.size W w' := fun W h1 h2 => tokens_any doc6b m W h1 h2 (by decide)
  have hC : ∀ W, Tabs W → MaxLen m W → Calls Tryz.prog 15 #[.string ⟨#[60, 97]⟩] W fun e w' => ToksRes 34 W.heap.size w' (toks doc6c) e ∧ Below W.heap.size W w' := fun W h1 h2 => tokens_any doc6c m W h1 h2 (by decide)
  have hD : ∀ W, Tabs W → MaxLen m W → Calls Tryz.prog 15 #[.string ⟨#[60, 33, 68, 79, 67, 84, 89, 80, 69, 32, 120, 62]⟩] W fun e w' => ToksRes 34 W.heap.size w' (toks doc6d) e ∧ Below W.heap.size W w' := fun W h1 h2 => tokens_any doc6d m W h1 h2 (by decide)
  rw [toks6a] at hA
  rw [toks6b] at hB
  rw [toks6c] at hC
  rw [toks6d] at hD
  have hN : ∀ W, Tabs W → Calls Tryz.prog 39 #[.string ⟨#[120, 58, 121]⟩] W fun e w' => e = .returned (.bool true) ∧ Below W.heap.size W w' := fun W h => by
    have := isQName_any [120, 58, 121] W h (by decide)
    rw [name6] at this
    exact this
  have HA := Lib.hid hA
  have HB := Lib.hid hB
  have HC := Lib.hid hC
  have HD := Lib.hid hD
  have HN := Lib.hid hN
  have HT := Lib.hid hT
  have HM := Lib.hid hM
  clear hA hB hC hD hN hT hM
  go_enter Tryz.func14, Tryz.ntmps14
  go_wp2_with fail
  refine (HA.out _ HT.out HM.out).mono ?_
  rintro e w1 ⟨⟨v, rfl, hrow⟩, hb1⟩
  have hP := hrow.toksP (p' := fun k => k < w1.heap.size) (fun k hk => hk.2.1) (fun k hk => (hrow.lt k hk).2)
  obtain ⟨A, cap, rfl, hcap⟩ := hP.slice
  have HP := Lib.hid hP
  have BB1 := Lib.hid hb1
  clear hrow hb1 hP
  go_wp2_with fail
  refine (HB.out _ (HT.out.next BB1.out) (HM.out.below BB1.out)).mono ?_
  rintro e w2 ⟨⟨v2, rfl, _⟩, hb2⟩
  have BB2 := Lib.hid (BB1.out.trans (hb2.mono BB1.out.size))
  have XX2 := Lib.hid hb2
  clear hb2
  go_wp2_with fail
  refine (HC.out _ (HT.out.next BB2.out) (HM.out.below BB2.out)).mono ?_
  rintro e w3 ⟨⟨v3, rfl, _⟩, hb3⟩
  have BB3 := Lib.hid (BB2.out.trans (hb3.mono BB2.out.size))
  have XX3 := Lib.hid (XX2.out.trans (hb3.mono XX2.out.size))
  clear hb3
  go_wp2_with fail
  refine (HD.out _ (HT.out.next BB3.out) (HM.out.below BB3.out)).mono ?_
  rintro e w4 ⟨⟨v4, rfl, _⟩, hb4⟩
  have BB4 := Lib.hid (BB3.out.trans (hb4.mono BB3.out.size))
  have XX4 := XX3.out.trans (hb4.mono XX3.out.size)
  have hP4 := ToksP.keep HP.out (w' := w4) (p' := fun k => k < w1.heap.size) (fun k hk => XX4.block k hk) (fun _ h => h)
  obtain ⟨b, cs, rfl, _, hr, ht⟩ := hP4.at_ (i := 0) (by decide)
  obtain ⟨b', cs', hbb, _, hr', ht'⟩ := hP4.at_ (i := 1) (by decide)
  obtain rfl : b = b' := by injection hbb with h1; injection h1
  obtain ⟨A1, c1, rfl, ha1, _⟩ := ht.open_
  obtain ⟨A2, c2, rfl, ha2, _⟩ := ht'.open_
  obtain ⟨ab, off, rfl, _, har⟩ := atts_at6 ha1 (i := 0) (by decide)
  have x0 : w4.cell? ⟨b, 0, none⟩ = some (.int .i64 1) := hr 0 _ rfl
  have x1 : w4.cell? ⟨b, 1, none⟩ = some (.string (S [97])) := hr 1 _ rfl
  have x2 : w4.cell? ⟨b, 2, none⟩ = some (.slice (some ⟨ab, off, none⟩) 1 c1) := hr 2 _ rfl
  have x3 : w4.cell? ⟨b, 3, none⟩ = some (.bool true) := hr 3 _ rfl
  have y4 : w4.cell? ⟨b, 10, none⟩ = some (.string (S [120])) := hr' 4 _ rfl
  have y5 : w4.cell? ⟨b, 11, none⟩ = some (.int .i64 10) := hr' 5 _ rfl
  have z0 : w4.cell? ⟨ab, off, none⟩ = some (.string (S [])) := har 0 _ rfl
  have z1 : w4.cell? ⟨ab, off + 1, none⟩ = some (.string (S [98])) := har 1 _ rfl
  have z2 : w4.cell? ⟨ab, off + 2, none⟩ = some (.string (S [49])) := har 2 _ rfl
  have z3 : w4.cell? ⟨ab, off + 3, none⟩ = some (.int .i64 3) := har 3 _ rfl
  have hne : ∀ w, (binOp .eql 42 (.agg #[.string (S []), .string (S [98]), .string (S [49]), .int .i64 3]) (.agg #[.string ⟨#[]⟩, .string ⟨#[98]⟩, .string ⟨#[49]⟩, .int .i64 3])).run Tryz.prog w = .ok (.bool true) w := fun w => by
    have := run_eq_att att6 att6 w
    rw [attB_same] at this
    exact this
  have hl1 : (List.length [tok6a, tok6b]) = 2 := rfl
  have hl2 : (List.length tok6a.attrs) = 1 := rfl
  clear hP4 hr hr' ht ht' ha1 ha2 har hbb hb4 XX4
  go_wp2_with (go_at_call 39; refine (HN.out _ (HT.out.next BB4.out)).mono ?_; rintro e w5 ⟨rfl, hb5⟩)
  go_ret
  exact ⟨rfl, BB4.out.trans (hb5.mono BB4.out.size)⟩
end Go.Proofs.YthbfahbjfioghaaGreatDoor
