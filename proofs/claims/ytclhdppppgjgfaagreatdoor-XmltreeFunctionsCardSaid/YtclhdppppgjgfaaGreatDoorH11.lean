/-
  Several texts in one file, in build order:
  - Walk of chapter 6: the program's tag: rest.
  - Walk of chapter 6: the program's construct. Made by gen_tokp8.py.
-/
import Derived.Test.YtclhdppppgjgfaaGreatDoorH10
set_option linter.unusedVariables false
namespace Go.Proofs.YtclhdppppgjgfaaGreatDoor
open Go.RowKit

theorem has_two {l : Bytes} {x : Nat} {c d : UInt8} (h : hasAt l x [c] = true) : hasAt l x [c, d] = hasAt l (x + 1) [d] := by
  obtain ⟨h0, h1⟩ := has_one.1 h
  unfold hasAt
  rw [List.drop_eq_getElem_cons h0, h1]
  simp [List.isPrefixOf]
theorem has_two_no {l : Bytes} {x : Nat} {c d : UInt8} (h : hasAt l x [c] = false) : hasAt l x [c, d] = false := by
  cases h2 : hasAt l x [c, d] with
  | false => rfl
  | true =>
    exfalso
    unfold hasAt at h h2
    cases hd : l.drop x with
    | nil => rw [hd] at h2; simp [List.isPrefixOf] at h2
    | cons y ys =>
      rw [hd] at h h2
      simp [List.isPrefixOf] at h h2
      exact h h2.1
/-- What rest returns. -/
def RestRes (w0 : World) (g b : Nat) (l : Bytes) (a : Nat) (ea : Int) (k : Int) (nm : Bytes) (tx : Bytes) (R : Except (Nat × Nat) (List Att × Bool × Nat)) (e : Ending) (w' : World) : Prop :=
  match R with
  | .error q => e = .returned (.bool false) ∧ TagFail w0 g b l q w'
  | .ok (cs, em, x) => e = .returned (.bool true) ∧ Cur w' b l x ea 0 ∧ Upd b w0 w' ∧ ∃ A c, TagB w' g b k nm A cs.length c em tx a ∧ AttRow w' (g + 1) (.slice A cs.length c) cs
theorem RestRes.err {w0 w' : World} {g b a : Nat} {l : Bytes} {ea k : Int} {nm tx : Bytes} {R : Except (Nat × Nat) (List Att × Bool × Nat)} {q : Nat × Nat} (hR : R = .error q) (h : TagFail w0 g b l q w') : RestRes w0 g b l a ea k nm tx R (.returned (.bool false)) w' := by
  subst hR; exact ⟨rfl, h⟩
/-- A tag between attributes. -/
structure ReS (w0 : World) (b g : Nat) (k : Int) (nm : Bytes) (A : Option Addr) (bs : List Att) (c : Nat) (em : Bool) (tx : Bytes) (a : Nat) (W : World) : Prop where
  up : Upd b w0 W
  tag : TagB W g b k nm A bs.length c em tx a
  row : AttRow W (g + 1) (.slice A bs.length c) bs
section
variable {w0 W W' : World} {b g : Nat} {k : Int} {nm : Bytes} {A : Option Addr} {bs : List Att} {c : Nat} {em : Bool} {tx : Bytes} {a : Nat}
theorem ReS.upd (s : ReS w0 b g k nm A bs c em tx a W) (hu : Upd b W W') (hb : b < g) : ReS w0 b g k nm A bs c em tx a W' :=
  ⟨s.up.trans hu, s.tag.upd hu (by omega), s.row.upd (by omega) hu⟩
theorem ReS.t0 (s : ReS w0 b g k nm A bs c em tx a W) : W.cell? ⟨g, 0, none⟩ = some (.pointer (some ⟨b, 0, none⟩)) := s.tag.cells.1
theorem ReS.t4 (s : ReS w0 b g k nm A bs c em tx a W) : W.cell? ⟨g, 4, none⟩ = some (.bool em) := s.tag.cells.2.2.2.2.1
theorem ReS.empty_ (s : ReS w0 b g k nm A bs c em tx a W) (hb : b < g) (h0 : w0.heap.size ≤ g) (x : Bool) : ReS w0 b g k nm A bs c x tx a (W.setCell ⟨g, 4, none⟩ (.bool x)) :=
  ⟨s.up.more ((Below.refl _ _).setCell (p := ⟨g, 4, none⟩) h0 _), s.tag.empty_ x, s.row.heap fun j hj => Below.heap_setCell _ _ _ _ (by have := s.row.lt j hj; simp; omega)⟩
theorem ReS.fail {l : Bytes} {q : Nat × Nat} {n : Int} (s : ReS w0 b g k nm A bs c em tx a W) (hc : Cur W b l n q.1 q.2) : TagFail w0 g b l q W := ⟨⟨n, hc⟩, ⟨_, _, _, _, _, _, _, _, s.tag⟩, s.up⟩
theorem reExpected {l : Bytes} {n : Nat} {ea : Int}
    (s : ReS w0 b g k nm A bs c em tx a W) (hC : Cur W b l n ea 0) (hb : b < g) (hl : l.length ≤ 1000000000) :
    Calls Tryz.prog 86 #[.pointer (some ⟨g, 0, none⟩)] W fun e w' => e = .returned (.bool false) ∧ TagFail w0 g b l (missing l a n) w' := by
  refine (tagExpected_any g b l n a ea k nm A bs.length c em tx W s.tag (by omega) hC hl).mono ?_
  rintro e w' ⟨rfl, h1, h2⟩
  exact ⟨rfl, (s.upd h2 hb).fail h1⟩
end
/-- The rest of a tag, behind an attribute that may have failed. -/
def tagNext (l : Bytes) (a f : Nat) (bs : List Att) : Except (Nat × Nat) (Att × Nat) → Except (Nat × Nat) (List Att × Bool × Nat)
  | .error q => .error q
  | .ok (t, e) => tagF l a f e (bs ++ [t])
set_option maxHeartbeats 4000000 in
theorem tagRest_any (w0 : World) (m : Int) (g b : Nat) (l : Bytes) (n a : Nat) (ea : Int) (k : Int) (nm : Bytes) (A : Option Addr) (bs : List Att) (c : Nat) (tx : Bytes) (f : Nat) (w : World)
    (hS : TS w0 b m) (hg : w0.heap.size ≤ g) (hs : ReS w0 b g k nm A bs c false tx a w) (hC : Cur w b l n ea 0) (hn : n ≤ l.length) (hbl : bs.length ≤ n) (hf : l.length < n + f) (hl : l.length ≤ 1000000000) :
    Calls Tryz.prog 87 #[.pointer (some ⟨g, 0, none⟩)] w (RestRes w0 g b l a ea k nm tx (tagF l a f n bs)) := by
  obtain ⟨T, hT⟩ : ∃ T, tagF l a f n bs = T := ⟨_, rfl⟩
  rw [hT]
  have HT := Lib.hid hT
  have HS := Lib.hid hS
  have HSS := Lib.hid hs
  have HC := Lib.hid hC
  have hbg : b < g := by have := hS.lt; omega
  clear hT hS hs hC
  go_enter Tryz.func87, Tryz.ntmps87
  go_wp2_with fail
  go_loopg [4] (l.length - n) (fun kk _ wr => ∃ (z f : Nat) (bs : List Att) (A : Option Addr) (c : Nat), z ≤ l.length ∧ kk = l.length - z ∧ l.length < z + f ∧ bs.length ≤ z ∧ tagF l a f z bs = T ∧ ReS w0 b g k nm A bs c false tx a wr ∧ Cur wr b l z ea 0)
  case atStart => exact ⟨n, f, bs, A, c, hn, rfl, hf, hbl, HT.out, HSS.out, HC.out⟩
  case round =>
    clear HSS HC HT hf hbl hn f bs A c
    obtain ⟨z, f, bs, A, c, hzl, hkk, hzf, hbl, htg, hs, hcu⟩ := hrel
    obtain ⟨f, rfl⟩ : ∃ g, f = g + 1 := ⟨f - 1, by omega⟩
    rw [tagF] at htg
    have s1 := spEnd_ge l z
    have s2 := spEnd_le hzl
    have hsp := curSpaces_any b l z ea 0 wr hcu hzl (by omega)
    obtain ⟨x, hx⟩ : ∃ x, spEnd l z = x := ⟨_, rfl⟩
    rw [hx] at htg s1 s2 hsp
    have HK := Lib.hid hkk
    have S1 := Lib.hid hs
    have HSP := Lib.hid hsp
    have x0 := hs.t0
    have HTG := Lib.hid htg
    clear hkk hs hcu hsp hx htg
    go_wp2_with fail
    refine HSP.out.mono ?_
    rintro e W2 ⟨rfl, hcu, hup⟩
    have S2 := Lib.hid (S1.out.upd hup hbg)
    have C2 := Lib.hid hcu
    clear hup hcu S1 HSP x0
    have x0 := S2.out.t0
    cases b1 : hasAt l x [62]
    case true =>
      have htg := HTG.out
      rw [b1, if_pos rfl] at htg
      have HRE := Lib.hid htg.symm
      have cA : Calls Tryz.prog 59 #[.pointer (some ⟨b, 0, none⟩), .string ⟨#[62]⟩] W2 _ := curYes_any b l x ea 0 [62] W2 b1 C2.out s2 hl
      have CA := Lib.hid cA
      clear cA htg HTG b1
      go_wp2_with fail
      refine CA.out.mono ?_
      rintro e W3 ⟨rfl, hcu, hup⟩
      have S3 := Lib.hid (S2.out.upd hup hbg)
      have C3 := Lib.hid hcu
      clear hup hcu
      go_wp2_with fail
      go_ret
      show RestRes _ _ _ _ _ _ _ _ _ _ _ _
      rw [HRE.out]
      exact ⟨rfl, C3.out, S3.out.up, A, c, S3.out.tag, S3.out.row⟩
    case false =>
      have htg := HTG.out
      rw [b1, if_neg (by decide)] at htg
      have HTG := Lib.hid htg
      have cA : Calls Tryz.prog 59 #[.pointer (some ⟨b, 0, none⟩), .string ⟨#[62]⟩] W2 _ := curNo_any b l x ea 0 [62] W2 b1 C2.out s2 hl
      have CA := Lib.hid cA
      clear cA htg b1
      go_wp2_with fail
      refine CA.out.mono ?_
      rintro e W3 ⟨rfl, hcu, hup⟩
      have S3 := Lib.hid (S2.out.upd hup hbg)
      have C3 := Lib.hid hcu
      clear hup hcu S2 C2 CA x0
      have x0 := S3.out.t0
      cases b3 : hasAt l x [47]
      case true =>
        have htg := HTG.out
        rw [has_two b3] at htg
        have hx1 : x + 1 ≤ l.length := by
          have := hasAt_le b3
          simp at this; omega
        have cA : Calls Tryz.prog 59 #[.pointer (some ⟨b, 0, none⟩), .string ⟨#[47]⟩] W3 _ := curYes_any b l x ea 0 [47] W3 b3 C3.out s2 hl
        have CA := Lib.hid cA
        have HTG := Lib.hid htg
        have HB3 := Lib.hid b3
        clear cA htg b3
        go_wp2_with fail
        refine CA.out.mono ?_
        rintro e W4 ⟨rfl, hcu, hup⟩
        have hs4 := S3.out.upd hup hbg
        have y0 := hs4.t0
        have y4 := hs4.t4
        have yf := hs4.tag.free 4
        have S5 := Lib.hid (hs4.empty_ hbg hg true)
        have C5 := Lib.hid (hcu.other (i := 4) (show b ≠ g by omega) (.bool true))
        have z0 := S5.out.t0
        clear hs4 hup hcu S3 C3 CA x0
        cases b2 : hasAt l (x + 1) [62]
        case true =>
          have htg := HTG.out
          rw [b2, if_pos rfl] at htg
          have HRE := Lib.hid htg.symm
          have cA : ∀ W, Cur W b l ((x + 1 : Nat) : Int) ea 0 → Calls Tryz.prog 59 #[.pointer (some ⟨b, 0, none⟩), .string ⟨#[62]⟩] W _ := fun W hW => curYes_any b l (x + 1) ea 0 [62] W b2 hW hx1 hl
          have CA := Lib.hid cA
          clear cA htg HTG b2
          go_wp2_with fail
          refine (CA.out _ C5.out).mono ?_
          rintro e W6 ⟨rfl, hcu, hup⟩
          have S6 := Lib.hid (S5.out.upd hup hbg)
          have C6 := Lib.hid hcu
          clear hup hcu
          go_wp2_with fail
          go_ret
          show RestRes _ _ _ _ _ _ _ _ _ _ _ _
          rw [HRE.out]
          exact ⟨rfl, C6.out, S6.out.up, A, c, S6.out.tag, S6.out.row⟩
        case false =>
          have htg := HTG.out
          rw [b2, if_neg (by decide), if_pos HB3.out] at htg
          have HRE := Lib.hid htg.symm
          have cA : ∀ W, Cur W b l ((x + 1 : Nat) : Int) ea 0 → Calls Tryz.prog 59 #[.pointer (some ⟨b, 0, none⟩), .string ⟨#[62]⟩] W _ := fun W hW => curNo_any b l (x + 1) ea 0 [62] W b2 hW hx1 hl
          have CA := Lib.hid cA
          clear cA htg HTG b2
          go_wp2_with fail
          refine (CA.out _ C5.out).mono ?_
          rintro e W6 ⟨rfl, hcu, hup⟩
          have S6 := Lib.hid (S5.out.upd hup hbg)
          have C6 := Lib.hid hcu
          clear hup hcu
          go_wp2_with fail
          refine (reExpected S6.out C6.out hbg hl).mono ?_
          rintro e w2 ⟨rfl, hf⟩
          have HF := Lib.hid hf
          clear hf
          go_wp2_with fail
          go_ret
          exact RestRes.err HRE.out HF.out
      case false =>
        have htg := HTG.out
        rw [has_two_no b3, if_neg (by decide), b3, if_neg (by decide)] at htg
        have cA : Calls Tryz.prog 59 #[.pointer (some ⟨b, 0, none⟩), .string ⟨#[47]⟩] W3 _ := curNo_any b l x ea 0 [47] W3 b3 C3.out s2 hl
        have CA := Lib.hid cA
        have HTG := Lib.hid htg
        clear cA htg b3
        go_wp2_with fail
        refine CA.out.mono ?_
        rintro e W4 ⟨rfl, hcu, hup⟩
        have S4 := Lib.hid (S3.out.upd hup hbg)
        have C4 := Lib.hid hcu
        clear hup hcu S3 C3 CA x0
        by_cases hxz : x = z
        · have htg := HTG.out
          rw [if_pos hxz] at htg
          subst hxz
          have HRE := Lib.hid htg.symm
          have t0 : ((x : Int) - x == 0) = true := by simp
          clear htg HTG
          go_wp2_with fail
          refine (reExpected S4.out C4.out hbg hl).mono ?_
          rintro e w2 ⟨rfl, hf⟩
          have HF := Lib.hid hf
          clear hf
          go_wp2_with fail
          go_ret
          exact RestRes.err HRE.out HF.out
        · have htg := HTG.out
          rw [if_neg hxz] at htg
          have htg : tagNext l a f bs (attDup bs x (attAt l a x)) = T := by
            rw [← htg]
            cases attAt l a x with
            | error q => rfl
            | ok p =>
              obtain ⟨t, e⟩ := p
              simp only [attDup]
              split <;> rfl
          have t0 : ((x : Int) - z == 0) = false := by rw [beq_eq_false_iff_ne]; omega
          have hat := tagAttribute_any w0 m g b l x a ea k nm A bs c false tx W4 HS.out hg S4.out.up S4.out.tag S4.out.row C4.out s2 (by omega) hl
          have hok : ∀ t e, attDup bs x (attAt l a x) = .ok (t, e) → x < e ∧ e ≤ l.length := by
            intro t e h
            cases hq : attAt l a x with
            | error q => rw [hq] at h; cases h
            | ok p =>
              obtain ⟨t', e'⟩ := p
              rw [hq] at h
              unfold attDup at h
              simp only at h
              split at h
              · cases h
              · cases h
                have := attAt_ok s2 hq
                exact ⟨this.1, this.2.1⟩
          generalize attDup bs x (attAt l a x) = R at *
          have HAT := Lib.hid hat
          have HOK := Lib.hid hok
          have HTG := Lib.hid htg
          have hxz' : z < x := by omega
          clear htg hat hok hxz S4 C4
          cases R with
          | error q =>
            have HRE := Lib.hid HTG.out.symm
            clear HTG
            go_wp2_with fail
            refine HAT.out.mono ?_
            rintro e w2 ⟨rfl, hf⟩
            have HF := Lib.hid hf
            clear hf
            go_wp2_with fail
            go_ret
            exact RestRes.err HRE.out HF.out
          | ok p =>
            obtain ⟨t, e⟩ := p
            obtain ⟨he1, he2⟩ := HOK.out t e rfl
            have htg := HTG.out
            unfold tagNext at htg
            simp only at htg
            have HTG := Lib.hid htg
            clear htg
            go_wp2_with fail
            refine HAT.out.mono ?_
            rintro e5 W5 ⟨rfl, hcu, hup, A', c', htag, hrow⟩
            have C5 := Lib.hid hcu
            have HU5 := Lib.hid hup
            have HTA := Lib.hid htag
            have HRO := Lib.hid hrow
            clear hcu hup htag hrow
            go_wp2_with fail
            go_roundg (l.length - e)
            case measure => rw [HK.out]; omega
            case rel => exact ⟨e, f, bs ++ [t], A', c', he2, rfl, by omega, by simp; omega, HTG.out, ⟨HU5.out, by simpa using HTA.out, by simpa using HRO.out⟩, C5.out⟩
end Go.Proofs.YtclhdppppgjgfaaGreatDoor
set_option linter.unusedVariables false
namespace Go.Proofs.YtclhdppppgjgfaaGreatDoor
open Go.RowKit

theorem proTokTy : TokTy 54 46 := ⟨by kernel_rfl, by kernel_rfl, ⟨_, Tryz.underlying54, rfl⟩⟩
theorem tokSizeP : (Tryz.prog.info? 54).map (·.size) = some 6 := by kernel_rfl
theorem wp_store_tokP {ops : Array Oper} {rest : List Oper} {o : Oper} {a : Act} {w : World} {Q : Exit → Act → World → Prop} (hgd : o.guard = none) (x y : Operand) (ho : o.op = .store 54 x y)
    (g : Nat) (cur : Array Value) (k p : Int) (nm t : ByteArray) (A : Option Addr) (n c : Nat) (em : Bool) (hx : a.eval x = .pointer (some ⟨g, 0, none⟩)) (hy : a.eval y = .agg #[.int .i64 k, .string nm, .slice A n c, .bool em, .string t, .int .i64 p])
    (hg : w.heap[g]? = some (.cells cur 54 (0, 0))) (hs : cur.size = 6)
    (h : ∀ w', w'.heap[g]? = some (.cells #[.int .i64 k, .string nm, .slice A n c, .bool em, .string t, .int .i64 p] 54 (0, 0)) → Upd g w w' → wpList Tryz.prog ops Q rest (a.put o.dst undef) w') : wpList Tryz.prog ops Q (o :: rest) a w :=
  wp_store_whole hgd 54 x y ho g 54 cur _ hx hy hg (by rw [hs]; rfl) tokSizeP (by simp [Value.oneCell']) h
theorem findS_upto (c : UInt8) : ∀ y : Bytes, findS [c] y = (upto c y).map List.length
  | [] => rfl
  | d :: y => by
    rw [findS, upto, findS_upto c y]
    by_cases h : d = c
    · subst h; simp
    · have h1 : List.isPrefixOf [c] (d :: y) = false := by
        have : (c == d) = false := by rw [beq_eq_false_iff_ne]; exact fun e => h e.symm
        simp [List.isPrefixOf, this]
      rw [if_neg (by rw [h1]; decide), if_neg h]
      cases upto c y <;> simp
theorem index_lt (y : Bytes) : Lib.indexByte y 60 = optI (findS sLt y) := by
  rw [indexByte_upto, show sLt = [60] from rfl, findS_upto]
  cases upto 60 y <;> rfl
/-- Whether the program keeps a token. -/
def keepP (t : Tok) : Bool := t.kind == 1 || t.kind == 2 || t.text != []
/-- A token of the program and one of the plain function: both are kept and the same, or neither is kept. -/
def KeepSame (t t' : Tok) : Prop := (keepTok t = true ∧ t' = t ∧ keepP t = true) ∨ (keepTok t = false ∧ keepP t' = false)
/-- What construct returns. -/
def ConsRes (w0 : World) (b : Nat) (l : Bytes) (ea : Int) (R : Except (Nat × Nat) (Tok × Nat)) (e : Ending) (w' : World) : Prop :=
  (match R with
  | .error q => (∃ t A c, e = .returned (.agg (tokCells t A c))) ∧ ∃ n : Int, Cur w' b l n q.1 q.2
  | .ok (t, x) => Cur w' b l x ea 0 ∧ ∃ t' A c, e = .returned (.agg (tokCells t' A c)) ∧ AttsP w' (fun k => w0.heap.size ≤ k ∧ k < w'.heap.size) (.slice A t'.attrs.length c) t'.attrs ∧ KeepSame t t') ∧ Upd b w0 w'
/-- The result's block. -/
abbrev Res0 (W : World) (r : Nat) : Prop := W.heap[r]? = some (.cells zTokC 54 (0, 0))
theorem TagB.range {w : World} {g b : Nat} {k : Int} {nm : Bytes} {A : Option Addr} {n c : Nat} {em : Bool} {tx : Bytes} {p : Int} (h : TagB w g b k nm A n c em tx p) : w.rangeAt g 1 [.int .i64 k, .string (S nm), .slice A n c, .bool em, .string (S tx), .int .i64 p] := by
  obtain ⟨h0, h1, h2, h3, h4, h5, h6⟩ := h.cells
  intro j v hj
  match j, hj with
  | 0, hj => cases hj; exact h1
  | 1, hj => cases hj; exact h2
  | 2, hj => cases hj; exact h3
  | 3, hj => cases hj; exact h4
  | 4, hj => cases hj; exact h5
  | 5, hj => cases hj; exact h6
section
variable {w W W2 : World} {b r : Nat} {l : Bytes} {ea : Int} {R : Except (Nat × Nat) (Tok × Nat)} {q : Nat × Nat}
theorem ConsRes.err {k : Int} {nm : Bytes} {A : Option Addr} {n c : Nat} {em : Bool} {tx : Bytes} {p i : Int} (hR : R = .error q) (hr : r = w.heap.size) (hC : Cur W b l i q.1 q.2) (hU : Upd b w W) (hbr : b < r) (hu2 : Upd r W W2) :
    ConsRes w b l ea R (.returned (.agg #[.int .i64 k, .string (S nm), .slice A n c, .bool em, .string (S tx), .int .i64 p])) W2 := by
  subst hR hr
  refine ⟨⟨⟨⟨k, nm, List.replicate n ⟨[], [], [], 0⟩, em, tx, p⟩, A, c, by simp [tokCells]⟩, i, hC.keep (hu2.block b hC.lt (by omega))⟩, hU.more (hu2.below (Nat.le_refl _) hU.size)⟩
theorem ConsRes.fine {t t' : Tok} {x : Nat} {A : Option Addr} {n c : Nat} {k : Int} {nm : Bytes} {em : Bool} {tx : Bytes} {p : Int} (hR : R = .ok (t, x)) (hr : r = w.heap.size) (hC : Cur W b l x ea 0) (hU : Upd b w W) (hbr : b < r) (hu2 : Upd r W W2)
    (ht : t' = ⟨k, nm, t'.attrs, em, tx, p⟩) (hn : n = t'.attrs.length) (hat : AttsP W (fun j => r < j ∧ j < W.heap.size) (.slice A n c) t'.attrs) (hk : KeepSame t t') :
    ConsRes w b l ea R (.returned (.agg #[.int .i64 k, .string (S nm), .slice A n c, .bool em, .string (S tx), .int .i64 p])) W2 := by
  subst hR hr hn
  refine ⟨⟨hC.keep (hu2.block b hC.lt (by omega)), t', A, c, ?_, ?_, hk⟩, hU.more (hu2.below (Nat.le_refl _) hU.size)⟩
  · rw [ht]
  · exact hat.keep (fun j hj => hu2.block j hj.2 (by omega)) (fun j hj => ⟨by omega, by have := hu2.size; omega⟩)
end

/-- The tag's cells while nothing has been read. -/
theorem ReS.kind_ {w0 W : World} {b g : Nat} {k : Int} {nm : Bytes} {A : Option Addr} {bs : List Att} {c : Nat} {em : Bool} {tx : Bytes} {a : Nat} (s : ReS w0 b g k nm A bs c em tx a W) (h0 : w0.heap.size ≤ g) (x : Int) : ReS w0 b g x nm A bs c em tx a (W.setCell ⟨g, 1, none⟩ (.int .i64 x)) :=
  ⟨s.up.more ((Below.refl _ _).setCell (p := ⟨g, 1, none⟩) h0 _), s.tag.kind_ x, s.row.heap fun j hj => Below.heap_setCell _ _ _ _ (by have := s.row.lt j hj; simp; omega)⟩
theorem ReS.text_ {w0 W : World} {b g : Nat} {k : Int} {nm : Bytes} {A : Option Addr} {bs : List Att} {c : Nat} {em : Bool} {tx : Bytes} {a : Nat} (s : ReS w0 b g k nm A bs c em tx a W) (h0 : w0.heap.size ≤ g) (x : Bytes) : ReS w0 b g k nm A bs c em x a (W.setCell ⟨g, 5, none⟩ (.string (S x))) :=
  ⟨s.up.more ((Below.refl _ _).setCell (p := ⟨g, 5, none⟩) h0 _), s.tag.text_ x, s.row.heap fun j hj => Below.heap_setCell _ _ _ _ (by have := s.row.lt j hj; simp; omega)⟩
theorem ReS.t1 {w0 W : World} {b g : Nat} {k : Int} {nm : Bytes} {A : Option Addr} {bs : List Att} {c : Nat} {em : Bool} {tx : Bytes} {a : Nat} (s : ReS w0 b g k nm A bs c em tx a W) : W.cell? ⟨g, 1, none⟩ = some (.int .i64 k) := s.tag.cells.2.1
theorem ReS.t5 {w0 W : World} {b g : Nat} {k : Int} {nm : Bytes} {A : Option Addr} {bs : List Att} {c : Nat} {em : Bool} {tx : Bytes} {a : Nat} (s : ReS w0 b g k nm A bs c em tx a W) : W.cell? ⟨g, 5, none⟩ = some (.string (S tx)) := s.tag.cells.2.2.2.2.2.1
theorem ReS.res {w0 W : World} {b g r : Nat} {k : Int} {nm : Bytes} {A : Option Addr} {bs : List Att} {c : Nat} {em : Bool} {tx : Bytes} {a : Nat} (s : ReS w0 b g k nm A bs c em tx a W) (h : Res0 w0 r) (hb : b < r) : Res0 W r := (s.up.block r (heap_lt h) (by omega)).trans h
theorem ReS.atts {w0 W : World} {b g r : Nat} {k : Int} {nm : Bytes} {A : Option Addr} {bs : List Att} {c : Nat} {em : Bool} {tx : Bytes} {a : Nat} (s : ReS w0 b g k nm A bs c em tx a W) (h : r < g) : AttsP W (fun j => r < j ∧ j < W.heap.size) (.slice A bs.length c) bs :=
  s.row.attsP fun j hj => by have := s.row.lt j hj; exact ⟨by omega, this.2⟩

theorem keepText {D : Bytes} {a : Int} : KeepSame ⟨3, [], [], false, D, a⟩ ⟨3, [], [], false, D, a⟩ := by
  by_cases h : D = []
  · subst h; exact .inr ⟨rfl, rfl⟩
  · have h1 : (D != []) = true := by rw [bne_iff_ne]; exact h
    exact .inl ⟨by simp [keepTok, h1], rfl, by simp [keepP, h1]⟩

set_option maxHeartbeats 4000000 in
set_option maxRecDepth 100000 in
theorem curCons_any (b : Nat) (l : Bytes) (a : Nat) (ea m : Int) (w : World) (hT : Tabs w) (hM : MaxLen m w) (hC : Cur w b l a ea 0) (ha : a < l.length) (hl : l.length ≤ 1000000000) :
    Calls Tryz.prog 60 #[.pointer (some ⟨b, 0, none⟩)] w (ConsRes w b l ea (consAt l a)) := by
  obtain ⟨R, hR⟩ : ∃ R, consAt l a = R := ⟨_, rfl⟩
  rw [hR]
  unfold consAt at hR
  have hb := hC.lt
  obtain ⟨r, hr⟩ : ∃ r, w.heap.size = r := ⟨_, rfl⟩
  rw [hr] at hb
  obtain ⟨w0, hw0⟩ : ∃ w0, w.alloc (.cells zTokC 54) = w0 := ⟨_, rfl⟩
  have hz0 : w0.heap.size = r + 1 := by rw [← hw0]; simp [hr]
  have hB0 : Below w.heap.size w w0 := by rw [← hw0]; exact (Below.refl _ _).alloc (Nat.le_refl _) _
  have hU0 : Upd b w w0 := .of_below hB0
  have hC0 : Cur w0 b l a ea 0 := hC.below hB0
  have hS : TS w0 b m := ⟨hT.next hB0, hM.below hB0, _, _, _, _, hC0⟩
  have hres : Res0 w0 r := by unfold Res0; rw [← hw0]; exact alloc_at hr
  have hbg : b < r + 1 := by omega
  have s1 : ReS w0 b (r + 1) 0 [] none [] 0 false [] a (w0.alloc (.cells #[.pointer (some ⟨b, 0, none⟩), .int .i64 0, .string ⟨#[]⟩, .slice none 0 0, .bool false, .string ⟨#[]⟩, .int .i64 a] 121)) :=
    ⟨(Upd.refl _ _).alloc _, alloc_at hz0, AttRow.nil _ _⟩
  have C1 := Lib.hid (hC0.alloc (.cells #[.pointer (some ⟨b, 0, none⟩), .int .i64 0, .string ⟨#[]⟩, .slice none 0 0, .bool false, .string ⟨#[]⟩, .int .i64 a] 121))
  have S1 := Lib.hid s1
  have HR := Lib.hid hR
  have HS := Lib.hid hS
  have HRES := Lib.hid hres
  have HU0 := Lib.hid hU0
  have HRR := Lib.hid hr.symm
  have HZ0 := Lib.hid hz0
  have hg0 : w0.heap.size ≤ r + 1 := by omega
  have k1 := hC0.c1
  have ha' : a ≤ l.length := by omega
  clear s1 hR hS hres hU0 hC hC0 hB0 hT hM
  go_enter Tryz.func60, Tryz.ntmps60
  go_upto_region 9 with (fail)
  clear k1
  generalize w0.alloc (.cells #[.pointer (some ⟨b, 0, none⟩), .int .i64 0, .string ⟨#[]⟩, .slice none 0 0, .bool false, .string ⟨#[]⟩, .int .i64 a] 121) = W1 at *
  clear hw0 hz0 hr
  cases b1 : hasAt l a sPi
  case true =>
    have hr := HR.out
    rw [b1, if_pos rfl] at hr
    have HR := Lib.hid hr
    clear hr
    have cA : Calls Tryz.prog 59 #[.pointer (some ⟨b, 0, none⟩), .string ⟨#[60, 63]⟩] W1 _ := curYes_any b l a ea 0 sPi W1 b1 C1.out ha' hl
    have CA := Lib.hid cA
    clear cA
    go_wp2_with fail
    refine CA.out.mono ?_
    rintro e W2 ⟨rfl, hcu, hup⟩
    have S2 := Lib.hid (S1.out.upd hup hbg)
    have C2 := Lib.hid hcu
    clear hup hcu CA S1 C1
    have hle : a + 2 ≤ l.length := by
      have := hasAt_le b1
      simp [sPi] at this; omega
    have hr := HR.out
    clear HR b1
    unfold skipAt at hr
    have cU : Calls Tryz.prog 81 #[.pointer (some ⟨b, 0, none⟩), .string ⟨#[63, 62]⟩] W2 _ := curUntil_any b l (a + 2) ea 0 sPiEnd m W2 (HS.out.max_ S2.out.up) C2.out hle (by omega)
    unfold untlS untlN at cU
    cases hf : findS sPiEnd (l.drop (a + 2)) with
    | none =>
      rw [hf] at hr cU
      have HRE : Hid (R = .error (a, 8)) := hr.symm
      have CU := Lib.hid cU
      clear cU hf hr
      go_wp2_with fail
      refine CU.out.mono ?_
      rintro e W3 ⟨rfl, hcu, hup⟩
      have S3 := Lib.hid (S2.out.upd hup hbg)
      have C3 := Lib.hid hcu
      clear hup hcu CU S2 C2
      go_wp2_with fail
      refine (curFail0_any b l _ ea a 8 _ C3.out).mono ?_
      rintro e W8 ⟨rfl, hcu, hup⟩
      have S8 := Lib.hid (S3.out.upd hup hbg)
      have C8 := Lib.hid hcu
      clear hup hcu
      have hra := S8.out.tag.range
      have hrs := S8.out.res HRES.out hb
      have HRS := Lib.hid hrs
      go_wp2_with (first
        | (with_reducible refine gate ?_; refine wp_load_tok proTokTy rfl _ rfl (r + 1) 1 rfl _ rfl hra ?_)
        | (with_reducible refine gate ?_; refine wp_store_tokP rfl _ _ rfl r _ _ _ _ _ _ _ _ _ rfl rfl hrs rfl ?_; intro w2 hw2 hu2))
      refine bodyPost_ret (v := .agg _) (res_whole Tryz.results60 _ _ r rfl _ _ hw2 Tryz.underlying54 rfl tokSizeP) rfl ?_
      exact ConsRes.err HRE.out HRR.out C8.out (HU0.out.trans S8.out.up) hb hu2

    | some j =>
      rw [hf] at hr cU
      have HRE : Hid (R = .ok (zTok 3, a + 2 + j + sPiEnd.length)) := hr.symm
      have CU := Lib.hid cU
      clear cU hf hr
      go_wp2_with fail
      refine CU.out.mono ?_
      rintro e W3 ⟨rfl, hcu, hup⟩
      have S3 := Lib.hid (S2.out.upd hup hbg)
      have C3 := Lib.hid hcu
      clear hup hcu CU S2 C2
      have hra := S3.out.tag.range
      have hrs := S3.out.res HRES.out hb
      have HRS := Lib.hid hrs
      go_wp2_with (first
        | (with_reducible refine gate ?_; refine wp_load_tok proTokTy rfl _ rfl (r + 1) 1 rfl _ rfl hra ?_)
        | (with_reducible refine gate ?_; refine wp_store_tokP rfl _ _ rfl r _ _ _ _ _ _ _ _ _ rfl rfl hrs rfl ?_; intro w2 hw2 hu2))
      refine bodyPost_ret (v := .agg _) (res_whole Tryz.results60 _ _ r rfl _ _ hw2 Tryz.underlying54 rfl tokSizeP) rfl ?_
      exact ConsRes.fine (t' := ⟨0, [], [], false, [], a⟩) HRE.out HRR.out (by rw [Nat.add_assoc]; exact C3.out) (HU0.out.trans S3.out.up) hb hu2 rfl rfl (S3.out.atts (by omega)) (.inr ⟨rfl, rfl⟩)

  have hr := HR.out
  rw [b1, if_neg (by decide)] at hr
  have HR := Lib.hid hr
  clear hr
  have cA : Calls Tryz.prog 59 #[.pointer (some ⟨b, 0, none⟩), .string ⟨#[60, 63]⟩] W1 _ := curNo_any b l a ea 0 sPi W1 b1 C1.out ha' hl
  have CA := Lib.hid cA
  clear cA
  go_wp2_with fail
  refine CA.out.mono ?_
  rintro e W11 ⟨rfl, hcu, hup⟩
  have S11 := Lib.hid (S1.out.upd hup hbg)
  have C11 := Lib.hid hcu
  clear hup hcu CA S1 C1
  clear b1
  cases b1 : hasAt l a sCom
  case true =>
    have hr := HR.out
    rw [b1, if_pos rfl] at hr
    have HR := Lib.hid hr
    clear hr
    have cA : Calls Tryz.prog 59 #[.pointer (some ⟨b, 0, none⟩), .string ⟨#[60, 33, 45, 45]⟩] W11 _ := curYes_any b l a ea 0 sCom W11 b1 C11.out ha' hl
    have CA := Lib.hid cA
    clear cA
    go_wp2_with fail
    refine CA.out.mono ?_
    rintro e W2 ⟨rfl, hcu, hup⟩
    have S2 := Lib.hid (S11.out.upd hup hbg)
    have C2 := Lib.hid hcu
    clear hup hcu CA S11 C11
    have hle : a + 4 ≤ l.length := by
      have := hasAt_le b1
      simp [sCom] at this; omega
    have hr := HR.out
    clear HR b1
    unfold skipAt at hr
    have cU : Calls Tryz.prog 81 #[.pointer (some ⟨b, 0, none⟩), .string ⟨#[45, 45, 62]⟩] W2 _ := curUntil_any b l (a + 4) ea 0 sComEnd m W2 (HS.out.max_ S2.out.up) C2.out hle (by omega)
    unfold untlS untlN at cU
    cases hf : findS sComEnd (l.drop (a + 4)) with
    | none =>
      rw [hf] at hr cU
      have HRE : Hid (R = .error (a, 8)) := hr.symm
      have CU := Lib.hid cU
      clear cU hf hr
      go_wp2_with fail
      refine CU.out.mono ?_
      rintro e W3 ⟨rfl, hcu, hup⟩
      have S3 := Lib.hid (S2.out.upd hup hbg)
      have C3 := Lib.hid hcu
      clear hup hcu CU S2 C2
      go_wp2_with fail
      refine (curFail0_any b l _ ea a 8 _ C3.out).mono ?_
      rintro e W8 ⟨rfl, hcu, hup⟩
      have S8 := Lib.hid (S3.out.upd hup hbg)
      have C8 := Lib.hid hcu
      clear hup hcu
      have hra := S8.out.tag.range
      have hrs := S8.out.res HRES.out hb
      have HRS := Lib.hid hrs
      go_wp2_with (first
        | (with_reducible refine gate ?_; refine wp_load_tok proTokTy rfl _ rfl (r + 1) 1 rfl _ rfl hra ?_)
        | (with_reducible refine gate ?_; refine wp_store_tokP rfl _ _ rfl r _ _ _ _ _ _ _ _ _ rfl rfl hrs rfl ?_; intro w2 hw2 hu2))
      refine bodyPost_ret (v := .agg _) (res_whole Tryz.results60 _ _ r rfl _ _ hw2 Tryz.underlying54 rfl tokSizeP) rfl ?_
      exact ConsRes.err HRE.out HRR.out C8.out (HU0.out.trans S8.out.up) hb hu2

    | some j =>
      rw [hf] at hr cU
      have HRE : Hid (R = .ok (zTok 3, a + 4 + j + sComEnd.length)) := hr.symm
      have CU := Lib.hid cU
      clear cU hf hr
      go_wp2_with fail
      refine CU.out.mono ?_
      rintro e W3 ⟨rfl, hcu, hup⟩
      have S3 := Lib.hid (S2.out.upd hup hbg)
      have C3 := Lib.hid hcu
      clear hup hcu CU S2 C2
      have hra := S3.out.tag.range
      have hrs := S3.out.res HRES.out hb
      have HRS := Lib.hid hrs
      go_wp2_with (first
        | (with_reducible refine gate ?_; refine wp_load_tok proTokTy rfl _ rfl (r + 1) 1 rfl _ rfl hra ?_)
        | (with_reducible refine gate ?_; refine wp_store_tokP rfl _ _ rfl r _ _ _ _ _ _ _ _ _ rfl rfl hrs rfl ?_; intro w2 hw2 hu2))
      refine bodyPost_ret (v := .agg _) (res_whole Tryz.results60 _ _ r rfl _ _ hw2 Tryz.underlying54 rfl tokSizeP) rfl ?_
      exact ConsRes.fine (t' := ⟨0, [], [], false, [], a⟩) HRE.out HRR.out (by rw [Nat.add_assoc]; exact C3.out) (HU0.out.trans S3.out.up) hb hu2 rfl rfl (S3.out.atts (by omega)) (.inr ⟨rfl, rfl⟩)

  have hr := HR.out
  rw [b1, if_neg (by decide)] at hr
  have HR := Lib.hid hr
  clear hr
  have cA : Calls Tryz.prog 59 #[.pointer (some ⟨b, 0, none⟩), .string ⟨#[60, 33, 45, 45]⟩] W11 _ := curNo_any b l a ea 0 sCom W11 b1 C11.out ha' hl
  have CA := Lib.hid cA
  clear cA
  go_wp2_with fail
  refine CA.out.mono ?_
  rintro e W12 ⟨rfl, hcu, hup⟩
  have S12 := Lib.hid (S11.out.upd hup hbg)
  have C12 := Lib.hid hcu
  clear hup hcu CA S11 C11
  clear b1
  cases b1 : hasAt l a sCd
  case true =>
    have hr := HR.out
    rw [b1, if_pos rfl] at hr
    have HR := Lib.hid hr
    clear hr
    have cA : Calls Tryz.prog 59 #[.pointer (some ⟨b, 0, none⟩), .string ⟨#[60, 33, 91, 67, 68, 65, 84, 65, 91]⟩] W12 _ := curYes_any b l a ea 0 sCd W12 b1 C12.out ha' hl
    have CA := Lib.hid cA
    clear cA
    go_wp2_with fail
    refine CA.out.mono ?_
    rintro e W2 ⟨rfl, hcu, hup⟩
    have S2 := Lib.hid (S12.out.upd hup hbg)
    have C2 := Lib.hid hcu
    clear hup hcu CA S12 C12
    have hle : a + 9 ≤ l.length := by
      have := hasAt_le b1
      simp [sCd] at this; omega
    have hr := HR.out
    clear HR b1
    unfold skipAt at hr
    have x1 := S2.out.t1
    have xf := S2.out.tag.free 1
    have S3 := Lib.hid (S2.out.kind_ hg0 3)
    have C3 := Lib.hid (C2.out.other (i := 1) (show b ≠ r + 1 by omega) (.int .i64 3))
    have cU : ∀ W, Upd b w0 W → Cur W b l ((a + 9 : Nat) : Int) ea 0 → Calls Tryz.prog 81 #[.pointer (some ⟨b, 0, none⟩), .string ⟨#[93, 93, 62]⟩] W _ := fun W h1 h2 => curUntil_any b l (a + 9) ea 0 sCdEnd m W (HS.out.max_ h1) h2 hle (by omega)
    unfold untlS untlN at cU
    cases hf : findS sCdEnd (l.drop (a + 9)) with
    | none =>
      rw [hf] at hr cU
      have HRE : Hid (R = .error (a, 8)) := hr.symm
      have CU := Lib.hid cU
      clear cU hf hr
      go_wp2_with fail
      refine (CU.out _ S3.out.up C3.out).mono ?_
      rintro e W4 ⟨rfl, hcu, hup⟩
      have hs4 := S3.out.upd hup hbg
      have x5 := hs4.t5
      have xf5 := hs4.tag.free 5
      have S5 := Lib.hid (hs4.text_ hg0 (l.drop (a + 9)))
      have C5 := Lib.hid (hcu.other (i := 5) (show b ≠ r + 1 by omega) (.string (S (l.drop (a + 9)))))
      have y5 := S5.out.t5
      have yf5 := S5.out.tag.free 5
      clear hup hcu CU hs4
      have hln : ∀ W, Upd b w0 W → Calls Tryz.prog 82 #[.string (S (l.drop (a + 9)))] W fun e w' => e = .returned (.string (S (linesB (l.drop (a + 9))))) ∧ Below W.heap.size W w' := fun W h => lines_any (l.drop (a + 9)) m W (HS.out.max_ h) (by simp; omega)
      obtain ⟨D, hD⟩ : ∃ D, linesB (l.drop (a + 9)) = D := ⟨_, rfl⟩
      -- no result
      rw [hD] at hln
      have HLN := Lib.hid hln
      clear hln hD
      go_wp2_with fail
      refine (HLN.out _ S5.out.up).mono ?_
      rintro e W6 ⟨rfl, hbe⟩
      have hs6 := S5.out.upd (Upd.of_below hbe) hbg
      have hc6 := C5.out.below hbe
      have u5 := hs6.t5
      have uf5 := hs6.tag.free 5
      have S7 := Lib.hid (hs6.text_ hg0 D)
      have C7 := Lib.hid (hc6.other (i := 5) (show b ≠ r + 1 by omega) (.string (S D)))
      clear hbe hs6 hc6 y5 yf5 HLN
      go_wp2_with fail
      refine (curFail0_any b l _ ea a 8 _ C7.out).mono ?_
      rintro e W8 ⟨rfl, hcu, hup⟩
      have S8 := Lib.hid (S7.out.upd hup hbg)
      have C8 := Lib.hid hcu
      clear hup hcu
      have hra := S8.out.tag.range
      have hrs := S8.out.res HRES.out hb
      have HRS := Lib.hid hrs
      go_wp2_with (first
        | (with_reducible refine gate ?_; refine wp_load_tok proTokTy rfl _ rfl (r + 1) 1 rfl _ rfl hra ?_)
        | (with_reducible refine gate ?_; refine wp_store_tokP rfl _ _ rfl r _ _ _ _ _ _ _ _ _ rfl rfl hrs rfl ?_; intro w2 hw2 hu2))
      refine bodyPost_ret (v := .agg _) (res_whole Tryz.results60 _ _ r rfl _ _ hw2 Tryz.underlying54 rfl tokSizeP) rfl ?_
      exact ConsRes.err HRE.out HRR.out C8.out (HU0.out.trans S8.out.up) hb hu2

    | some j =>
      rw [hf] at hr cU
      have hfl := findS_le hf
      rw [List.length_drop] at hfl
      have HRE : Hid (R = .ok (⟨3, [], [], false, linesB ((l.drop (a + 9)).take j), a⟩, a + 9 + j + sCdEnd.length)) := by
        have e3 : a + 9 + j + sCdEnd.length - 3 - (a + 9) = j := by simp only [sCdEnd, List.length_cons, List.length_nil]; omega
        refine hr.symm.trans ?_
        show Except.ok ((⟨3, [], [], false, linesB ((l.drop (a + 9)).take (a + 9 + j + sCdEnd.length - 3 - (a + 9))), a⟩ : Tok), a + 9 + j + sCdEnd.length) = _
        rw [e3]
      have CU := Lib.hid cU
      clear cU hf hr hfl
      go_wp2_with fail
      refine (CU.out _ S3.out.up C3.out).mono ?_
      rintro e W4 ⟨rfl, hcu, hup⟩
      have hs4 := S3.out.upd hup hbg
      have x5 := hs4.t5
      have xf5 := hs4.tag.free 5
      have S5 := Lib.hid (hs4.text_ hg0 ((l.drop (a + 9)).take j))
      have C5 := Lib.hid (hcu.other (i := 5) (show b ≠ r + 1 by omega) (.string (S ((l.drop (a + 9)).take j))))
      have y5 := S5.out.t5
      have yf5 := S5.out.tag.free 5
      clear hup hcu CU hs4
      have hln : ∀ W, Upd b w0 W → Calls Tryz.prog 82 #[.string (S ((l.drop (a + 9)).take j))] W fun e w' => e = .returned (.string (S (linesB ((l.drop (a + 9)).take j)))) ∧ Below W.heap.size W w' := fun W h => lines_any ((l.drop (a + 9)).take j) m W (HS.out.max_ h) (by simp; omega)
      obtain ⟨D, hD⟩ : ∃ D, linesB ((l.drop (a + 9)).take j) = D := ⟨_, rfl⟩
      have HRE := HRE.out
      rw [hD] at HRE
      have HRE := Lib.hid HRE
      rw [hD] at hln
      have HLN := Lib.hid hln
      clear hln hD
      go_wp2_with fail
      refine (HLN.out _ S5.out.up).mono ?_
      rintro e W6 ⟨rfl, hbe⟩
      have hs6 := S5.out.upd (Upd.of_below hbe) hbg
      have hc6 := C5.out.below hbe
      have u5 := hs6.t5
      have uf5 := hs6.tag.free 5
      have S7 := Lib.hid (hs6.text_ hg0 D)
      have C7 := Lib.hid (hc6.other (i := 5) (show b ≠ r + 1 by omega) (.string (S D)))
      clear hbe hs6 hc6 y5 yf5 HLN
      have hra := S7.out.tag.range
      have hrs := S7.out.res HRES.out hb
      have HRS := Lib.hid hrs
      go_wp2_with (first
        | (with_reducible refine gate ?_; refine wp_load_tok proTokTy rfl _ rfl (r + 1) 1 rfl _ rfl hra ?_)
        | (with_reducible refine gate ?_; refine wp_store_tokP rfl _ _ rfl r _ _ _ _ _ _ _ _ _ rfl rfl hrs rfl ?_; intro w2 hw2 hu2))
      refine bodyPost_ret (v := .agg _) (res_whole Tryz.results60 _ _ r rfl _ _ hw2 Tryz.underlying54 rfl tokSizeP) rfl ?_
      exact ConsRes.fine (t' := ⟨3, [], [], false, D, a⟩) (t := ⟨3, [], [], false, D, a⟩) HRE.out HRR.out (by rw [Nat.add_assoc]; exact C7.out) (HU0.out.trans S7.out.up) hb hu2 rfl rfl (S7.out.atts (by omega)) keepText

  have hr := HR.out
  rw [b1, if_neg (by decide)] at hr
  have HR := Lib.hid hr
  clear hr
  have cA : Calls Tryz.prog 59 #[.pointer (some ⟨b, 0, none⟩), .string ⟨#[60, 33, 91, 67, 68, 65, 84, 65, 91]⟩] W12 _ := curNo_any b l a ea 0 sCd W12 b1 C12.out ha' hl
  have CA := Lib.hid cA
  clear cA
  go_wp2_with fail
  refine CA.out.mono ?_
  rintro e W13 ⟨rfl, hcu, hup⟩
  have S13 := Lib.hid (S12.out.upd hup hbg)
  have C13 := Lib.hid hcu
  clear hup hcu CA S12 C12
  clear b1
  cases b1 : hasAt l a sDoc
  case true =>
    have hr := HR.out
    rw [b1, if_pos rfl] at hr
    have HR := Lib.hid hr
    clear hr
    have cA : Calls Tryz.prog 59 #[.pointer (some ⟨b, 0, none⟩), .string ⟨#[60, 33, 68, 79, 67, 84, 89, 80, 69]⟩] W13 _ := curYes_any b l a ea 0 sDoc W13 b1 C13.out ha' hl
    have CA := Lib.hid cA
    clear cA
    go_wp2_with fail
    refine CA.out.mono ?_
    rintro e W2 ⟨rfl, hcu, hup⟩
    have S2 := Lib.hid (S13.out.upd hup hbg)
    have C2 := Lib.hid hcu
    clear hup hcu CA S13 C13
    have HRE : Hid (R = .error (a, 11)) := HR.out.symm
    clear HR b1
    go_wp2_with fail
    refine (curFail0_any b l _ ea a 11 _ C2.out).mono ?_
    rintro e W8 ⟨rfl, hcu, hup⟩
    have S8 := Lib.hid (S2.out.upd hup hbg)
    have C8 := Lib.hid hcu
    clear hup hcu
    have hra := S8.out.tag.range
    have hrs := S8.out.res HRES.out hb
    have HRS := Lib.hid hrs
    go_wp2_with (first
      | (with_reducible refine gate ?_; refine wp_load_tok proTokTy rfl _ rfl (r + 1) 1 rfl _ rfl hra ?_)
      | (with_reducible refine gate ?_; refine wp_store_tokP rfl _ _ rfl r _ _ _ _ _ _ _ _ _ rfl rfl hrs rfl ?_; intro w2 hw2 hu2))
    refine bodyPost_ret (v := .agg _) (res_whole Tryz.results60 _ _ r rfl _ _ hw2 Tryz.underlying54 rfl tokSizeP) rfl ?_
    exact ConsRes.err HRE.out HRR.out C8.out (HU0.out.trans S8.out.up) hb hu2

  have hr := HR.out
  rw [b1, if_neg (by decide)] at hr
  have HR := Lib.hid hr
  clear hr
  have cA : Calls Tryz.prog 59 #[.pointer (some ⟨b, 0, none⟩), .string ⟨#[60, 33, 68, 79, 67, 84, 89, 80, 69]⟩] W13 _ := curNo_any b l a ea 0 sDoc W13 b1 C13.out ha' hl
  have CA := Lib.hid cA
  clear cA
  go_wp2_with fail
  refine CA.out.mono ?_
  rintro e W14 ⟨rfl, hcu, hup⟩
  have S14 := Lib.hid (S13.out.upd hup hbg)
  have C14 := Lib.hid hcu
  clear hup hcu CA S13 C13
  clear b1
  cases b1 : hasAt l a sBang
  case true =>
    have hr := HR.out
    rw [b1, if_pos rfl] at hr
    have HR := Lib.hid hr
    clear hr
    have cA : Calls Tryz.prog 59 #[.pointer (some ⟨b, 0, none⟩), .string ⟨#[60, 33]⟩] W14 _ := curYes_any b l a ea 0 sBang W14 b1 C14.out ha' hl
    have CA := Lib.hid cA
    clear cA
    go_wp2_with fail
    refine CA.out.mono ?_
    rintro e W2 ⟨rfl, hcu, hup⟩
    have S2 := Lib.hid (S14.out.upd hup hbg)
    have C2 := Lib.hid hcu
    clear hup hcu CA S14 C14
    have HRE : Hid (R = .error (a, 7)) := HR.out.symm
    clear HR b1
    go_wp2_with fail
    refine (curFail0_any b l _ ea a 7 _ C2.out).mono ?_
    rintro e W8 ⟨rfl, hcu, hup⟩
    have S8 := Lib.hid (S2.out.upd hup hbg)
    have C8 := Lib.hid hcu
    clear hup hcu
    have hra := S8.out.tag.range
    have hrs := S8.out.res HRES.out hb
    have HRS := Lib.hid hrs
    go_wp2_with (first
      | (with_reducible refine gate ?_; refine wp_load_tok proTokTy rfl _ rfl (r + 1) 1 rfl _ rfl hra ?_)
      | (with_reducible refine gate ?_; refine wp_store_tokP rfl _ _ rfl r _ _ _ _ _ _ _ _ _ rfl rfl hrs rfl ?_; intro w2 hw2 hu2))
    refine bodyPost_ret (v := .agg _) (res_whole Tryz.results60 _ _ r rfl _ _ hw2 Tryz.underlying54 rfl tokSizeP) rfl ?_
    exact ConsRes.err HRE.out HRR.out C8.out (HU0.out.trans S8.out.up) hb hu2

  have hr := HR.out
  rw [b1, if_neg (by decide)] at hr
  have HR := Lib.hid hr
  clear hr
  have cA : Calls Tryz.prog 59 #[.pointer (some ⟨b, 0, none⟩), .string ⟨#[60, 33]⟩] W14 _ := curNo_any b l a ea 0 sBang W14 b1 C14.out ha' hl
  have CA := Lib.hid cA
  clear cA
  go_wp2_with fail
  refine CA.out.mono ?_
  rintro e W15 ⟨rfl, hcu, hup⟩
  have S15 := Lib.hid (S14.out.upd hup hbg)
  have C15 := Lib.hid hcu
  clear hup hcu CA S14 C14
  clear b1
  cases b1 : hasAt l a sEnd
  case true =>
    have hr := HR.out
    rw [b1, if_pos rfl] at hr
    have HR := Lib.hid hr
    clear hr
    have cA : Calls Tryz.prog 59 #[.pointer (some ⟨b, 0, none⟩), .string ⟨#[60, 47]⟩] W15 _ := curYes_any b l a ea 0 sEnd W15 b1 C15.out ha' hl
    have CA := Lib.hid cA
    clear cA
    go_wp2_with fail
    refine CA.out.mono ?_
    rintro e W2 ⟨rfl, hcu, hup⟩
    have S2 := Lib.hid (S15.out.upd hup hbg)
    have C2 := Lib.hid hcu
    clear hup hcu CA S15 C15
    have hle : a + 2 ≤ l.length := by
      have := hasAt_le b1
      simp [sEnd] at this; omega
    have hr := HR.out
    clear HR b1
    unfold endAt at hr
    have x1 := S2.out.t1
    have xf := S2.out.tag.free 1
    have S3 := Lib.hid (S2.out.kind_ hg0 2)
    have C3 := Lib.hid (C2.out.other (i := 1) (show b ≠ r + 1 by omega) (.int .i64 2))
    have hN := fun W (s : ReS w0 b (r + 1) 2 [] none [] 0 false [] a W) (hc : Cur W b l ((a + 2 : Nat) : Int) ea 0) => tagNamed_any w0 m (r + 1) b l (a + 2) a ea 2 [] none 0 0 false [] W HS.out hg0 s.up s.tag hc hle hl
    have hkl := nameLen_le (l.drop (a + 2))
    rw [List.length_drop] at hkl
    obtain ⟨K, hK⟩ : ∃ K, nameLen (l.drop (a + 2)) = K := ⟨_, rfl⟩
    rw [hK] at hN hkl hr
    obtain ⟨T, hTT⟩ : ∃ T, (l.drop (a + 2)).take K = T := ⟨_, rfl⟩
    rw [hTT] at hN hr
    have HN := Lib.hid hN
    clear hN hK hTT
    go_wp2_with fail
    refine (HN.out _ S3.out C3.out).mono ?_
    intro e W4 hres
    unfold NamedRes at hres
    by_cases hk0 : K = 0
    · rw [if_pos hk0] at hr hres
      have HRE : Hid (R = .error (missing l a (a + 2))) := hr.symm
      obtain ⟨rfl, hcu, ⟨nm, htag⟩, hup⟩ := hres
      have S5 : Hid (ReS w0 b (r + 1) 2 nm none [] 0 false [] a W4) := ⟨hup, htag, AttRow.nil _ _⟩
      have C5 := Lib.hid hcu
      clear hcu htag hup hk0 HN
      have hra := S5.out.tag.range
      have hrs := S5.out.res HRES.out hb
      have HRS := Lib.hid hrs
      go_wp2_with (first
        | (with_reducible refine gate ?_; refine wp_load_tok proTokTy rfl _ rfl (r + 1) 1 rfl _ rfl hra ?_)
        | (with_reducible refine gate ?_; refine wp_store_tokP rfl _ _ rfl r _ _ _ _ _ _ _ _ _ rfl rfl hrs rfl ?_; intro w2 hw2 hu2))
      refine bodyPost_ret (v := .agg _) (res_whole Tryz.results60 _ _ r rfl _ _ hw2 Tryz.underlying54 rfl tokSizeP) rfl ?_
      exact ConsRes.err HRE.out HRR.out C5.out (HU0.out.trans S5.out.up) hb hu2

    · rw [if_neg hk0] at hr hres
      obtain ⟨rfl, hcu, htag, hup⟩ := hres
      have S5 : Hid (ReS w0 b (r + 1) 2 T none [] 0 false [] a W4) := ⟨hup, htag, AttRow.nil _ _⟩
      have C5 := Lib.hid hcu
      have x0 := S5.out.t0
      have s1 := spEnd_ge l (a + 2 + K)
      have s2 := spEnd_le (l := l) (n := a + 2 + K) (by omega)
      have hsp := curSpaces_any b l (a + 2 + K) ea 0 W4 hcu (by omega) (by omega)
      obtain ⟨x, hx⟩ : ∃ x, spEnd l (a + 2 + K) = x := ⟨_, rfl⟩
      rw [hx] at hr s1 s2 hsp
      have HSP := Lib.hid hsp
      clear hcu htag hup hk0 HN hsp hx
      go_wp2_with fail
      refine HSP.out.mono ?_
      rintro e W6 ⟨rfl, hcu, hup⟩
      have S6 := Lib.hid (S5.out.upd hup hbg)
      have C6 := Lib.hid hcu
      clear hup hcu S5 C5 HSP x0
      have x0 := S6.out.t0
      cases b2 : hasAt l x [62]
      · rw [b2, if_neg (by decide)] at hr
        have HRE : Hid (R = .error (missing l a x)) := hr.symm
        have cB : Calls Tryz.prog 59 #[.pointer (some ⟨b, 0, none⟩), .string ⟨#[62]⟩] W6 _ := curNo_any b l x ea 0 [62] W6 b2 C6.out s2 hl
        have CB := Lib.hid cB
        clear cB b2 hr
        go_wp2_with fail
        refine CB.out.mono ?_
        rintro e W7 ⟨rfl, hcu, hup⟩
        have S7 := Lib.hid (S6.out.upd hup hbg)
        have C7 := Lib.hid hcu
        clear hup hcu S6 C6 CB x0
        go_wp2_with fail
        refine (tagExpected_any (r + 1) b l x a ea 2 T none 0 0 false [] W7 S7.out.tag (by omega) C7.out hl).mono ?_
        rintro e W8 ⟨rfl, hcu, hup⟩
        have S8 := Lib.hid (S7.out.upd hup hbg)
        have C8 := Lib.hid hcu
        clear hup hcu S7 C7
        have hra := S8.out.tag.range
        have hrs := S8.out.res HRES.out hb
        have HRS := Lib.hid hrs
        go_wp2_with (first
          | (with_reducible refine gate ?_; refine wp_load_tok proTokTy rfl _ rfl (r + 1) 1 rfl _ rfl hra ?_)
          | (with_reducible refine gate ?_; refine wp_store_tokP rfl _ _ rfl r _ _ _ _ _ _ _ _ _ rfl rfl hrs rfl ?_; intro w2 hw2 hu2))
        refine bodyPost_ret (v := .agg _) (res_whole Tryz.results60 _ _ r rfl _ _ hw2 Tryz.underlying54 rfl tokSizeP) rfl ?_
        exact ConsRes.err HRE.out HRR.out C8.out (HU0.out.trans S8.out.up) hb hu2

      · rw [b2, if_pos rfl] at hr
        have HRE := Lib.hid hr.symm
        have cB : Calls Tryz.prog 59 #[.pointer (some ⟨b, 0, none⟩), .string ⟨#[62]⟩] W6 _ := curYes_any b l x ea 0 [62] W6 b2 C6.out s2 hl
        have CB := Lib.hid cB
        clear cB b2 hr
        go_wp2_with fail
        refine CB.out.mono ?_
        rintro e W7 ⟨rfl, hcu, hup⟩
        have S7 := Lib.hid (S6.out.upd hup hbg)
        have C7 := Lib.hid hcu
        clear hup hcu S6 C6 CB x0
        have hra := S7.out.tag.range
        have hrs := S7.out.res HRES.out hb
        have HRS := Lib.hid hrs
        go_wp2_with (first
          | (with_reducible refine gate ?_; refine wp_load_tok proTokTy rfl _ rfl (r + 1) 1 rfl _ rfl hra ?_)
          | (with_reducible refine gate ?_; refine wp_store_tokP rfl _ _ rfl r _ _ _ _ _ _ _ _ _ rfl rfl hrs rfl ?_; intro w2 hw2 hu2))
        refine bodyPost_ret (v := .agg _) (res_whole Tryz.results60 _ _ r rfl _ _ hw2 Tryz.underlying54 rfl tokSizeP) rfl ?_
        exact ConsRes.fine (t' := ⟨2, T, [], false, [], a⟩) HRE.out HRR.out C7.out (HU0.out.trans S7.out.up) hb hu2 rfl rfl (S7.out.atts (by omega)) (.inl ⟨rfl, rfl, rfl⟩)

  have hr := HR.out
  rw [b1, if_neg (by decide)] at hr
  have HR := Lib.hid hr
  clear hr
  have cA : Calls Tryz.prog 59 #[.pointer (some ⟨b, 0, none⟩), .string ⟨#[60, 47]⟩] W15 _ := curNo_any b l a ea 0 sEnd W15 b1 C15.out ha' hl
  have CA := Lib.hid cA
  clear cA
  go_wp2_with fail
  refine CA.out.mono ?_
  rintro e W16 ⟨rfl, hcu, hup⟩
  have S16 := Lib.hid (S15.out.upd hup hbg)
  have C16 := Lib.hid hcu
  clear hup hcu CA S15 C15
  clear b1
  cases b1 : hasAt l a sLt
  case true =>
    have hr := HR.out
    rw [b1, if_pos rfl] at hr
    have HR := Lib.hid hr
    clear hr
    have cA : Calls Tryz.prog 59 #[.pointer (some ⟨b, 0, none⟩), .string ⟨#[60]⟩] W16 _ := curYes_any b l a ea 0 sLt W16 b1 C16.out ha' hl
    have CA := Lib.hid cA
    clear cA
    go_wp2_with fail
    refine CA.out.mono ?_
    rintro e W2 ⟨rfl, hcu, hup⟩
    have S2 := Lib.hid (S16.out.upd hup hbg)
    have C2 := Lib.hid hcu
    clear hup hcu CA S16 C16
    have hle : a + 1 ≤ l.length := by omega
    have hr := HR.out
    clear HR b1
    rw [startAt_eq] at hr
    have x1 := S2.out.t1
    have xf := S2.out.tag.free 1
    have S3 := Lib.hid (S2.out.kind_ hg0 1)
    have C3 := Lib.hid (C2.out.other (i := 1) (show b ≠ r + 1 by omega) (.int .i64 1))
    have hN := fun W (s : ReS w0 b (r + 1) 1 [] none [] 0 false [] a W) (hc : Cur W b l ((a + 1 : Nat) : Int) ea 0) => tagNamed_any w0 m (r + 1) b l (a + 1) a ea 1 [] none 0 0 false [] W HS.out hg0 s.up s.tag hc hle hl
    have hkl := nameLen_le (l.drop (a + 1))
    rw [List.length_drop] at hkl
    obtain ⟨K, hK⟩ : ∃ K, nameLen (l.drop (a + 1)) = K := ⟨_, rfl⟩
    rw [hK] at hN hkl hr
    obtain ⟨T, hTT⟩ : ∃ T, (l.drop (a + 1)).take K = T := ⟨_, rfl⟩
    rw [hTT] at hN hr
    have HN := Lib.hid hN
    clear hN hK hTT
    go_wp2_with fail
    refine (HN.out _ S3.out C3.out).mono ?_
    intro e W4 hres
    unfold NamedRes at hres
    by_cases hk0 : K = 0
    · rw [if_pos hk0] at hr hres
      have HRE : Hid (R = .error (missing l a (a + 1))) := hr.symm
      obtain ⟨rfl, hcu, ⟨nm, htag⟩, hup⟩ := hres
      have S5 : Hid (ReS w0 b (r + 1) 1 nm none [] 0 false [] a W4) := ⟨hup, htag, AttRow.nil _ _⟩
      have C5 := Lib.hid hcu
      clear hcu htag hup hk0 HN
      have hra := S5.out.tag.range
      have hrs := S5.out.res HRES.out hb
      have HRS := Lib.hid hrs
      go_wp2_with (first
        | (with_reducible refine gate ?_; refine wp_load_tok proTokTy rfl _ rfl (r + 1) 1 rfl _ rfl hra ?_)
        | (with_reducible refine gate ?_; refine wp_store_tokP rfl _ _ rfl r _ _ _ _ _ _ _ _ _ rfl rfl hrs rfl ?_; intro w2 hw2 hu2))
      refine bodyPost_ret (v := .agg _) (res_whole Tryz.results60 _ _ r rfl _ _ hw2 Tryz.underlying54 rfl tokSizeP) rfl ?_
      exact ConsRes.err HRE.out HRR.out C5.out (HU0.out.trans S5.out.up) hb hu2

    · rw [if_neg hk0] at hr hres
      obtain ⟨rfl, hcu, htag, hup⟩ := hres
      have hs5 : ReS w0 b (r + 1) 1 T none [] 0 false [] a W4 := ⟨hup, htag, AttRow.nil _ _⟩
      have hrest := tagRest_any w0 m (r + 1) b l (a + 1 + K) a ea 1 T none [] 0 [] (l.length + 1) W4 HS.out hg0 hs5 hcu (by omega) (by simp) (by omega) hl
      obtain ⟨Z, hZ⟩ : ∃ Z, tagF l a (l.length + 1) (a + 1 + K) [] = Z := ⟨_, rfl⟩
      rw [hZ] at hrest hr
      have HRS2 := Lib.hid hrest
      clear hcu htag hup hk0 HN hs5 hrest hZ
      go_wp2_with fail
      refine HRS2.out.mono ?_
      intro e W5 hres
      unfold RestRes at hres
      cases Z with
      | error q =>
        obtain ⟨rfl, ⟨n, hcu⟩, ⟨k', nm', A', n', c', em', tx', p', htag⟩, hup⟩ := hres
        have HRE : Hid (R = .error q) := hr.symm
        have HTA := Lib.hid htag
        have HC8 := Lib.hid hcu
        have HU8 := Lib.hid hup
        have hra := htag.range
        have hrs : Res0 W5 r := (hup.block r (heap_lt HRES.out) (by omega)).trans HRES.out
        clear htag hcu hup HRS2 hr
        go_wp2_with (first
          | (with_reducible refine gate ?_; refine wp_load_tok proTokTy rfl _ rfl (r + 1) 1 rfl _ rfl hra ?_)
          | (with_reducible refine gate ?_; refine wp_store_tokP rfl _ _ rfl r _ _ _ _ _ _ _ _ _ rfl rfl hrs rfl ?_; intro w2 hw2 hu2))
        refine bodyPost_ret (v := .agg _) (res_whole Tryz.results60 _ _ r rfl _ _ hw2 Tryz.underlying54 rfl tokSizeP) rfl ?_
        exact ConsRes.err HRE.out HRR.out HC8.out (HU0.out.trans HU8.out) hb hu2
      | ok z =>
        obtain ⟨cs, em, x⟩ := z
        obtain ⟨rfl, hcu, hup, A', c', htag, hrow⟩ := hres
        have HRE : Hid (R = .ok (⟨1, T, cs, em, [], a⟩, x)) := hr.symm
        have S7 : Hid (ReS w0 b (r + 1) 1 T A' cs c' em [] a W5) := ⟨hup, htag, hrow⟩
        have C7 := Lib.hid hcu
        clear htag hcu hup hrow HRS2 hr
        have hra := S7.out.tag.range
        have hrs := S7.out.res HRES.out hb
        have HRS := Lib.hid hrs
        go_wp2_with (first
          | (with_reducible refine gate ?_; refine wp_load_tok proTokTy rfl _ rfl (r + 1) 1 rfl _ rfl hra ?_)
          | (with_reducible refine gate ?_; refine wp_store_tokP rfl _ _ rfl r _ _ _ _ _ _ _ _ _ rfl rfl hrs rfl ?_; intro w2 hw2 hu2))
        refine bodyPost_ret (v := .agg _) (res_whole Tryz.results60 _ _ r rfl _ _ hw2 Tryz.underlying54 rfl tokSizeP) rfl ?_
        exact ConsRes.fine (t' := ⟨1, T, cs, em, [], a⟩) HRE.out HRR.out C7.out (HU0.out.trans S7.out.up) hb hu2 rfl rfl (S7.out.atts (by omega)) (.inl ⟨rfl, rfl, rfl⟩)

  have hr := HR.out
  rw [b1, if_neg (by decide)] at hr
  have HR := Lib.hid hr
  clear hr
  have cA : Calls Tryz.prog 59 #[.pointer (some ⟨b, 0, none⟩), .string ⟨#[60]⟩] W16 _ := curNo_any b l a ea 0 sLt W16 b1 C16.out ha' hl
  have CA := Lib.hid cA
  clear cA
  go_wp2_with fail
  refine CA.out.mono ?_
  rintro e W17 ⟨rfl, hcu, hup⟩
  have S17 := Lib.hid (S16.out.upd hup hbg)
  have C17 := Lib.hid hcu
  clear hup hcu CA S16 C16
  clear b1
  have hr := HR.out
  clear HR
  have h1 := textEnd_ge l a (by omega)
  have hix := fun W => Tryz.strings_IndexByte (S (l.drop a)) 60 W
  rw [S_data, show ((60 : Int).toNat.toUInt8) = (60 : UInt8) from rfl, index_lt] at hix
  have hcon := fun W (s : ReS w0 b (r + 1) 3 [] none [] 0 false [] a W) (hc : Cur W b l a ea 0) => curContent_any false b l a (textEnd l a) ea m W (HS.out.max_ s.up) hc h1.1 h1.2 hl
  have x1 := S17.out.t1
  have xf := S17.out.tag.free 1
  have k0 := C17.out.c0
  have S3 := Lib.hid (S17.out.kind_ hg0 3)
  have C3 := Lib.hid (C17.out.other (i := 1) (show b ≠ r + 1 by omega) (.int .i64 3))
  obtain ⟨E, hE⟩ : ∃ E, textEnd l a = E := ⟨_, rfl⟩
  have hE2 : (∃ j : Nat, findS sLt (l.drop a) = some j ∧ E = a + j) ∨ (findS sLt (l.drop a) = none ∧ E = l.length) := by
    rw [← hE]
    unfold textEnd
    cases findS sLt (l.drop a) with
    | none => exact .inr ⟨rfl, rfl⟩
    | some j => exact .inl ⟨j, rfl, rfl⟩
  rw [hE] at hr hcon h1
  obtain ⟨h1, h2⟩ := h1
  obtain ⟨Z, hZ⟩ : ∃ Z, cont false l a E = Z := ⟨_, rfl⟩
  rw [hZ] at hr hcon
  have hcon2 : ∀ x : Int, x = E → ∀ W, ReS w0 b (r + 1) 3 [] none [] 0 false [] a W → Cur W b l a ea 0 → Calls Tryz.prog 89 #[.pointer (some ⟨b, 0, none⟩), .int .i64 x, .bool false] W fun e w' => ConRes b l E ea Z e w' ∧ Upd b W w' := fun x hx W h1 h2 => by subst hx; exact hcon W h1 h2
  have HCON := Lib.hid hcon2
  have HR2 := Lib.hid hr
  clear hcon hcon2 hE hZ hr
  rcases hE2 with ⟨j, hj1, hj2⟩ | ⟨hj1, hj2⟩
  · rw [hj1] at hix
    have HIX : Hid (∀ W, Calls Tryz.prog 88 #[.string (S (l.drop a)), .int .u8 60] W fun e w' => e = .returned (.int .i64 (j : Int)) ∧ W = w') := fun W => (hix W).mono fun _ _ h => ⟨h.1, h.2.symm⟩
    have hjj : (a : Int) + j ≤ l.length := by omega
    have HX : Hid ((a : Int) + j = E) := show (a : Int) + j = E by omega
    clear hix hj1 hj2
    go_wp2_with (go_at_call 88; refine (HIX.out _).mono ?_; rintro e wq ⟨rfl, rfl⟩)
    refine (HCON.out _ HX.out _ S3.out C3.out).mono ?_
    rintro e W4 ⟨hcr, hup⟩
    unfold ConRes at hcr
    cases Z with
    | error x =>
      obtain ⟨rfl, hcu⟩ := hcr
      have HRE : Hid (R = .error (x, 12)) := HR2.out.symm
      have hs4 := S3.out.upd hup hbg
      have x5 := hs4.t5
      have xf5 := hs4.tag.free 5
      have S5 := Lib.hid (hs4.text_ hg0 [])
      have C5 := Lib.hid (hcu.other (i := 5) (show b ≠ r + 1 by omega) (.string (S [])))
      clear hup hcu hs4 HR2
      have hra := S5.out.tag.range
      have hrs := S5.out.res HRES.out hb
      have HRS := Lib.hid hrs
      go_wp2_with (first
        | (with_reducible refine gate ?_; refine wp_load_tok proTokTy rfl _ rfl (r + 1) 1 rfl _ rfl hra ?_)
        | (with_reducible refine gate ?_; refine wp_store_tokP rfl _ _ rfl r _ _ _ _ _ _ _ _ _ rfl rfl hrs rfl ?_; intro w2 hw2 hu2))
      refine bodyPost_ret (v := .agg _) (res_whole Tryz.results60 _ _ r rfl _ _ hw2 Tryz.underlying54 rfl tokSizeP) rfl ?_
      exact ConsRes.err HRE.out HRR.out C5.out (HU0.out.trans S5.out.up) hb hu2

    | ok v =>
      obtain ⟨rfl, hcu⟩ := hcr
      have HRE : Hid (R = .ok (⟨3, [], [], false, v, a⟩, E)) := HR2.out.symm
      have hs4 := S3.out.upd hup hbg
      have x5 := hs4.t5
      have xf5 := hs4.tag.free 5
      have S5 := Lib.hid (hs4.text_ hg0 v)
      have C5 := Lib.hid (hcu.other (i := 5) (show b ≠ r + 1 by omega) (.string (S v)))
      clear hup hcu hs4 HR2
      have hra := S5.out.tag.range
      have hrs := S5.out.res HRES.out hb
      have HRS := Lib.hid hrs
      go_wp2_with (first
        | (with_reducible refine gate ?_; refine wp_load_tok proTokTy rfl _ rfl (r + 1) 1 rfl _ rfl hra ?_)
        | (with_reducible refine gate ?_; refine wp_store_tokP rfl _ _ rfl r _ _ _ _ _ _ _ _ _ rfl rfl hrs rfl ?_; intro w2 hw2 hu2))
      refine bodyPost_ret (v := .agg _) (res_whole Tryz.results60 _ _ r rfl _ _ hw2 Tryz.underlying54 rfl tokSizeP) rfl ?_
      exact ConsRes.fine (t' := ⟨3, [], [], false, v, a⟩) HRE.out HRR.out C5.out (HU0.out.trans S5.out.up) hb hu2 rfl rfl (S5.out.atts (by omega)) keepText

  · rw [hj1] at hix
    have HIX : Hid (∀ W, Calls Tryz.prog 88 #[.string (S (l.drop a)), .int .u8 60] W fun e w' => e = .returned (.int .i64 (-1 : Int)) ∧ W = w') := fun W => (hix W).mono fun _ _ h => ⟨h.1, h.2.symm⟩
    have HX : Hid (∀ x : Int, x = (l.length : Int) → x = E) := fun x hx => by rw [hx, hj2]
    clear hix hj1 hj2
    go_wp2_with (go_at_call 88; refine (HIX.out _).mono ?_; rintro e wq ⟨rfl, rfl⟩)
    refine (HCON.out _ (HX.out _ (by omega)) _ S3.out C3.out).mono ?_
    rintro e W4 ⟨hcr, hup⟩
    unfold ConRes at hcr
    cases Z with
    | error x =>
      obtain ⟨rfl, hcu⟩ := hcr
      have HRE : Hid (R = .error (x, 12)) := HR2.out.symm
      have hs4 := S3.out.upd hup hbg
      have x5 := hs4.t5
      have xf5 := hs4.tag.free 5
      have S5 := Lib.hid (hs4.text_ hg0 [])
      have C5 := Lib.hid (hcu.other (i := 5) (show b ≠ r + 1 by omega) (.string (S [])))
      clear hup hcu hs4 HR2
      have hra := S5.out.tag.range
      have hrs := S5.out.res HRES.out hb
      have HRS := Lib.hid hrs
      go_wp2_with (first
        | (with_reducible refine gate ?_; refine wp_load_tok proTokTy rfl _ rfl (r + 1) 1 rfl _ rfl hra ?_)
        | (with_reducible refine gate ?_; refine wp_store_tokP rfl _ _ rfl r _ _ _ _ _ _ _ _ _ rfl rfl hrs rfl ?_; intro w2 hw2 hu2))
      refine bodyPost_ret (v := .agg _) (res_whole Tryz.results60 _ _ r rfl _ _ hw2 Tryz.underlying54 rfl tokSizeP) rfl ?_
      exact ConsRes.err HRE.out HRR.out C5.out (HU0.out.trans S5.out.up) hb hu2

    | ok v =>
      obtain ⟨rfl, hcu⟩ := hcr
      have HRE : Hid (R = .ok (⟨3, [], [], false, v, a⟩, E)) := HR2.out.symm
      have hs4 := S3.out.upd hup hbg
      have x5 := hs4.t5
      have xf5 := hs4.tag.free 5
      have S5 := Lib.hid (hs4.text_ hg0 v)
      have C5 := Lib.hid (hcu.other (i := 5) (show b ≠ r + 1 by omega) (.string (S v)))
      clear hup hcu hs4 HR2
      have hra := S5.out.tag.range
      have hrs := S5.out.res HRES.out hb
      have HRS := Lib.hid hrs
      go_wp2_with (first
        | (with_reducible refine gate ?_; refine wp_load_tok proTokTy rfl _ rfl (r + 1) 1 rfl _ rfl hra ?_)
        | (with_reducible refine gate ?_; refine wp_store_tokP rfl _ _ rfl r _ _ _ _ _ _ _ _ _ rfl rfl hrs rfl ?_; intro w2 hw2 hu2))
      refine bodyPost_ret (v := .agg _) (res_whole Tryz.results60 _ _ r rfl _ _ hw2 Tryz.underlying54 rfl tokSizeP) rfl ?_
      exact ConsRes.fine (t' := ⟨3, [], [], false, v, a⟩) HRE.out HRR.out C5.out (HU0.out.trans S5.out.up) hb hu2 rfl rfl (S5.out.atts (by omega)) keepText

end Go.Proofs.YtclhdppppgjgfaaGreatDoor
