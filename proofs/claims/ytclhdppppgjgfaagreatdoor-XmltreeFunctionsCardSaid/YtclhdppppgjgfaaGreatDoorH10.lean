/-
  Several texts in one file, in build order:
  - Walk of chapter 6: the program's tag: attribute.
-/
import Derived.Test.YtclhdppppgjgfaaGreatDoorH9
set_option linter.unusedVariables false
namespace Go.Proofs.YtclhdppppgjgfaaGreatDoor
open Go.RowKit

/-- An attribute, unless its name has occurred. -/
def attDup (bs : List Att) (n : Nat) : Except (Nat × Nat) (Att × Nat) → Except (Nat × Nat) (Att × Nat)
  | .error q => .error q
  | .ok (at_, e) => if bs.any (fun c => c.name == at_.name) = true then .error (n, 10) else .ok (at_, e)
/-- What a tag looks like behind an error. -/
def TagFail (w0 : World) (g b : Nat) (l : Bytes) (q : Nat × Nat) (w' : World) : Prop :=
  (∃ n : Int, Cur w' b l n q.1 q.2) ∧ (∃ k nm A n c em tx p, TagB w' g b k nm A n c em tx p) ∧ Upd b w0 w'
def AttrRes (w0 : World) (g b : Nat) (l : Bytes) (a : Nat) (ea : Int) (k : Int) (nm : Bytes) (bs : List Att) (em : Bool) (tx : Bytes) (R : Except (Nat × Nat) (Att × Nat)) (e : Ending) (w' : World) : Prop :=
  match R with
  | .error q => e = .returned (.bool false) ∧ TagFail w0 g b l q w'
  | .ok (t, x) => e = .returned (.bool true) ∧ Cur w' b l x ea 0 ∧ Upd b w0 w' ∧ ∃ A c, TagB w' g b k nm A (bs.length + 1) c em tx a ∧ AttRow w' (g + 1) (.slice A (bs.length + 1) c) (bs ++ [t])

/-- A tag whose attribute is being read: the attribute's variable lies in block h. -/
structure AtS (w0 : World) (b g h : Nat) (k : Int) (nm : Bytes) (A : Option Addr) (bs : List Att) (c : Nat) (em : Bool) (tx : Bytes) (a : Nat) (an av : Bytes) (p : Int) (W : World) : Prop where
  up : Upd b w0 W
  tag : TagB W g b k nm A bs.length c em tx a
  row : AttRow W (g + 1) (.slice A bs.length c) bs
  own : ∀ j, (Value.slice A bs.length c).ownBlock = some j → j < h
  att : W.heap[h]? = some (.cells #[.string (S []), .string (S an), .string (S av), .int .i64 p] 39 (0, 0))
section
variable {w0 W W' : World} {b g h : Nat} {k : Int} {nm : Bytes} {A : Option Addr} {bs : List Att} {c : Nat} {em : Bool} {tx : Bytes} {a : Nat} {an av : Bytes} {p : Int}
theorem AtS.upd (s : AtS w0 b g h k nm A bs c em tx a an av p W) (hu : Upd b W W') (hb : b < g) (hg : g < h) : AtS w0 b g h k nm A bs c em tx a an av p W' :=
  ⟨s.up.trans hu, s.tag.upd hu (by omega), s.row.upd (by omega) hu, s.own, (hu.block _ (heap_lt s.att) (by omega)).trans s.att⟩
theorem AtS.drew (s : AtS w0 b g h k nm A bs c em tx a an av p W) : AtS w0 b g h k nm A bs c em tx a an av p W.drew := ⟨s.up.drew, s.tag, s.row, s.own, s.att⟩
theorem AtS.name_ (s : AtS w0 b g h k nm A bs c em tx a an av p W) (hb : b < g) (hg : g < h) (h0 : w0.heap.size ≤ g) (x : Bytes) : AtS w0 b g h k nm A bs c em tx a x av p (W.setCell ⟨h, 1, none⟩ (.string (S x))) := by
  have hu : Upd h W (W.setCell ⟨h, 1, none⟩ (.string (S x))) := Upd.set_ _ _ _ _
  refine ⟨s.up.more ((Below.refl _ _).setCell (p := ⟨h, 1, none⟩) (by simp; omega) _), s.tag.keep (hu.block _ s.tag.lt (by omega)), s.row.heap (fun j hj => hu.block j (s.row.lt j hj).2 (by have := s.own j hj; omega)), s.own, ?_⟩
  have := heap_set (i := 1) s.att (.string (S x))
  simpa using this
theorem AtS.value_ (s : AtS w0 b g h k nm A bs c em tx a an av p W) (hb : b < g) (hg : g < h) (h0 : w0.heap.size ≤ g) (x : Bytes) : AtS w0 b g h k nm A bs c em tx a an x p (W.setCell ⟨h, 2, none⟩ (.string (S x))) := by
  have hu : Upd h W (W.setCell ⟨h, 2, none⟩ (.string (S x))) := Upd.set_ _ _ _ _
  refine ⟨s.up.more ((Below.refl _ _).setCell (p := ⟨h, 2, none⟩) (by simp; omega) _), s.tag.keep (hu.block _ s.tag.lt (by omega)), s.row.heap (fun j hj => hu.block j (s.row.lt j hj).2 (by have := s.own j hj; omega)), s.own, ?_⟩
  have := heap_set (i := 2) s.att (.string (S x))
  simpa using this
theorem AtS.t0 (s : AtS w0 b g h k nm A bs c em tx a an av p W) : W.cell? ⟨g, 0, none⟩ = some (.pointer (some ⟨b, 0, none⟩)) := s.tag.cells.1
theorem AtS.n1 (s : AtS w0 b g h k nm A bs c em tx a an av p W) : W.cell? ⟨h, 1, none⟩ = some (.string (S an)) := (cells4 s.att).2.1
theorem AtS.n2 (s : AtS w0 b g h k nm A bs c em tx a an av p W) : W.cell? ⟨h, 2, none⟩ = some (.string (S av)) := (cells4 s.att).2.2.1
theorem AtS.n3 (s : AtS w0 b g h k nm A bs c em tx a an av p W) : W.cell? ⟨h, 3, none⟩ = some (.int .i64 p) := (cells4 s.att).2.2.2
theorem AtS.free (s : AtS w0 b g h k nm A bs c em tx a an av p W) (i : Nat) : W.frozen? ⟨h, i, none⟩ = false := Lib.frozen_of_heap s.att i
theorem AtS.fail {l : Bytes} {q : Nat × Nat} {n : Int} (s : AtS w0 b g h k nm A bs c em tx a an av p W) (hc : Cur W b l n q.1 q.2) : TagFail w0 g b l q W := ⟨⟨n, hc⟩, ⟨_, _, _, _, _, _, _, _, s.tag⟩, s.up⟩
end
/-- expected, where an attribute is read. -/
theorem atExpected {w0 W : World} {b g h : Nat} {k : Int} {nm : Bytes} {A : Option Addr} {bs : List Att} {c : Nat} {em : Bool} {tx : Bytes} {a : Nat} {an av : Bytes} {p : Int} {l : Bytes} {n : Nat} {ea : Int}
    (s : AtS w0 b g h k nm A bs c em tx a an av p W) (hC : Cur W b l n ea 0) (hb : b < g) (hg : g < h) (hl : l.length ≤ 1000000000) :
    Calls Tryz.prog 86 #[.pointer (some ⟨g, 0, none⟩)] W fun e w' => e = .returned (.bool false) ∧ TagFail w0 g b l (missing l a n) w' := by
  refine (tagExpected_any g b l n a ea k nm A bs.length c em tx W s.tag (by omega) hC hl).mono ?_
  rintro e w' ⟨rfl, h1, h2⟩
  exact ⟨rfl, (s.upd h2 hb hg).fail h1⟩
theorem AttrRes.err {w0 w' : World} {g b a : Nat} {l : Bytes} {ea k : Int} {nm : Bytes} {bs : List Att} {em : Bool} {tx : Bytes} {R : Except (Nat × Nat) (Att × Nat)} {q : Nat × Nat} (hR : R = .error q) (h : TagFail w0 g b l q w') : AttrRes w0 g b l a ea k nm bs em tx R (.returned (.bool false)) w' := by
  subst hR; exact ⟨rfl, h⟩
theorem curYes_any (b : Nat) (l : Bytes) (n : Nat) (ea er : Int) (t : Bytes) (w : World) (h : hasAt l n t = true) (hC : Cur w b l n ea er) (hn : n ≤ l.length) (hl : l.length ≤ 1000000000) :
    Calls Tryz.prog 59 #[.pointer (some ⟨b, 0, none⟩), .string (S t)] w fun e w' => e = .returned (.bool true) ∧ Cur w' b l (n + t.length : Nat) ea er ∧ Upd b w w' := by
  have := curAccept_any b l n ea er t w hC hn (by omega)
  rw [show Lib.hasPrefix (l.drop n) t = true from h] at this
  simpa using this
theorem curNo_any (b : Nat) (l : Bytes) (n : Nat) (ea er : Int) (t : Bytes) (w : World) (h : hasAt l n t = false) (hC : Cur w b l n ea er) (hn : n ≤ l.length) (hl : l.length ≤ 1000000000) :
    Calls Tryz.prog 59 #[.pointer (some ⟨b, 0, none⟩), .string (S t)] w fun e w' => e = .returned (.bool false) ∧ Cur w' b l n ea er ∧ Upd b w w' := by
  have := curAccept_any b l n ea er t w hC hn (by omega)
  rw [show Lib.hasPrefix (l.drop n) t = false from h] at this
  simpa using this
theorem attDup_err {bs : List Att} {n : Nat} {q : Nat × Nat} : attDup bs n (.error q) = .error q := rfl

set_option maxHeartbeats 4000000 in
set_option maxRecDepth 100000 in
theorem tagAttribute_any (w0 : World) (m : Int) (g b : Nat) (l : Bytes) (n a : Nat) (ea : Int) (k : Int) (nm : Bytes) (A : Option Addr) (bs : List Att) (c : Nat) (em : Bool) (tx : Bytes) (w : World)
    (hS : TS w0 b m) (hg : w0.heap.size ≤ g) (hU : Upd b w0 w) (hG : TagB w g b k nm A bs.length c em tx a) (hrow : AttRow w (g + 1) (.slice A bs.length c) bs) (hC : Cur w b l n ea 0) (hn : n ≤ l.length) (hbl : bs.length ≤ l.length) (hl : l.length ≤ 1000000000) :
    Calls Tryz.prog 111 #[.pointer (some ⟨g, 0, none⟩)] w (AttrRes w0 g b l a ea k nm bs em tx (attDup bs n (attAt l a n))) := by
  obtain ⟨R, hR⟩ : ∃ R, attDup bs n (attAt l a n) = R := ⟨_, rfl⟩
  rw [hR]
  unfold attAt at hR
  have hb := hS.lt
  have hbg : b < g := by omega
  have hgh := hG.lt
  obtain ⟨h, hh⟩ : ∃ h, w.heap.size = h := ⟨_, rfl⟩
  rw [hh] at hgh
  have hs0 : AtS w0 b g h k nm A bs c em tx a [] [] n (w.alloc (.cells #[.string ⟨#[]⟩, .string ⟨#[]⟩, .string ⟨#[]⟩, .int .i64 n] 39)) := by
    have hB : Below w.heap.size w (w.alloc (.cells #[.string ⟨#[]⟩, .string ⟨#[]⟩, .string ⟨#[]⟩, .int .i64 n] 39)) := (Below.refl _ _).alloc (Nat.le_refl _) _
    exact ⟨hU.next hB, hG.keep (hB.block _ hG.lt), hrow.heap (fun j hj => hB.block j (hrow.lt j hj).2), fun j hj => by have := (hrow.lt j hj).2; omega, alloc_at hh⟩
  have hC0 := hC.alloc (.cells #[.string ⟨#[]⟩, .string ⟨#[]⟩, .string ⟨#[]⟩, .int .i64 n] 39)
  have hN := curName_any b l n ea 0 _ (hS.tabs_ hs0.up) hC0 hn (by omega)
  have hkl := nameLen_le (l.drop n)
  rw [List.length_drop] at hkl
  obtain ⟨K, hK⟩ : ∃ K, nameLen (l.drop n) = K := ⟨_, rfl⟩
  rw [hK] at hN hkl hR
  have hTl : ((l.drop n).take K).length = K := by rw [List.length_take, List.length_drop]; omega
  obtain ⟨T, hT⟩ : ∃ T, (l.drop n).take K = T := ⟨_, rfl⟩
  rw [hT] at hN hTl hR
  obtain ⟨g0, _⟩ := hG.cells
  have c1 := hC.c1
  have q0 := hs0.t0
  have HR := Lib.hid hR
  have HS := Lib.hid hS
  have HS0 := Lib.hid hs0
  have HN := Lib.hid hN
  clear hR hS hs0 hN hK hT hU hG hrow hC hC0
  go_enter Tryz.func111, Tryz.ntmps111
  go_wp2_with fail
  clear hh
  refine HN.out.mono ?_
  rintro e w1 ⟨rfl, hcu, hup⟩
  have s1 := HS0.out.upd hup hbg hgh
  have n1 := s1.n1
  have f1 := s1.free 1
  have x0 := s1.t0
  have S2 := Lib.hid (s1.name_ hbg hgh hg T)
  have C2 := Lib.hid (hcu.other (i := 1) (show b ≠ h by omega) (.string (S T)))
  clear HS0 HN hup hcu s1 g0 c1 q0
  by_cases hk0 : K = 0
  · have hT0 : T = [] := List.eq_nil_of_length_eq_zero (by omega)
    subst hT0
    subst hk0
    have hr := HR.out
    rw [if_pos rfl, attDup_err] at hr
    have HRE := Lib.hid hr.symm
    clear hr HR
    go_wp2_with fail
    refine (atExpected S2.out C2.out hbg hgh hl).mono ?_
    rintro e w2 ⟨rfl, hf⟩
    have HF := Lib.hid hf
    clear hf
    go_wp2_with fail
    go_ret
    exact AttrRes.err HRE.out HF.out
  have hr := HR.out
  rw [if_neg hk0] at hr
  have hT0 : T.isEmpty = false := by cases T with | nil => simp at hTl; omega | cons => rfl
  have s1 := spEnd_ge l (n + K)
  have s2 := spEnd_le (l := l) (n := n + K) (by omega)
  have hsp := fun W hW => curSpaces_any b l (n + K) ea 0 W hW (by omega) (by omega)
  obtain ⟨x, hx⟩ : ∃ x, spEnd l (n + K) = x := ⟨_, rfl⟩
  rw [hx] at hr s1 s2 hsp
  have HR := Lib.hid hr
  have HSP := Lib.hid hsp
  have HK0 := Lib.hid hk0
  clear hr hsp hx hk0 hTl hkl
  have n2 := S2.out.n1
  have x2 := S2.out.t0
  go_wp2_with fail
  clear n1 f1 x0 n2 x2
  generalize w1.setCell ⟨h, 1, none⟩ (.string (S T)) = W2 at *
  refine (HSP.out W2 C2.out).mono ?_
  rintro e W3 ⟨rfl, hcu, hup⟩
  have S3 := Lib.hid (S2.out.upd hup hbg hgh)
  have C3 := Lib.hid hcu
  clear hup hcu S2 C2 HSP
  have x0 := S3.out.t0
  cases hb1 : hasAt l x [61]
  · have cA : Calls Tryz.prog 59 #[.pointer (some ⟨b, 0, none⟩), .string ⟨#[61]⟩] W3 _ := curNo_any b l x ea 0 [61] W3 hb1 C3.out s2 hl
    have hr := HR.out
    rw [hb1, if_pos rfl, attDup_err] at hr
    have HRE := Lib.hid hr.symm
    have CA := Lib.hid cA
    clear hr HR cA hb1
    go_wp2_with fail
    refine CA.out.mono ?_
    rintro e W4 ⟨rfl, hcu, hup⟩
    have S4 := Lib.hid (S3.out.upd hup hbg hgh)
    have C4 := Lib.hid hcu
    clear hup hcu S3 C3 x0
    go_wp2_with fail
    refine (atExpected S4.out C4.out hbg hgh hl).mono ?_
    rintro e w2 ⟨rfl, hf⟩
    have HF := Lib.hid hf
    clear hf
    go_wp2_with fail
    go_ret
    exact AttrRes.err HRE.out HF.out
  have cA : Calls Tryz.prog 59 #[.pointer (some ⟨b, 0, none⟩), .string ⟨#[61]⟩] W3 _ := curYes_any b l x ea 0 [61] W3 hb1 C3.out s2 hl
  have hx1 : x + 1 ≤ l.length := by
    have := hasAt_le hb1
    simp at this; omega
  have hr := HR.out
  rw [hb1, if_neg (by decide)] at hr
  have s3 := spEnd_ge l (x + 1)
  have s4 := spEnd_le (l := l) hx1
  have hsp := fun W hW => curSpaces_any b l (x + 1) ea 0 W hW hx1 (by omega)
  obtain ⟨y, hy⟩ : ∃ y, spEnd l (x + 1) = y := ⟨_, rfl⟩
  rw [hy] at hr s3 s4 hsp
  have HR := Lib.hid hr
  have HSP := Lib.hid hsp
  have CA := Lib.hid cA
  clear hr hsp hy hb1 cA
  go_wp2_with fail
  refine CA.out.mono ?_
  rintro e W4 ⟨rfl, hcu, hup⟩
  have S4 := Lib.hid (S3.out.upd hup hbg hgh)
  have C4 := Lib.hid hcu
  clear hup hcu S3 C3 x0 CA
  have x0 := S4.out.t0
  go_wp2_with fail
  refine (HSP.out W4 C4.out).mono ?_
  rintro e W5 ⟨rfl, hcu, hup⟩
  have S5 := Lib.hid (S4.out.upd hup hbg hgh)
  have C5 := Lib.hid hcu
  clear hup hcu S4 C4 HSP x0
  have x0 := S5.out.t0
  go_wp2_with fail
-- TAIL
  have hqc : (hasAt l y [34] = false ∧ hasAt l y [39] = false) ∨ hasAt l y [34] = true ∨ (hasAt l y [34] = false ∧ hasAt l y [39] = true) := by
    cases hasAt l y [34] <;> cases hasAt l y [39] <;> simp
  rcases hqc with ⟨hq1, hq2⟩ | hq1 | ⟨hq1, hq2⟩
  · have hr := HR.out
    rw [if_pos (by unfold isQuote; rw [hq1, hq2]; rfl), attDup_err] at hr
    have HRE := Lib.hid hr.symm
    have cA : Calls Tryz.prog 59 #[.pointer (some ⟨b, 0, none⟩), .string ⟨#[34]⟩] W5 _ := curNo_any b l y ea 0 [34] W5 hq1 C5.out s4 hl
    have cB : ∀ W, Cur W b l y ea 0 → Calls Tryz.prog 59 #[.pointer (some ⟨b, 0, none⟩), .string ⟨#[39]⟩] W _ := fun W hW => curNo_any b l y ea 0 [39] W hq2 hW s4 hl
    have CA := Lib.hid cA
    have CB := Lib.hid cB
    clear hr HR cA cB hq1 hq2
    refine CA.out.mono ?_
    rintro e W6 ⟨rfl, hcu, hup⟩
    have S6 := Lib.hid (S5.out.upd hup hbg hgh)
    have C6 := Lib.hid hcu
    clear hup hcu S5 C5 x0 CA
    have x0 := S6.out.t0
    go_wp2_with fail
    refine (CB.out W6 C6.out).mono ?_
    rintro e W7 ⟨rfl, hcu, hup⟩
    have S7 := Lib.hid (S6.out.upd hup hbg hgh)
    have C7 := Lib.hid hcu
    clear hup hcu S6 C6 x0 CB
    go_wp2_with fail
    refine (atExpected S7.out C7.out hbg hgh hl).mono ?_
    rintro e w2 ⟨rfl, hf⟩
    have HF := Lib.hid hf
    clear hf
    go_wp2_with fail
    go_ret
    exact AttrRes.err HRE.out HF.out
  · have cA : Calls Tryz.prog 59 #[.pointer (some ⟨b, 0, none⟩), .string ⟨#[34]⟩] W5 _ := curYes_any b l y ea 0 [34] W5 hq1 C5.out s4 hl
    obtain ⟨hy0, hyq⟩ := has_one.1 hq1
    have hr := HR.out
    rw [if_neg (by unfold isQuote; rw [hq1]; simp)] at hr
    have CA := Lib.hid cA
    clear cA hq1 HR
    refine CA.out.mono ?_
    rintro e W6 ⟨rfl, hcu, hup⟩
    have S6 := Lib.hid (S5.out.upd hup hbg hgh)
    have C6 := Lib.hid hcu
    clear hup hcu S5 C5 x0 CA
    have hgq : l.getD y 0 = 34 := by rw [List.getD_eq_getElem?_getD, List.getElem?_eq_getElem hy0]; exact hyq
    have hy1 : y + 1 ≤ l.length := hy0
    rw [hgq] at hr
    unfold valAt at hr
    have v1 := valEnd_ge l 34 (y + 1)
    have v2 := valEnd_le (q := 34) hy1
    obtain ⟨Z, hZ⟩ : ∃ Z, valEnd l 34 (y + 1) = Z := ⟨_, rfl⟩
    rw [hZ] at hr v1 v2
    have HR := Lib.hid hr
    have HZ := Lib.hid hZ
    clear hr hZ hgq hyq hy0
    have x0 := S6.out.t0
    have k0 := C6.out.c0
    have k1 := C6.out.c1
    go_wp2_with fail
    go_loop [5] (fun i5 => ∃ z : Nat, y + 1 ≤ z ∧ z ≤ l.length ∧ i5 = .int .i64 z ∧ valEnd l 34 z = Z) (fun i5 => l.length - (intOf i5).toNat)
    case atStart => exact ⟨y + 1, Nat.le_refl _, hy1, by go_num, HZ.out⟩
    case round =>
      obtain ⟨z, hyz, hz, rfl, hzz⟩ := hrel
      have HZZ := Lib.hid hzz
      clear hzz
      by_cases hgo : ∃ h : z < l.length, l[z] ≠ 34 ∧ l[z] ≠ 60
      · obtain ⟨hz1, hz2, hz3⟩ := hgo
        have i1 : (z : Int) < l.length := by omega
        have t1 : ((l[z].toNat : Int) == 34) = false := byte_ne (k := 34) (fun e => hz2 (UInt8.toNat_inj.1 e))
        have t1' : ((l[z].toNat : Int) != 34) = true := by rw [bne, t1]; rfl
        have t2 : ((l[z].toNat : Int) == 60) = false := byte_ne (k := 60) (fun e => hz3 (UInt8.toNat_inj.1 e))
        have t2' : ((l[z].toNat : Int) != 60) = true := by rw [bne, t2]; rfl
        have hnx := HZZ.out
        rw [valEnd_yes hz1 hz2 hz3] at hnx
        have HN := Lib.hid hnx
        clear hnx hz2 hz3
        go_wp2_with fail
        go_round
        case rel => exact ⟨z + 1, by omega, by omega, by go_num, HN.out⟩
        case measure => simp [intOf]; omega
      · have hzZ : z = Z := by
          by_cases hz1 : z < l.length
          · rw [← HZZ.out, valEnd_no hz1]
            by_cases h2 : l[z] = 34
            · exact .inl h2
            · by_cases h3 : l[z] = 60
              · exact .inr h3
              · exact absurd ⟨hz1, h2, h3⟩ hgo
          · obtain rfl : z = l.length := by omega
            have := HZZ.out
            rw [valEnd_end] at this
            exact this
        subst hzZ
        have hends : (z = l.length) ∨ (∃ h : z < l.length, l[z] = 34) ∨ (∃ h : z < l.length, l[z] = 60 ∧ l[z] ≠ 34) := by
          by_cases hz1 : z < l.length
          · by_cases h2 : l[z] = 34
            · exact .inr (.inl ⟨hz1, h2⟩)
            · by_cases h3 : l[z] = 60
              · exact .inr (.inr ⟨hz1, h3, h2⟩)
              · exact absurd ⟨hz1, h2, h3⟩ hgo
          · exact .inl (by omega)
        have hcon := fun W (hU : Upd b w0 W) (hW : Cur W b l ((y + 1 : Nat) : Int) ea 0) => curContent_any true b l (y + 1) z ea m W (HS.out.max_ hU) hW hyz hz hl
        have HCON := Lib.hid (hcon W6 S6.out.up C6.out)
        clear hcon hgo HZZ HZ
        rcases hends with hz1 | ⟨hz1, hz2⟩ | ⟨hz1, hz2, hz3⟩
        · -- the end
          have i1 : ¬ (z : Int) < l.length := by omega
          have i2 : ((z : Int) == l.length) = true := by rw [hz1]; simp
          have HZ1 := Lib.hid hz1
          clear hz1
          cases hco : cont true l (y + 1) z with
          | error q =>
            have hr := HR.out
            rw [hco] at hr
            simp only at hr
            rw [attDup_err] at hr
            have HRE := Lib.hid hr.symm
            have hcon := HCON.out
            rw [hco] at hcon
            have HCO2 := Lib.hid hcon
            clear hr HR hco hcon HCON
            try clear hz2
            try clear hz3
            go_wp2_with fail
            refine HCO2.out.mono ?_
            rintro e W7 ⟨⟨rfl, hcu⟩, hup⟩
            have hs7 := S6.out.upd hup hbg hgh
            have n2 := hs7.n2
            have f2 := hs7.free 2
            have y0 := hs7.t0
            have y3 := hcu.c3
            have S8 := Lib.hid (hs7.value_ hbg hgh hg [])
            have C8 := Lib.hid (hcu.other (i := 2) (show b ≠ h by omega) (.string (S [])))
            have z0 := S8.out.t0
            have z3 := C8.out.c3
            clear hs7 hup hcu S6 C6 x0 k0 k1 HCO2
            go_wp2_with fail
            go_ret
            exact AttrRes.err HRE.out (S8.out.fail C8.out)
          | ok v =>
            have hr := HR.out
            rw [hco] at hr
            simp only at hr
            rw [if_pos HZ1.out, attDup_err] at hr
            have hm : missing l a z = (a, 8) := by unfold missing; rw [if_pos (by rw [HZ1.out]; exact Nat.le_refl _)]
            rw [← hm] at hr
            have HRE := Lib.hid hr.symm
            clear hr HR hm
            have hcon := HCON.out
            rw [hco] at hcon
            have HCO2 := Lib.hid hcon
            clear hco hcon HCON
            go_wp2_with fail
            refine HCO2.out.mono ?_
            rintro e W7 ⟨⟨rfl, hcu⟩, hup⟩
            have hs7 := S6.out.upd hup hbg hgh
            have n2 := hs7.n2
            have f2 := hs7.free 2
            have y0 := hs7.t0
            have y3 := hcu.c3
            have yc := hcu.c0
            have S8 := Lib.hid (hs7.value_ hbg hgh hg v)
            have C8 := Lib.hid (hcu.other (i := 2) (show b ≠ h by omega) (.string (S v)))
            have z0 := S8.out.t0
            have z3 := C8.out.c3
            have zc := C8.out.c0
            clear hs7 hup hcu S6 C6 x0 k0 k1 HCO2
            go_wp2_with fail
            refine (atExpected S8.out C8.out hbg hgh hl).mono ?_
            rintro e w2 ⟨rfl, hf⟩
            have HF := Lib.hid hf
            clear hf
            go_wp2_with fail
            go_ret
            exact AttrRes.err HRE.out HF.out
        · -- the quote
          have i1 : (z : Int) < l.length := by omega
          have i2 : ((z : Int) == l.length) = false := by rw [beq_eq_false_iff_ne]; omega
          have t1 : ((l[z].toNat : Int) == 34) = true := by rw [hz2]; rfl
          have t1' : ((l[z].toNat : Int) != 34) = false := by rw [bne, t1]; rfl
          have t2 : ((l[z].toNat : Int) == 60) = false := by rw [hz2]; rfl
          cases hco : cont true l (y + 1) z with
          | error q =>
            have hr := HR.out
            rw [hco] at hr
            simp only at hr
            rw [attDup_err] at hr
            have HRE := Lib.hid hr.symm
            have hcon := HCON.out
            rw [hco] at hcon
            have HCO2 := Lib.hid hcon
            clear hr HR hco hcon HCON
            try clear hz2
            try clear hz3
            go_wp2_with fail
            refine HCO2.out.mono ?_
            rintro e W7 ⟨⟨rfl, hcu⟩, hup⟩
            have hs7 := S6.out.upd hup hbg hgh
            have n2 := hs7.n2
            have f2 := hs7.free 2
            have y0 := hs7.t0
            have y3 := hcu.c3
            have S8 := Lib.hid (hs7.value_ hbg hgh hg [])
            have C8 := Lib.hid (hcu.other (i := 2) (show b ≠ h by omega) (.string (S [])))
            have z0 := S8.out.t0
            have z3 := C8.out.c3
            clear hs7 hup hcu S6 C6 x0 k0 k1 HCO2
            go_wp2_with fail
            go_ret
            exact AttrRes.err HRE.out (S8.out.fail C8.out)
          | ok v =>
            have hr := HR.out
            rw [hco] at hr
            simp only at hr
            rw [if_neg (by omega), if_neg (by rw [List.getD_eq_getElem?_getD, List.getElem?_eq_getElem hz1]; simp only [Option.getD_some]; rw [hz2]; decide)] at hr
            have HR2 := Lib.hid hr
            clear hr HR hz2
            have hcon := HCON.out
            rw [hco] at hcon
            have HCO2 := Lib.hid hcon
            clear hco hcon HCON
            go_wp2_with fail
            refine HCO2.out.mono ?_
            rintro e W7 ⟨⟨rfl, hcu⟩, hup⟩
            have hs7 := S6.out.upd hup hbg hgh
            have n2 := hs7.n2
            have f2 := hs7.free 2
            have y0 := hs7.t0
            have y3 := hcu.c3
            have yc := hcu.c0
            have S8 := Lib.hid (hs7.value_ hbg hgh hg v)
            have C8 := Lib.hid (hcu.other (i := 2) (show b ≠ h by omega) (.string (S v)))
            have z0 := S8.out.t0
            have z3 := C8.out.c3
            have zc := C8.out.c0
            clear hs7 hup hcu S6 C6 x0 k0 k1 HCO2
            go_upto_region 23 with (fail)
            clear n2 f2 y0 y3 yc z0 z3 zc
            generalize W7.setCell ⟨h, 2, none⟩ (.string (S v)) = W8 at *
            have x0 := S8.out.t0
            have k1 := C8.out.c1
            have kf := C8.out.free 1
            have S9 := Lib.hid (S8.out.upd (Upd.set_ b 1 W8 (.int .i64 ((z : Int) + 1))) hbg hgh)
            have C9 := Lib.hid (C8.out.move ((z : Int) + 1))
            have x3 := S8.out.tag.cells.2.2.2.1
            have x9 := S9.out.tag.cells.2.2.2.1
            have hz1' : (z : Int) + 1 ≤ l.length := by omega
            go_wp2_with fail
            clear x0 k1 kf x3 x9 S8 C8
            generalize W8.setCell ⟨b, 1, none⟩ (.int .i64 ((z : Int) + 1)) = W9 at *
            go_loopw [156] (fun i156 wr => ∃ j : Nat, j ≤ bs.length ∧ i156 = .int .i64 j ∧ (bs.take j).any (fun c => c.name == T) = false ∧ AtS w0 b g h k nm A bs c em tx a T v n wr ∧ Cur wr b l ((z : Int) + 1) ea 0) (fun i156 _ => bs.length - (intOf i156).toNat)
            case atStart => exact ⟨0, Nat.zero_le _, rfl, by simp, S9.out, C9.out⟩
            case round =>
              clear S9 C9
              obtain ⟨j, hjl, rfl, hany, hs, hcu⟩ := hrel
              have HANY := Lib.hid hany
              have HSS := Lib.hid hs
              have HCU := Lib.hid hcu
              have hltH := heap_lt hs.att
              have n1 := hs.n1
              clear hany hcu
              by_cases hlt : j < bs.length
              · have hlt' : (j : Int) < bs.length := by omega
                obtain ⟨ga, off, hAA, hga, hr⟩ := hs.row.attsIn.at_ hlt
                subst hAA
                have hat := any_take (p := fun c => c.name == T) hlt
                rw [HANY.out, Bool.false_or] at hat
                have hhit := fun h => any_hit (p := fun c : Att => c.name == T) hlt h
                try simp only at hat
                try simp only at hhit
                generalize bs[j] = bj at *
                obtain ⟨sj, nj, vj, pj⟩ := bj
                simp only at hat hhit
                cases y : (nj == T)
                · rw [y] at hat
                  have HAT := Lib.hid hat
                  clear hat hhit hs
                  go_wp2_with (with_reducible refine gate ?_; refine wp_load_att rfl _ rfl ga (off + j * 4) rfl ⟨sj, nj, vj, pj⟩ hr ?_)
                  go_roundw
                  case rel => exact ⟨j + 1, by omega, by go_num, HAT.out, HSS.out.upd ((Upd.refl _ _).alloc _) hbg hgh, HCU.out.alloc _⟩
                  case measure => simp [intOf]; omega
                · have hr2 := HR2.out
                  unfold attDup at hr2
                  simp only at hr2
                  rw [if_pos (hhit y)] at hr2
                  have HRE := Lib.hid hr2.symm
                  have hs2 := hs.upd ((Upd.refl b wr).alloc (.cells #[.string (S sj), .string (S nj), .string (S vj), .int .i64 pj] 39)) hbg hgh
                  have x0 := hs2.t0
                  have x3 := hs2.n3
                  have HX := Lib.hid hs2
                  have HF := Lib.hid (fun W hW => curFail0_any b l ((z : Int) + 1) ea n 10 W hW)
                  have HCU2 := Lib.hid (HCU.out.alloc (.cells #[.string (S sj), .string (S nj), .string (S vj), .int .i64 pj] 39))
                  clear hat hhit hr2 hs hs2
                  go_wp2_with (with_reducible refine gate ?_; refine wp_load_att rfl _ rfl ga (off + j * 4) rfl ⟨sj, nj, vj, pj⟩ hr ?_)
                  clear hr n1
                  generalize wr.alloc (.cells #[.string (S sj), .string (S nj), .string (S vj), .int .i64 pj] 39) = W10 at *
                  go_region_held3 (fun x => x.cell? ⟨g, 0, none⟩ = some (.pointer (some ⟨b, 0, none⟩)) ∧ x.cell? ⟨h, 3, none⟩ = some (.int .i64 n))
                    (first | exact ⟨u0, u3⟩ | exact ⟨x0, x3⟩)
                    ((go_at_call 83; refine (HF.out _ HCU2.out.drew).mono ?_; rintro e w2 ⟨rfl, hcu, hup⟩; have u0 := (HX.out.drew.upd hup hbg hgh).t0; have u3 := (HX.out.drew.upd hup hbg hgh).n3))
                  have HCU3 := Lib.hid hcu
                  have HX3 := Lib.hid (HX.out.drew.upd hup hbg hgh)
                  clear hcu hup u0 u3 x0 x3
                  go_wp2_with fail
                  go_ret
                  exact AttrRes.err HRE.out (HX3.out.fail HCU3.out)
              · obtain rfl : j = bs.length := by omega
                have hany := HANY.out
                rw [List.take_length] at hany
                have hr2 := HR2.out
                unfold attDup at hr2
                simp only at hr2
                rw [if_neg (by rw [hany]; decide)] at hr2
                have HRE := Lib.hid hr2.symm
                have hgl := hs.tag.lt
                have F1 : Hid (∀ (g' c' : Nat) (w' : World), AttRow w' (g + 1) (.slice (some ⟨g', 0, none⟩) (bs.length + 1) c') (bs ++ [⟨[], T, v, n⟩]) → Grew wr (.slice A bs.length c) (.slice (some ⟨g', 0, none⟩) (bs.length + 1) c') w' → Below (g + 1) wr w' →
                    AttrRes w0 g b l a ea k nm bs em tx R (.returned (.bool true)) (w'.setCell ⟨g, 3, none⟩ (.slice (some ⟨g', 0, none⟩) (bs.length + 1) c'))) := by
                  intro g' c' w' r1 r2 r3
                  have htag : TagB w' g b k nm A bs.length c em tx a := r2.heap HSS.out.tag (fun e => by have := HSS.out.row.lt _ e; omega)
                  have hcur : Cur w' b l ((z : Int) + 1) ea 0 := HCU.out.keep (r3.block b (by omega))
                  rw [HRE.out]
                  exact ⟨rfl, by rw [Int.natCast_add]; exact hcur.other (by omega) _, (HSS.out.up.more (r3.mono (by omega))).more ((Below.refl _ _).setCell (p := ⟨g, 3, none⟩) hg _), _, c', htag.atts_ _ _ _, r1.heap fun j hj => Below.heap_setCell _ _ _ _ (by have := r1.lt j hj; simp; omega)⟩
                clear hany hr2 hs n1
                go_wp2_with fail
                refine region_att6 rfl rfl rfl rfl rfl rfl rfl rfl rfl rfl rfl rfl rfl (by kernel_rfl) (by rfl) (fun _ _ _ _ _ h => h) g h A bs c ⟨[], T, v, n⟩ _ _ rfl rfl HSS.out.tag rfl HSS.out.att hgh HSS.out.row (fun e => by have := HSS.out.own _ e; omega) (by omega) ?_
                intro bb g' c' W r1 r2 r3 r4
                have HF1 := Lib.hid (F1.out g' c' W r1 r2 r3)
                clear r1 r2 r3 r4
                go_wp2_with fail
                go_ret
                exact HF1.out
        · -- '<'
          have i1 : (z : Int) < l.length := by omega
          have i2 : ((z : Int) == l.length) = false := by rw [beq_eq_false_iff_ne]; omega
          have t1 : ((l[z].toNat : Int) == 34) = false := byte_ne (k := 34) (fun e => hz3 (UInt8.toNat_inj.1 e))
          have t1' : ((l[z].toNat : Int) != 34) = true := by rw [bne, t1]; rfl
          have t2 : ((l[z].toNat : Int) == 60) = true := by rw [hz2]; rfl
          have t2' : ((l[z].toNat : Int) != 60) = false := by rw [bne, t2]; rfl
          cases hco : cont true l (y + 1) z with
          | error q =>
            have hr := HR.out
            rw [hco] at hr
            simp only at hr
            rw [attDup_err] at hr
            have HRE := Lib.hid hr.symm
            have hcon := HCON.out
            rw [hco] at hcon
            have HCO2 := Lib.hid hcon
            clear hr HR hco hcon HCON
            try clear hz2
            try clear hz3
            go_wp2_with fail
            refine HCO2.out.mono ?_
            rintro e W7 ⟨⟨rfl, hcu⟩, hup⟩
            have hs7 := S6.out.upd hup hbg hgh
            have n2 := hs7.n2
            have f2 := hs7.free 2
            have y0 := hs7.t0
            have y3 := hcu.c3
            have S8 := Lib.hid (hs7.value_ hbg hgh hg [])
            have C8 := Lib.hid (hcu.other (i := 2) (show b ≠ h by omega) (.string (S [])))
            have z0 := S8.out.t0
            have z3 := C8.out.c3
            clear hs7 hup hcu S6 C6 x0 k0 k1 HCO2
            go_wp2_with fail
            go_ret
            exact AttrRes.err HRE.out (S8.out.fail C8.out)
          | ok v =>
            have hr := HR.out
            rw [hco] at hr
            simp only at hr
            rw [if_neg (by omega), if_pos (by rw [List.getD_eq_getElem?_getD, List.getElem?_eq_getElem hz1]; exact hz2), attDup_err] at hr
            have hm : missing l a z = (z, 7) := by unfold missing; rw [if_neg (by omega)]
            rw [← hm] at hr
            have HRE := Lib.hid hr.symm
            clear hr HR hm hz2 hz3
            have hcon := HCON.out
            rw [hco] at hcon
            have HCO2 := Lib.hid hcon
            clear hco hcon HCON
            go_wp2_with fail
            refine HCO2.out.mono ?_
            rintro e W7 ⟨⟨rfl, hcu⟩, hup⟩
            have hs7 := S6.out.upd hup hbg hgh
            have n2 := hs7.n2
            have f2 := hs7.free 2
            have y0 := hs7.t0
            have y3 := hcu.c3
            have yc := hcu.c0
            have S8 := Lib.hid (hs7.value_ hbg hgh hg v)
            have C8 := Lib.hid (hcu.other (i := 2) (show b ≠ h by omega) (.string (S v)))
            have z0 := S8.out.t0
            have z3 := C8.out.c3
            have zc := C8.out.c0
            clear hs7 hup hcu S6 C6 x0 k0 k1 HCO2
            go_wp2_with fail
            refine (atExpected S8.out C8.out hbg hgh hl).mono ?_
            rintro e w2 ⟨rfl, hf⟩
            have HF := Lib.hid hf
            clear hf
            go_wp2_with fail
            go_ret
            exact AttrRes.err HRE.out HF.out
  · have cA : Calls Tryz.prog 59 #[.pointer (some ⟨b, 0, none⟩), .string ⟨#[34]⟩] W5 _ := curNo_any b l y ea 0 [34] W5 hq1 C5.out s4 hl
    have cB : ∀ W, Cur W b l y ea 0 → Calls Tryz.prog 59 #[.pointer (some ⟨b, 0, none⟩), .string ⟨#[39]⟩] W _ := fun W hW => curYes_any b l y ea 0 [39] W hq2 hW s4 hl
    obtain ⟨hy0, hyq⟩ := has_one.1 hq2
    have hr := HR.out
    rw [if_neg (by unfold isQuote; rw [hq1, hq2]; decide)] at hr
    have CA := Lib.hid cA
    have CB := Lib.hid cB
    clear cA cB hq1 hq2 HR
    refine CA.out.mono ?_
    rintro e W55 ⟨rfl, hcu, hup⟩
    have S55 := Lib.hid (S5.out.upd hup hbg hgh)
    have C55 := Lib.hid hcu
    clear hup hcu S5 C5 x0 CA
    have x0 := S55.out.t0
    go_wp2_with fail
    refine (CB.out W55 C55.out).mono ?_
    rintro e W6 ⟨rfl, hcu, hup⟩
    have S6 := Lib.hid (S55.out.upd hup hbg hgh)
    have C6 := Lib.hid hcu
    clear hup hcu S55 C55 x0 CB
    have hgq : l.getD y 0 = 39 := by rw [List.getD_eq_getElem?_getD, List.getElem?_eq_getElem hy0]; exact hyq
    have hy1 : y + 1 ≤ l.length := hy0
    rw [hgq] at hr
    unfold valAt at hr
    have v1 := valEnd_ge l 39 (y + 1)
    have v2 := valEnd_le (q := 39) hy1
    obtain ⟨Z, hZ⟩ : ∃ Z, valEnd l 39 (y + 1) = Z := ⟨_, rfl⟩
    rw [hZ] at hr v1 v2
    have HR := Lib.hid hr
    have HZ := Lib.hid hZ
    clear hr hZ hgq hyq hy0
    have x0 := S6.out.t0
    have k0 := C6.out.c0
    have k1 := C6.out.c1
    go_wp2_with fail
    go_loop [5] (fun i5 => ∃ z : Nat, y + 1 ≤ z ∧ z ≤ l.length ∧ i5 = .int .i64 z ∧ valEnd l 39 z = Z) (fun i5 => l.length - (intOf i5).toNat)
    case atStart => exact ⟨y + 1, Nat.le_refl _, hy1, by go_num, HZ.out⟩
    case round =>
      obtain ⟨z, hyz, hz, rfl, hzz⟩ := hrel
      have HZZ := Lib.hid hzz
      clear hzz
      by_cases hgo : ∃ h : z < l.length, l[z] ≠ 39 ∧ l[z] ≠ 60
      · obtain ⟨hz1, hz2, hz3⟩ := hgo
        have i1 : (z : Int) < l.length := by omega
        have t1 : ((l[z].toNat : Int) == 39) = false := byte_ne (k := 39) (fun e => hz2 (UInt8.toNat_inj.1 e))
        have t1' : ((l[z].toNat : Int) != 39) = true := by rw [bne, t1]; rfl
        have t2 : ((l[z].toNat : Int) == 60) = false := byte_ne (k := 60) (fun e => hz3 (UInt8.toNat_inj.1 e))
        have t2' : ((l[z].toNat : Int) != 60) = true := by rw [bne, t2]; rfl
        have hnx := HZZ.out
        rw [valEnd_yes hz1 hz2 hz3] at hnx
        have HN := Lib.hid hnx
        clear hnx hz2 hz3
        go_wp2_with fail
        go_round
        case rel => exact ⟨z + 1, by omega, by omega, by go_num, HN.out⟩
        case measure => simp [intOf]; omega
      · have hzZ : z = Z := by
          by_cases hz1 : z < l.length
          · rw [← HZZ.out, valEnd_no hz1]
            by_cases h2 : l[z] = 39
            · exact .inl h2
            · by_cases h3 : l[z] = 60
              · exact .inr h3
              · exact absurd ⟨hz1, h2, h3⟩ hgo
          · obtain rfl : z = l.length := by omega
            have := HZZ.out
            rw [valEnd_end] at this
            exact this
        subst hzZ
        have hends : (z = l.length) ∨ (∃ h : z < l.length, l[z] = 39) ∨ (∃ h : z < l.length, l[z] = 60 ∧ l[z] ≠ 39) := by
          by_cases hz1 : z < l.length
          · by_cases h2 : l[z] = 39
            · exact .inr (.inl ⟨hz1, h2⟩)
            · by_cases h3 : l[z] = 60
              · exact .inr (.inr ⟨hz1, h3, h2⟩)
              · exact absurd ⟨hz1, h2, h3⟩ hgo
          · exact .inl (by omega)
        have hcon := fun W (hU : Upd b w0 W) (hW : Cur W b l ((y + 1 : Nat) : Int) ea 0) => curContent_any true b l (y + 1) z ea m W (HS.out.max_ hU) hW hyz hz hl
        have HCON := Lib.hid (hcon W6 S6.out.up C6.out)
        clear hcon hgo HZZ HZ
        rcases hends with hz1 | ⟨hz1, hz2⟩ | ⟨hz1, hz2, hz3⟩
        · -- the end
          have i1 : ¬ (z : Int) < l.length := by omega
          have i2 : ((z : Int) == l.length) = true := by rw [hz1]; simp
          have HZ1 := Lib.hid hz1
          clear hz1
          cases hco : cont true l (y + 1) z with
          | error q =>
            have hr := HR.out
            rw [hco] at hr
            simp only at hr
            rw [attDup_err] at hr
            have HRE := Lib.hid hr.symm
            have hcon := HCON.out
            rw [hco] at hcon
            have HCO2 := Lib.hid hcon
            clear hr HR hco hcon HCON
            try clear hz2
            try clear hz3
            go_wp2_with fail
            refine HCO2.out.mono ?_
            rintro e W7 ⟨⟨rfl, hcu⟩, hup⟩
            have hs7 := S6.out.upd hup hbg hgh
            have n2 := hs7.n2
            have f2 := hs7.free 2
            have y0 := hs7.t0
            have y3 := hcu.c3
            have S8 := Lib.hid (hs7.value_ hbg hgh hg [])
            have C8 := Lib.hid (hcu.other (i := 2) (show b ≠ h by omega) (.string (S [])))
            have z0 := S8.out.t0
            have z3 := C8.out.c3
            clear hs7 hup hcu S6 C6 x0 k0 k1 HCO2
            go_wp2_with fail
            go_ret
            exact AttrRes.err HRE.out (S8.out.fail C8.out)
          | ok v =>
            have hr := HR.out
            rw [hco] at hr
            simp only at hr
            rw [if_pos HZ1.out, attDup_err] at hr
            have hm : missing l a z = (a, 8) := by unfold missing; rw [if_pos (by rw [HZ1.out]; exact Nat.le_refl _)]
            rw [← hm] at hr
            have HRE := Lib.hid hr.symm
            clear hr HR hm
            have hcon := HCON.out
            rw [hco] at hcon
            have HCO2 := Lib.hid hcon
            clear hco hcon HCON
            go_wp2_with fail
            refine HCO2.out.mono ?_
            rintro e W7 ⟨⟨rfl, hcu⟩, hup⟩
            have hs7 := S6.out.upd hup hbg hgh
            have n2 := hs7.n2
            have f2 := hs7.free 2
            have y0 := hs7.t0
            have y3 := hcu.c3
            have yc := hcu.c0
            have S8 := Lib.hid (hs7.value_ hbg hgh hg v)
            have C8 := Lib.hid (hcu.other (i := 2) (show b ≠ h by omega) (.string (S v)))
            have z0 := S8.out.t0
            have z3 := C8.out.c3
            have zc := C8.out.c0
            clear hs7 hup hcu S6 C6 x0 k0 k1 HCO2
            go_wp2_with fail
            refine (atExpected S8.out C8.out hbg hgh hl).mono ?_
            rintro e w2 ⟨rfl, hf⟩
            have HF := Lib.hid hf
            clear hf
            go_wp2_with fail
            go_ret
            exact AttrRes.err HRE.out HF.out
        · -- the quote
          have i1 : (z : Int) < l.length := by omega
          have i2 : ((z : Int) == l.length) = false := by rw [beq_eq_false_iff_ne]; omega
          have t1 : ((l[z].toNat : Int) == 39) = true := by rw [hz2]; rfl
          have t1' : ((l[z].toNat : Int) != 39) = false := by rw [bne, t1]; rfl
          have t2 : ((l[z].toNat : Int) == 60) = false := by rw [hz2]; rfl
          cases hco : cont true l (y + 1) z with
          | error q =>
            have hr := HR.out
            rw [hco] at hr
            simp only at hr
            rw [attDup_err] at hr
            have HRE := Lib.hid hr.symm
            have hcon := HCON.out
            rw [hco] at hcon
            have HCO2 := Lib.hid hcon
            clear hr HR hco hcon HCON
            try clear hz2
            try clear hz3
            go_wp2_with fail
            refine HCO2.out.mono ?_
            rintro e W7 ⟨⟨rfl, hcu⟩, hup⟩
            have hs7 := S6.out.upd hup hbg hgh
            have n2 := hs7.n2
            have f2 := hs7.free 2
            have y0 := hs7.t0
            have y3 := hcu.c3
            have S8 := Lib.hid (hs7.value_ hbg hgh hg [])
            have C8 := Lib.hid (hcu.other (i := 2) (show b ≠ h by omega) (.string (S [])))
            have z0 := S8.out.t0
            have z3 := C8.out.c3
            clear hs7 hup hcu S6 C6 x0 k0 k1 HCO2
            go_wp2_with fail
            go_ret
            exact AttrRes.err HRE.out (S8.out.fail C8.out)
          | ok v =>
            have hr := HR.out
            rw [hco] at hr
            simp only at hr
            rw [if_neg (by omega), if_neg (by rw [List.getD_eq_getElem?_getD, List.getElem?_eq_getElem hz1]; simp only [Option.getD_some]; rw [hz2]; decide)] at hr
            have HR2 := Lib.hid hr
            clear hr HR hz2
            have hcon := HCON.out
            rw [hco] at hcon
            have HCO2 := Lib.hid hcon
            clear hco hcon HCON
            go_wp2_with fail
            refine HCO2.out.mono ?_
            rintro e W7 ⟨⟨rfl, hcu⟩, hup⟩
            have hs7 := S6.out.upd hup hbg hgh
            have n2 := hs7.n2
            have f2 := hs7.free 2
            have y0 := hs7.t0
            have y3 := hcu.c3
            have yc := hcu.c0
            have S8 := Lib.hid (hs7.value_ hbg hgh hg v)
            have C8 := Lib.hid (hcu.other (i := 2) (show b ≠ h by omega) (.string (S v)))
            have z0 := S8.out.t0
            have z3 := C8.out.c3
            have zc := C8.out.c0
            clear hs7 hup hcu S6 C6 x0 k0 k1 HCO2
            go_upto_region 23 with (fail)
            clear n2 f2 y0 y3 yc z0 z3 zc
            generalize W7.setCell ⟨h, 2, none⟩ (.string (S v)) = W8 at *
            have x0 := S8.out.t0
            have k1 := C8.out.c1
            have kf := C8.out.free 1
            have S9 := Lib.hid (S8.out.upd (Upd.set_ b 1 W8 (.int .i64 ((z : Int) + 1))) hbg hgh)
            have C9 := Lib.hid (C8.out.move ((z : Int) + 1))
            have x3 := S8.out.tag.cells.2.2.2.1
            have x9 := S9.out.tag.cells.2.2.2.1
            have hz1' : (z : Int) + 1 ≤ l.length := by omega
            go_wp2_with fail
            clear x0 k1 kf x3 x9 S8 C8
            generalize W8.setCell ⟨b, 1, none⟩ (.int .i64 ((z : Int) + 1)) = W9 at *
            go_loopw [156] (fun i156 wr => ∃ j : Nat, j ≤ bs.length ∧ i156 = .int .i64 j ∧ (bs.take j).any (fun c => c.name == T) = false ∧ AtS w0 b g h k nm A bs c em tx a T v n wr ∧ Cur wr b l ((z : Int) + 1) ea 0) (fun i156 _ => bs.length - (intOf i156).toNat)
            case atStart => exact ⟨0, Nat.zero_le _, rfl, by simp, S9.out, C9.out⟩
            case round =>
              clear S9 C9
              obtain ⟨j, hjl, rfl, hany, hs, hcu⟩ := hrel
              have HANY := Lib.hid hany
              have HSS := Lib.hid hs
              have HCU := Lib.hid hcu
              have hltH := heap_lt hs.att
              have n1 := hs.n1
              clear hany hcu
              by_cases hlt : j < bs.length
              · have hlt' : (j : Int) < bs.length := by omega
                obtain ⟨ga, off, hAA, hga, hr⟩ := hs.row.attsIn.at_ hlt
                subst hAA
                have hat := any_take (p := fun c => c.name == T) hlt
                rw [HANY.out, Bool.false_or] at hat
                have hhit := fun h => any_hit (p := fun c : Att => c.name == T) hlt h
                try simp only at hat
                try simp only at hhit
                generalize bs[j] = bj at *
                obtain ⟨sj, nj, vj, pj⟩ := bj
                simp only at hat hhit
                cases y : (nj == T)
                · rw [y] at hat
                  have HAT := Lib.hid hat
                  clear hat hhit hs
                  go_wp2_with (with_reducible refine gate ?_; refine wp_load_att rfl _ rfl ga (off + j * 4) rfl ⟨sj, nj, vj, pj⟩ hr ?_)
                  go_roundw
                  case rel => exact ⟨j + 1, by omega, by go_num, HAT.out, HSS.out.upd ((Upd.refl _ _).alloc _) hbg hgh, HCU.out.alloc _⟩
                  case measure => simp [intOf]; omega
                · have hr2 := HR2.out
                  unfold attDup at hr2
                  simp only at hr2
                  rw [if_pos (hhit y)] at hr2
                  have HRE := Lib.hid hr2.symm
                  have hs2 := hs.upd ((Upd.refl b wr).alloc (.cells #[.string (S sj), .string (S nj), .string (S vj), .int .i64 pj] 39)) hbg hgh
                  have x0 := hs2.t0
                  have x3 := hs2.n3
                  have HX := Lib.hid hs2
                  have HF := Lib.hid (fun W hW => curFail0_any b l ((z : Int) + 1) ea n 10 W hW)
                  have HCU2 := Lib.hid (HCU.out.alloc (.cells #[.string (S sj), .string (S nj), .string (S vj), .int .i64 pj] 39))
                  clear hat hhit hr2 hs hs2
                  go_wp2_with (with_reducible refine gate ?_; refine wp_load_att rfl _ rfl ga (off + j * 4) rfl ⟨sj, nj, vj, pj⟩ hr ?_)
                  clear hr n1
                  generalize wr.alloc (.cells #[.string (S sj), .string (S nj), .string (S vj), .int .i64 pj] 39) = W10 at *
                  go_region_held3 (fun x => x.cell? ⟨g, 0, none⟩ = some (.pointer (some ⟨b, 0, none⟩)) ∧ x.cell? ⟨h, 3, none⟩ = some (.int .i64 n))
                    (first | exact ⟨u0, u3⟩ | exact ⟨x0, x3⟩)
                    ((go_at_call 83; refine (HF.out _ HCU2.out.drew).mono ?_; rintro e w2 ⟨rfl, hcu, hup⟩; have u0 := (HX.out.drew.upd hup hbg hgh).t0; have u3 := (HX.out.drew.upd hup hbg hgh).n3))
                  have HCU3 := Lib.hid hcu
                  have HX3 := Lib.hid (HX.out.drew.upd hup hbg hgh)
                  clear hcu hup u0 u3 x0 x3
                  go_wp2_with fail
                  go_ret
                  exact AttrRes.err HRE.out (HX3.out.fail HCU3.out)
              · obtain rfl : j = bs.length := by omega
                have hany := HANY.out
                rw [List.take_length] at hany
                have hr2 := HR2.out
                unfold attDup at hr2
                simp only at hr2
                rw [if_neg (by rw [hany]; decide)] at hr2
                have HRE := Lib.hid hr2.symm
                have hgl := hs.tag.lt
                have F1 : Hid (∀ (g' c' : Nat) (w' : World), AttRow w' (g + 1) (.slice (some ⟨g', 0, none⟩) (bs.length + 1) c') (bs ++ [⟨[], T, v, n⟩]) → Grew wr (.slice A bs.length c) (.slice (some ⟨g', 0, none⟩) (bs.length + 1) c') w' → Below (g + 1) wr w' →
                    AttrRes w0 g b l a ea k nm bs em tx R (.returned (.bool true)) (w'.setCell ⟨g, 3, none⟩ (.slice (some ⟨g', 0, none⟩) (bs.length + 1) c'))) := by
                  intro g' c' w' r1 r2 r3
                  have htag : TagB w' g b k nm A bs.length c em tx a := r2.heap HSS.out.tag (fun e => by have := HSS.out.row.lt _ e; omega)
                  have hcur : Cur w' b l ((z : Int) + 1) ea 0 := HCU.out.keep (r3.block b (by omega))
                  rw [HRE.out]
                  exact ⟨rfl, by rw [Int.natCast_add]; exact hcur.other (by omega) _, (HSS.out.up.more (r3.mono (by omega))).more ((Below.refl _ _).setCell (p := ⟨g, 3, none⟩) hg _), _, c', htag.atts_ _ _ _, r1.heap fun j hj => Below.heap_setCell _ _ _ _ (by have := r1.lt j hj; simp; omega)⟩
                clear hany hr2 hs n1
                go_wp2_with fail
                refine region_att6 rfl rfl rfl rfl rfl rfl rfl rfl rfl rfl rfl rfl rfl (by kernel_rfl) (by rfl) (fun _ _ _ _ _ h => h) g h A bs c ⟨[], T, v, n⟩ _ _ rfl rfl HSS.out.tag rfl HSS.out.att hgh HSS.out.row (fun e => by have := HSS.out.own _ e; omega) (by omega) ?_
                intro bb g' c' W r1 r2 r3 r4
                have HF1 := Lib.hid (F1.out g' c' W r1 r2 r3)
                clear r1 r2 r3 r4
                go_wp2_with fail
                go_ret
                exact HF1.out
        · -- '<'
          have i1 : (z : Int) < l.length := by omega
          have i2 : ((z : Int) == l.length) = false := by rw [beq_eq_false_iff_ne]; omega
          have t1 : ((l[z].toNat : Int) == 39) = false := byte_ne (k := 39) (fun e => hz3 (UInt8.toNat_inj.1 e))
          have t1' : ((l[z].toNat : Int) != 39) = true := by rw [bne, t1]; rfl
          have t2 : ((l[z].toNat : Int) == 60) = true := by rw [hz2]; rfl
          have t2' : ((l[z].toNat : Int) != 60) = false := by rw [bne, t2]; rfl
          cases hco : cont true l (y + 1) z with
          | error q =>
            have hr := HR.out
            rw [hco] at hr
            simp only at hr
            rw [attDup_err] at hr
            have HRE := Lib.hid hr.symm
            have hcon := HCON.out
            rw [hco] at hcon
            have HCO2 := Lib.hid hcon
            clear hr HR hco hcon HCON
            try clear hz2
            try clear hz3
            go_wp2_with fail
            refine HCO2.out.mono ?_
            rintro e W7 ⟨⟨rfl, hcu⟩, hup⟩
            have hs7 := S6.out.upd hup hbg hgh
            have n2 := hs7.n2
            have f2 := hs7.free 2
            have y0 := hs7.t0
            have y3 := hcu.c3
            have S8 := Lib.hid (hs7.value_ hbg hgh hg [])
            have C8 := Lib.hid (hcu.other (i := 2) (show b ≠ h by omega) (.string (S [])))
            have z0 := S8.out.t0
            have z3 := C8.out.c3
            clear hs7 hup hcu S6 C6 x0 k0 k1 HCO2
            go_wp2_with fail
            go_ret
            exact AttrRes.err HRE.out (S8.out.fail C8.out)
          | ok v =>
            have hr := HR.out
            rw [hco] at hr
            simp only at hr
            rw [if_neg (by omega), if_pos (by rw [List.getD_eq_getElem?_getD, List.getElem?_eq_getElem hz1]; exact hz2), attDup_err] at hr
            have hm : missing l a z = (z, 7) := by unfold missing; rw [if_neg (by omega)]
            rw [← hm] at hr
            have HRE := Lib.hid hr.symm
            clear hr HR hm hz2 hz3
            have hcon := HCON.out
            rw [hco] at hcon
            have HCO2 := Lib.hid hcon
            clear hco hcon HCON
            go_wp2_with fail
            refine HCO2.out.mono ?_
            rintro e W7 ⟨⟨rfl, hcu⟩, hup⟩
            have hs7 := S6.out.upd hup hbg hgh
            have n2 := hs7.n2
            have f2 := hs7.free 2
            have y0 := hs7.t0
            have y3 := hcu.c3
            have yc := hcu.c0
            have S8 := Lib.hid (hs7.value_ hbg hgh hg v)
            have C8 := Lib.hid (hcu.other (i := 2) (show b ≠ h by omega) (.string (S v)))
            have z0 := S8.out.t0
            have z3 := C8.out.c3
            have zc := C8.out.c0
            clear hs7 hup hcu S6 C6 x0 k0 k1 HCO2
            go_wp2_with fail
            refine (atExpected S8.out C8.out hbg hgh hl).mono ?_
            rintro e w2 ⟨rfl, hf⟩
            have HF := Lib.hid hf
            clear hf
            go_wp2_with fail
            go_ret
            exact AttrRes.err HRE.out HF.out
end Go.Proofs.YtclhdppppgjgfaaGreatDoor
