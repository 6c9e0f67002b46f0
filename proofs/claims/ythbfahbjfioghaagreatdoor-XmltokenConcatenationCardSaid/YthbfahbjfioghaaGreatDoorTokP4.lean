/-
  Walk of chapter 6: the program's content.
-/
import Derived.Test.YthbfahbjfioghaaGreatDoorTokP2
import Derived.Test.YthbfahbjfioghaaGreatDoorTokP3
import Derived.Test.YthbfahbjfioghaaGreatDoorRepl3
import Derived.Test.YthbfahbjfioghaaGreatDoorRefP
import Derived.Test.YthbfahbjfioghaaGreatDoorRune
import Derived.Deep.RegionHeld3
set_option linter.unusedVariables false
namespace Go.Proofs.YthbfahbjfioghaaGreatDoor
open Go.RowKit

theorem ownF_heap {B e n : Nat} {v : Value} {bs : List Value} {w w' : World} (h : w.ownsRowF B e 1 v n bs) (hb : ∀ k, B ≤ k → k < w.heap.size → w'.heap[k]? = w.heap[k]?) : w'.ownsRowF B e 1 v n bs := by
  obtain ⟨h1, h2⟩ := h
  refine ⟨h1, ?_⟩
  rcases h2 with h2 | ⟨g, cap, cur, fz, hv, hg, hh, r⟩
  · exact .inl h2
  · exact .inr ⟨g, cap, cur, fz, hv, hg, (hb g hg (heap_lt hh)).trans hh, r⟩
theorem Bld.upd {B b c : Nat} {l : Bytes} {w w' : World} (h : Bld B b l w) (hu : Upd c w w') (hc : c < B) : Bld B b l w' := by
  have hlt := h.lt
  have hle := h.le
  have hk : ∀ k, B ≤ k → k < w.heap.size → w'.heap[k]? = w.heap[k]? := fun k h1 h2 => hu.block k h2 (by omega)
  rcases h with ⟨h1, v, h2, h3, h4⟩ | ⟨h1, v, h2, h3, h4⟩
  · exact .inl ⟨h1, v, by rw [hk b hle hlt]; exact h2, ownF_heap h3 hk, h4⟩
  · exact .inr ⟨h1, v, by rw [hk b hle hlt]; exact h2, ownF_heap h3 hk, h4⟩
theorem Upd.more {b : Nat} {w W W' : World} (h : Upd b w W) (k : Below w.heap.size W W') : Upd b w W' :=
  ⟨k.os.trans h.os, k.tape.trans h.tape, k.output.trans h.output, Nat.le_trans h.size k.size, fun i hi hb => (k.block i hi).trans (h.block i hi hb)⟩
theorem Cur.keep {w w' : World} {b : Nat} {l : Bytes} {n ea er : Int} (h : Cur w b l n ea er) (hk : w'.heap[b]? = w.heap[b]?) : Cur w' b l n ea er := hk.trans h
theorem findS_run : ∀ (y : Bytes), (match findS [38] y with | none => y | some j => y.take j) = y.take (run (fun c => c != 38) y)
  | [] => rfl
  | c :: y => by
    rw [findS, run]
    by_cases h : c = 38
    · subst h; simp
    · have h1 : List.isPrefixOf [38] (c :: y) = false := by
        have : (38 == c) = false := by rw [beq_eq_false_iff_ne]; exact fun e => h e.symm
        simp [List.isPrefixOf, this]
      rw [if_neg (by rw [h1]; decide), if_pos (by simpa using h), List.take_succ_cons, ← findS_run y]
      cases findS [38] y with
      | none => rfl
      | some j => rfl
theorem cut_amp (y : Bytes) : (Lib.cut y [38]).1 = y.take (run (fun c => c != 38) y) := by
  rw [← findS_run, cut_find]
  cases findS [38] y <;> rfl

theorem curFail0_any (b : Nat) (l : Bytes) (n ea x y : Int) (w : World) (hC : Cur w b l n ea 0) :
    Calls Tryz.prog 72 #[.pointer (some ⟨b, 0, none⟩), .int .i64 x, .int .i64 y] w fun e w' => e = .returned (.tuple #[]) ∧ Cur w' b l n x y ∧ Upd b w w' := by
  simpa using curFail_any b l n ea 0 x y w hC
/-- A world that has been read alone. -/
def Drawn (w w' : World) : Prop := ∃ n, w' = w.drewN n
theorem Drawn.cur {w w' : World} {b : Nat} {l : Bytes} {n ea er : Int} (h : Drawn w w') (hC : Cur w b l n ea er) : Cur w' b l n ea er := by
  obtain ⟨k, rfl⟩ := h; exact hC.drewN k
theorem Drawn.upd {w w' : World} (h : Drawn w w') (b : Nat) : Upd b w w' := by
  obtain ⟨k, rfl⟩ := h; exact drewN_upd b w k
/-- What content returns, and where the position stands. -/
def ConRes (b : Nat) (l : Bytes) (tt : Nat) (ea : Int) (R : Except Nat Bytes) (e : Ending) (w' : World) : Prop :=
  match R with
  | .error x => e = .returned (.string (S [])) ∧ Cur w' b l x x 12
  | .ok o => e = .returned (.string (S o)) ∧ Cur w' b l tt ea 0

set_option maxHeartbeats 4000000 in
set_option maxRecDepth 100000 in
theorem curContent_any (v : Bool) (b : Nat) (l : Bytes) (n tt : Nat) (ea m : Int) (w : World) (hM : MaxLen m w) (hC : Cur w b l n ea 0) (hnt : n ≤ tt) (hto : tt ≤ l.length) (hl : l.length ≤ 1000000000) :
    Calls Tryz.prog 77 #[.pointer (some ⟨b, 0, none⟩), .int .i64 tt, .bool v] w fun e w' => ConRes b l tt ea (cont v l n tt) e w' ∧ Upd b w w' := by
  obtain ⟨R, hR⟩ : ∃ R, cont v l n tt = R := ⟨_, rfl⟩
  rw [hR]
  unfold cont at hR
  obtain ⟨x, hx⟩ : ∃ x, l.take tt = x := ⟨_, rfl⟩
  rw [hx] at hR
  have hxl : x.length = tt := by rw [← hx, List.length_take]; omega
  have hxi : ∀ i (h1 : i < x.length) (h2 : i < l.length), x[i] = l[i] := by intro i h1 h2; subst hx; rw [List.getElem_take]
  have hxd : ∀ i, x.drop i = (l.drop i).take (tt - i) := by intro i; subst hx; rw [List.drop_take]
  have hbl := hC.lt
  have HX := Lib.hid hx
  have HXL := Lib.hid hxl
  have HXI := Lib.hid hxi
  have HXD := Lib.hid hxd
  have HR := Lib.hid (ConAt.start hR)
  have HC := Lib.hid hC
  have HM := Lib.hid hM
  have hbn := Bld.new w
  have HB0 := Lib.hid hbn
  clear hx hxl hxi hxd hR hC hM hbn
  go_enter Tryz.func77, Tryz.ntmps77
  go_wp2_with fail
  go_loopg [8] (tt - n) (fun k _ wr => ∃ (o : Bytes) (i : Nat), n ≤ i ∧ i ≤ tt ∧ k = tt - i ∧ o.length ≤ 4 * i ∧ ConAt v x o i R ∧ Bld w.heap.size w.heap.size o wr ∧ Cur wr b l i ea 0 ∧ Upd b w wr)
  case atStart => exact ⟨[], n, Nat.le_refl _, hnt, rfl, by simp, HR.out, HB0.out, HC.out.alloc _, (Upd.refl _ _).alloc _⟩
  case round =>
    obtain ⟨o, i, hni, hit, hk, hol, hcon, hbd, hcur, hupd⟩ := hrel
    have HK := Lib.hid hk
    have HCO := Lib.hid hcon
    have HBL := Lib.hid hbd
    have HCu := Lib.hid hcur
    have HU := Lib.hid hupd
    have hsz := hupd.size
    have c0 := hcur.c0
    have c1 := hcur.c1
    have f1 := hcur.free 1
    clear hk hcon hbd hcur hupd
    by_cases hlt : i < tt
    · have hlt' : (i : Int) < tt := by omega
      have hil : i < l.length := by omega
      have hil' : (i : Int) < l.length := by omega
      have hix : i < x.length := by rw [HXL.out]; exact hlt
      have hto' : (tt : Int) ≤ l.length := by omega
      by_cases hc : l[i] = 38
      · have hxc : x[i] = 38 := by rw [HXI.out i hix hil]; exact hc
        have t1 : ((l[i].toNat : Int) == 38) = true := by rw [hc]; rfl
        have hra := refAt_in hix hxc
        clear hc
        cases ht : tailRef (x.drop (i + 1)) with
        | none =>
          rw [ht] at hra
          have hend := HCO.out.bad hix hxc ht
          have HE := Lib.hid hend
          have hcall : ∀ w, Calls Tryz.prog 104 #[.string (S (l.take tt)), .int .i64 i] w fun e w' => e = .returned (.tuple #[.int .i32 0, .int .i64 0, .int .i64 12]) ∧ Below w.heap.size w w' := fun w => by
            rw [HX.out]
            have := reference_any x i w (by rw [HXL.out]; omega)
            rw [hra] at this
            exact this
          have HCL := Lib.hid hcall
          clear hcall hend hra ht hxc hix
          go_wp2_with fail
          go_quiet (fail)
          go_wp2_with fail
          have hcur2 := HCu.out.drewN nq
          have HU2 := Lib.hid (HU.out.trans (drewN_upd b wr nq))
          generalize wr.drewN nq = W1 at *
          clear c0 c1 f1
          have c0 := hcur2.c0
          have c1 := hcur2.c1
          have HC2 := Lib.hid hcur2
          clear hcur2
          go_region_held3 (fun x => x.cell? ⟨b, 0, none⟩ = some (.string (S l)) ∧ x.cell? ⟨b, 1, none⟩ = some (.int .i64 i))
            (first | exact ⟨d0, d1⟩ | exact ⟨c0, c1⟩)
            ((go_at_call 104; refine (HCL.out _).mono ?_; rintro e w2 ⟨rfl, hb⟩; have hcur3 := HC2.out.drew.below hb; have d0 := hcur3.c0; have d1 := hcur3.c1))
          have hcu := HC2.out.drew.below hb
          have HU3 := Lib.hid (HU2.out.drew.next hb)
          have HF := Lib.hid (fun W hW => curFail0_any b l i ea i 12 W hW)
          have HC3 := Lib.hid hcu
          clear hcu hb hcur3 c0 c1
          go_wp2_with fail
          refine (HF.out _ HC3.out).mono ?_
          rintro e w3 ⟨rfl, h4, hu4⟩
          have HC4 := Lib.hid h4
          have HU4 := Lib.hid (HU3.out.trans hu4)
          clear h4 hu4 d0 d1
          go_wp2_with fail
          go_ret
          exact ⟨by rw [HE.out]; exact ⟨rfl, HC4.out⟩, HU4.out⟩
        | some p =>
          obtain ⟨q, k⟩ := p
          rw [ht] at hra
          have hm := tailRef_len ht
          have hq := isChar_ok (tailRef_char ht)
          rw [List.length_drop, HXL.out] at hm
          have hnx := HCO.out.ref hix hxc ht
          have HN := Lib.hid hnx
          have hel : (enc q).length ≤ 4 := (enc_len q hq).2
          have hcall : ∀ w, Calls Tryz.prog 104 #[.string (S (l.take tt)), .int .i64 i] w fun e w' => e = .returned (.tuple #[.int .i32 q, .int .i64 ((i + k + 2 : Nat) : Int), .int .i64 0]) ∧ Below w.heap.size w w' := fun w => by
            rw [HX.out]
            have := reference_any x i w (by rw [HXL.out]; omega)
            rw [hra] at this
            rw [show ((i + k + 2 : Nat) : Int) = (i : Int) + k + 2 by omega]
            exact this
          have HCL := Lib.hid hcall
          have HQ := Lib.hid hq
          obtain ⟨z, hz⟩ : ∃ z : Nat, i + k + 2 = z := ⟨_, rfl⟩
          rw [hz] at HCL HN
          have hz1 : i < z := by omega
          have hz2 : z ≤ tt := by omega
          clear hcall hra ht hxc hix hq hnx hz hm
          go_wp2_with fail
          go_quiet (fail)
          go_wp2_with fail
          have hcur2 := HCu.out.drewN nq
          have HBL2 := Lib.hid (HBL.out.upd (drewN_upd b wr nq) hbl)
          have HU2 := Lib.hid (HU.out.trans (drewN_upd b wr nq))
          generalize wr.drewN nq = W1 at *
          clear c0 c1 f1
          have c0 := hcur2.c0
          have c1 := hcur2.c1
          have HC2 := Lib.hid hcur2
          clear hcur2
          go_region_held3 (fun x => x.cell? ⟨b, 0, none⟩ = some (.string (S l)) ∧ x.cell? ⟨b, 1, none⟩ = some (.int .i64 i))
            (first | exact ⟨d0, d1⟩ | exact ⟨c0, c1⟩)
            ((go_at_call 104; refine (HCL.out _).mono ?_; rintro e w2 ⟨rfl, hb⟩; have hcur3 := HC2.out.drew.below hb; have d0 := hcur3.c0; have d1 := hcur3.c1))
          have HC3 := Lib.hid (HC2.out.drew.below hb)
          have HU3 := Lib.hid (HU2.out.drew.next hb)
          have HBL3 := Lib.hid (HBL2.out.drew.below hb)
          have hlen : o.length + 4 ≤ 140737488355328 := by omega
          clear hb hcur3 c0 c1 d0 d1
          have hs3 := HU3.out.size
          go_wp2_with fail
          refine (writeRune_any w.heap.size w.heap.size o q HQ.out _ HBL3.out hlen hs3).mono ?_
          rintro e w3 ⟨⟨kk, rfl⟩, hb3, hbel3, _⟩
          have HBL4 := Lib.hid hb3
          have hcur4 := HC3.out.keep (hbel3.block b hbl)
          have HU4 := Lib.hid (HU3.out.more hbel3)
          have d1 := hcur4.c1
          have g1 := hcur4.free 1
          have HC4 := Lib.hid hcur4
          clear hb3 hbel3 hcur4
          go_wp2_with fail
          go_roundg (tt - z)
          case measure => rw [HK.out]; omega
          case rel => exact ⟨o ++ enc q, z, by omega, by omega, rfl, by rw [List.length_append]; omega, HN.out, HBL4.out.upd (Upd.set_ b 1 _ _) hbl, HC4.out.move _, HU4.out.trans (Upd.set_ b 1 _ _)⟩
      · have t1 : ((l[i].toNat : Int) == 38) = false := byte_ne (k := 38) (fun e => hc (UInt8.toNat_inj.1 e))
        have hxc : x[i] ≠ 38 := by rw [HXI.out i hix hil]; exact hc
        have hrun := HCO.out.run (Nat.le_of_lt hix)
        have hK1 : i < ampEnd x i := by rw [ampEnd_yes hix hxc]; exact ampEnd_ge x (i + 1)
        have hK2 : ampEnd x i ≤ tt := by have := ampEnd_le (Nat.le_of_lt hix); rw [HXL.out] at this; exact this
        have hcutp : (Lib.cut (x.drop i) [38]).1 = (x.drop i).take (ampEnd x i - i) := by
          rw [cut_amp]; unfold ampEnd; congr 1; omega
        obtain ⟨K, hKe⟩ : ∃ K, ampEnd x i = K := ⟨_, rfl⟩
        rw [hKe] at hrun hK1 hK2 hcutp
        obtain ⟨pl, hpl⟩ : ∃ pl, (x.drop i).take (K - i) = pl := ⟨_, rfl⟩
        rw [hpl] at hrun hcutp
        have hplen : pl.length = K - i := by rw [← hpl, List.length_take, List.length_drop, HXL.out]; omega
        have hcut : ∀ w, MaxLen m w → ∃ z1 z2, Calls Tryz.prog 100 #[.string (S ((l.drop i).take (tt - i))), .string ⟨#[38]⟩] w fun e w' => e = .returned (.tuple #[.string (S pl), z1, z2]) ∧ Drawn w w' := fun w hw => by
          rw [← HXD.out i]
          have := Tryz.strings_Cut (S (x.drop i)) (S [38]) m w (by show (x.drop i).toArray.size < _; simp; have := HXL.out; omega) hw
          rw [S_data, S_data, hcutp] at this
          exact ⟨_, _, this⟩
        have hlin : ∀ w, MaxLen m w → Calls Tryz.prog 71 #[.string (S pl)] w fun e w' => e = .returned (.string (S (linesB pl))) ∧ Below w.heap.size w w' := fun w hw => lines_any pl m w hw (by omega)
        have hlnl := linesB_len pl
        have hrepl : ∀ h k c w, Rep w h 0 0 .nilIface (.slice (some ⟨k, 0, none⟩) 4 c) → RepS w k → k ≠ h → Calls Tryz.prog 107 #[.pointer (some ⟨h, 0, none⟩), .string (S (linesB pl))] w fun e w' => e = .returned (.string (S (blanks true (linesB pl)))) ∧ Upd h w w' := fun h k c w h1 h2 h3 => by
          have := replRep_any h k c (linesB pl) w h1 h2 h3 (by omega)
          rw [tabNl_blanks] at this
          exact this
        have hbll := blanks_len v (linesB pl)
        obtain ⟨D, hD⟩ : ∃ D, linesB pl = D := ⟨_, rfl⟩
        rw [hD] at hrun hlin hlnl hrepl hbll
        have hKi : K = i + pl.length := by omega
        have hil2 : i + pl.length ≤ tt := by omega
        have hpl0 : 0 < pl.length := by omega
        subst hKi
        have HCUT := Lib.hid hcut
        have HLIN := Lib.hid hlin
        have HREP := Lib.hid hrepl
        have HRUN := Lib.hid hrun
        have HBLL := Lib.hid hbll
        clear hc hxc hrun hKe hix hpl hplen hcut hlin hcutp hrepl hD hbll hK1 hK2
        have hit' : (i : Int) ≤ tt := by omega
        go_wp2_with fail
        go_quiet (fail)
        go_wp2_with fail
        have hcur2 := HCu.out.drewN nq
        have HBL2 := Lib.hid (HBL.out.upd (drewN_upd b wr nq) hbl)
        have HU2 := Lib.hid (HU.out.trans (drewN_upd b wr nq))
        generalize wr.drewN nq = W1 at *
        clear c0 c1 f1
        have c0 := hcur2.c0
        have c1 := hcur2.c1
        have HC2 := Lib.hid hcur2
        clear hcur2
        obtain ⟨z1, z2, hcut2⟩ := HCUT.out W1.drew (HM.out.upd HC.out HU2.out.drew)
        have HCU2 := Lib.hid hcut2
        clear hcut2
        go_region_held3 (fun x => x.cell? ⟨b, 0, none⟩ = some (.string (S l)) ∧ x.cell? ⟨b, 1, none⟩ = some (.int .i64 i))
          (first | exact ⟨d0, d1⟩ | exact ⟨c0, c1⟩)
          ((go_at_call 100; refine HCU2.out.mono ?_; rintro e W2 ⟨rfl, hdr⟩; have hcur3 := hdr.cur HC2.out.drew; have d0 := hcur3.c0; have d1 := hcur3.c1))
        have HC3 := Lib.hid hcur3
        have HU3 := Lib.hid (HU2.out.drew.trans (hdr.upd b))
        have HBL3 := Lib.hid (HBL2.out.drew.upd (hdr.upd b) hbl)
        clear hcur3 hdr c0 c1 d0 d1 HC2 HU2 HBL2 HCU2 HCUT
        have d1 := HC3.out.c1
        have g1 := HC3.out.free 1
        have HC4 := Lib.hid (HC3.out.move ((i : Int) + pl.length))
        have HU4 := Lib.hid (HU3.out.trans (Upd.set_ b 1 _ (.int .i64 ((i : Int) + pl.length))))
        have HBL4 := Lib.hid (HBL3.out.upd (Upd.set_ b 1 _ (.int .i64 ((i : Int) + pl.length))) hbl)
        have hlen : o.length + D.length ≤ 140737488355328 := by omega
        clear HC3 HU3 HBL3
        go_wp2_with fail
        generalize W2.setCell ⟨b, 1, none⟩ (.int .i64 ((i : Int) + pl.length)) = W3 at *
        clear d1 g1
        refine (HLIN.out W3 (HM.out.upd HC.out HU4.out)).mono ?_
        rintro e W4 ⟨rfl, hb⟩
        have HC5 := Lib.hid (HC4.out.below hb)
        have HU5 := Lib.hid (HU4.out.next hb)
        have HBL5 := Lib.hid (HBL4.out.below hb)
        have hs5 := HU5.out.size
        clear hb
        cases v
        · have hrun := HRUN.out
          rw [blanks_false] at hrun
          have HRU := Lib.hid hrun
          clear hrun
          go_wp2_with fail
          refine (writeString_any w.heap.size w.heap.size o D _ HBL5.out hlen hs5).mono ?_
          rintro e W5 ⟨rfl, hb5, hbel5, _⟩
          have HBL6 := Lib.hid hb5
          have HC6 := Lib.hid (HC5.out.keep (hbel5.block b hbl))
          have HU6 := Lib.hid (HU5.out.more hbel5)
          clear hb5 hbel5
          go_wp2_with fail
          go_roundg (tt - (i + pl.length))
          case measure => rw [HK.out]; omega
          case rel => exact ⟨o ++ D, i + pl.length, by omega, by omega, rfl, by rw [List.length_append]; omega, HRU.out, HBL6.out, by rw [Int.natCast_add]; exact HC6.out, HU6.out⟩
        · have hbll := HBLL.out
          obtain ⟨E, hE⟩ : ∃ E, blanks true D = E := ⟨_, rfl⟩
          have HREP2 := HREP.out
          have HRUN2 := HRUN.out
          rw [hE] at hbll HREP2 HRUN2
          have hlen2 : o.length + E.length ≤ 140737488355328 := by omega
          have hle3 : E.length ≤ pl.length := by omega
          have HREP3 := Lib.hid HREP2
          have HRUN3 := Lib.hid HRUN2
          clear HREP2 HRUN2 hE hbll
          go_wp2_with fail
          refine (newRepl_any W4.heap.size _ (heap_alloc_new W4 _)).mono ?_
          rintro e W5 ⟨h, k, c, rfl, hR, hS, hge, hne, hk, hk2, hb5⟩
          have hge2 : W4.heap.size ≤ h := by simp at hge; omega
          have HCR := Lib.hid (HREP3.out h k c _ hR hS hne)
          have hB1 := ((Below.refl W4.heap.size W4).alloc (Nat.le_refl _) _).trans (hb5.mono (by simp))
          have HB1 := Lib.hid hB1
          clear hR hS hge hk hk2 hb5 hB1
          go_wp2_with fail
          refine HCR.out.mono ?_
          rintro e W6 ⟨rfl, hu6⟩
          have HB2 := Lib.hid (HB1.out.trans (hu6.below hge2 HB1.out.size))
          have HC7 := Lib.hid (HC5.out.below HB2.out)
          have HU7 := Lib.hid (HU5.out.next HB2.out)
          have HBL7 := Lib.hid (HBL5.out.below HB2.out)
          have hs7 := HU7.out.size
          clear hu6
          go_wp2_with fail
          refine (writeString_any w.heap.size w.heap.size o E _ HBL7.out hlen2 hs7).mono ?_
          rintro e W8 ⟨rfl, hb5, hbel5, _⟩
          have HBL8 := Lib.hid hb5
          have HC8 := Lib.hid (HC7.out.keep (hbel5.block b hbl))
          have HU8 := Lib.hid (HU7.out.more hbel5)
          clear hb5 hbel5
          go_wp2_with fail
          go_roundg (tt - (i + pl.length))
          case measure => rw [HK.out]; omega
          case rel => exact ⟨o ++ E, i + pl.length, by omega, by omega, rfl, by rw [List.length_append]; omega, HRUN3.out, HBL8.out, by rw [Int.natCast_add]; exact HC8.out, HU8.out⟩
    · obtain rfl : i = tt := by omega
      have hcc := HCO.out
      rw [← HXL.out] at hcc
      have hend := hcc.end_
      have HE := Lib.hid hend
      have hs3 := hsz
      clear hcc hend
      go_wp2_with fail
      refine (builderString_any w.heap.size w.heap.size o _ HBL.out hs3).mono ?_
      rintro e w2 ⟨rfl, hb2, hbel2, _⟩
      have HC4 := Lib.hid (HCu.out.keep (hbel2.block b hbl))
      have HU4 := Lib.hid (HU.out.more hbel2)
      clear hb2 hbel2
      go_wp2_with fail
      go_ret
      exact ⟨by rw [HE.out]; exact ⟨rfl, HC4.out⟩, HU4.out⟩
end Go.Proofs.YthbfahbjfioghaaGreatDoor
