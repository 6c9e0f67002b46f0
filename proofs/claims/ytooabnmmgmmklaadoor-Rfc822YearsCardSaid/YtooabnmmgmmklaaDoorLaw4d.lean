/-
  Walks of chapter 4's statements: years of two digits, zones.
-/
import Derived.Test.YtooabnmmgmmklaaDoorLaw4e
import Derived.RegionTactic
set_option linter.unusedVariables false
namespace Go.Proofs.YtooabnmmgmmklaaDoor
open Go.RowKit

def yzNames : Array Value := #[.string ⟨#[85, 84]⟩, .string ⟨#[122]⟩, .string ⟨#[69, 115, 116]⟩, .string ⟨#[80, 68, 84]⟩, .string ⟨#[43, 48, 48, 48, 48]⟩, .string ⟨#[45, 48, 53, 48, 48]⟩]
def yzHours : Array Value := #[.int .i64 0, .int .i64 0, .int .i64 (-5), .int .i64 (-7), .int .i64 0, .int .i64 (-5)]
theorem yz_at (k : Nat) (hk : k < 6) : yzNames[k]? = some (.string (S (zoneN.getD k []))) ∧ yzHours[k]? = some (.int .i64 (zoneH.getD k 0)) ∧ (zoneN.getD k []).length ≤ 5 := by
  match k, hk with
  | 0, _ => exact ⟨rfl, rfl, by decide⟩
  | 1, _ => exact ⟨rfl, rfl, by decide⟩
  | 2, _ => exact ⟨rfl, rfl, by decide⟩
  | 3, _ => exact ⟨rfl, rfl, by decide⟩
  | 4, _ => exact ⟨rfl, rfl, by decide⟩
  | 5, _ => exact ⟨rfl, rfl, by decide⟩
theorem twoS4 (a b : UInt8) (W : World) (g : Nat) (h0 : W.cell? ⟨g, 0, none⟩ = some (.int .u8 a.toNat)) (h1 : W.cell? ⟨g, 1, none⟩ = some (.int .u8 b.toNat)) : (convert 38 9 (.slice (some ⟨g, 0, none⟩) 2 2)).run Tryd.prog W = .ok (.string (S [a, b])) W := by
  refine run_bytes_string W ⟨g, 0, none⟩ [a, b] 2 (fun j x hx => ?_)
  have e : (⟨g, 0, none⟩ : Addr).add j = ⟨g, j, none⟩ := by unfold Addr.add; split <;> simp_all
  rw [e]
  match j, hx with
  | 0, hx => simp at hx; subst hx; exact h0
  | 1, hx => simp at hx; subst hx; exact h1
theorem digits2 {Y : Nat} (hY : Y < 100) : ((Y : Int)).tdiv 10 = ((Y / 10 : Nat) : Int) ∧ ((Y : Int)).tmod 10 = ((Y % 10 : Nat) : Int) ∧ IntKind.u8.wrap (48 + ((Y / 10 : Nat) : Int)) = ((dg (Y / 10)).toNat : Int) ∧ IntKind.u8.wrap (48 + ((Y % 10 : Nat) : Int)) = ((dg Y).toNat : Int) := by
  refine ⟨?_, ?_, ?_, ?_⟩
  · rw [Int.tdiv_eq_ediv_of_nonneg (by omega)]; omega
  · rw [Int.tmod_eq_emod_of_nonneg (by omega)]; omega
  · rw [IntKind.wrap_u8, dg_nat]; omega
  · rw [IntKind.wrap_u8, dg_nat]; omega
set_option maxHeartbeats 8000000 in
set_option maxRecDepth 100000 in
theorem law4years_any (yn dn zn : Nat) (hy : yn < 256) (hd : dn < 256) (hz : zn < 256) (w : World) (hT : Tab4 w) :
    Calls Tryd.prog 6 #[.int .u8 yn, .int .u8 dn, .int .u8 zn] w fun e w' => e = .returned (.bool true) ∧ Below w.heap.size w w' := by
  have my : ((yn : Int)).tmod 100 = ((yn % 100 : Nat) : Int) := u8_mod yn 100 (by decide) hy
  have md : ((dn : Int)).tmod 28 = ((dn % 28 : Nat) : Int) := u8_mod dn 28 (by decide) hd
  have mz : ((zn : Int)).tmod 6 = ((zn % 6 : Nat) : Int) := u8_mod zn 6 (by decide) hz
  have by_ : yn % 100 < 100 := Nat.mod_lt _ (by decide)
  have bd : dn % 28 < 28 := Nat.mod_lt _ (by decide)
  have bz : zn % 6 < 6 := Nat.mod_lt _ (by decide)
  generalize yn % 100 = Y at *
  generalize dn % 28 = D at *
  generalize zn % 6 = k at *
  obtain ⟨y1, y2, y3, y4⟩ := digits2 by_
  obtain ⟨d1, d2', d3, d4⟩ := digits2 (show D + 1 < 100 by omega)
  have hps := parse4_years (y := Y) (d := D + 1) (k := k) (by omega) (by omega) by_ bz
  obtain ⟨z1, z2, z3⟩ := yz_at k bz
  obtain ⟨_, _, _, zb1, zb2⟩ := zone_ok ⟨k, bz⟩
  simp only at zb1 zb2
  generalize zoneN.getD k [] = z at *
  generalize zoneH.getD k 0 = hh at *
  have hfull : fullY Y = if 50 ≤ Y then 1900 + Y else 2000 + Y := rfl
  have hsec := fun W => refSeconds_any (fullY Y) 2 (D + 1 : Nat) 12 34 0 W
  rw [secOf_yes (feb_date (by omega) (by omega) by_) (by decide)] at hsec
  rw [show secA (some (dayNo (fullY Y) 2 (D + 1 : Nat) * 86400 + 12 * 3600 + 34 * 60 + 0)) = dayNo (fullY Y) 2 (D + 1 : Nat) * 86400 + 12 * 3600 + 34 * 60 + 0 from rfl, show secE (some (dayNo (fullY Y) 2 (D + 1 : Nat) * 86400 + 12 * 3600 + 34 * 60 + 0)) = 0 from rfl] at hsec
  have hdn := dayNo_in (feb_date (y := Y) (d := D + 1) (by omega) (by omega) by_)
  have hdl : (docY Y (D + 1) z).length ≤ 100 := by unfold docY; simp only [List.length_append, List.length_cons, List.length_nil, d2]; omega
  have P1 := fun (W : World) (hb : Below w.heap.size w W) => parse4_any (docY Y (D + 1) z) W (hT.next hb) (by omega)
  rw [hps] at P1
  have hform : docY Y (D + 1) z = ((([dg ((D + 1) / 10), dg (D + 1)] ++ [32, 70, 101, 98, 32]) ++ [dg (Y / 10), dg Y]) ++ [32, 49, 50, 58, 51, 52, 32]) ++ z := by
    unfold docY d2
    simp only [List.append_assoc]
  generalize docY Y (D + 1) z = R at *
  have A := Lib.hid fun W (hb : Below w.heap.size w W) => alive4_any W (hT.next hb)
  generalize dg ((D + 1) / 10) = a1 at *
  generalize dg (D + 1) = a2 at *
  generalize dg (Y / 10) = b1 at *
  generalize dg Y = b2 at *
  obtain ⟨F, hF⟩ : ∃ F, fullY Y = F := ⟨_, rfl⟩
  rw [hF] at hfull hsec hdn P1
  have hFb : F ≤ 2100 := by rw [hfull]; split <;> omega
  generalize dayNo (F : Int) 2 (D + 1 : Nat) = N at *
  obtain ⟨n1, n2⟩ := hdn
  generalize hTT : N * 86400 + 12 * 3600 + 34 * 60 + 0 = T at *
  have t1 : -100000000000 ≤ T := by omega
  have t2 : T ≤ 400000000000 := by omega
  have hcc : ((D + 1 : Nat) : Int) = (D : Int) + 1 := by omega
  rw [hcc] at hsec d1 d2'
  have SEC : Hid (∀ W, Calls Tryd.prog 14 #[.int .i64 (F : Int), .int .i64 2, .int .i64 ((D : Int) + 1), .int .i64 12, .int .i64 34, .int .i64 0] W fun e w' => e = .returned (.tuple #[.int .i64 T, .int .i64 0]) ∧ Below W.heap.size W w') := fun W => hsec W
  obtain ⟨L1, hL1⟩ : ∃ L, [a1, a2] ++ [32, 70, 101, 98, 32] = L := ⟨_, rfl⟩
  obtain ⟨L2, hL2⟩ : ∃ L, L1 ++ [b1, b2] = L := ⟨_, rfl⟩
  obtain ⟨L3, hL3⟩ : ∃ L, L2 ++ [32, 49, 50, 58, 51, 52, 32] = L := ⟨_, rfl⟩
  rw [hL1, hL2, hL3] at hform
  have k1 : L1.length ≤ 10 := by rw [← hL1]; simp
  have k2 : L2.length ≤ 20 := by rw [← hL2, List.length_append]; simp only [List.length_cons, List.length_nil]; omega
  have k3 : L3.length ≤ 30 := by rw [← hL3, List.length_append]; simp only [List.length_cons, List.length_nil]; omega
  have q1 : ∀ W : World, (Op.stringOp .add (S [a1, a2]) ⟨#[32, 70, 101, 98, 32]⟩).run Tryd.prog W = .ok (.string (S L1)) W := catS4 _ [32, 70, 101, 98, 32] _ hL1.symm (by simp)
  have q2 : ∀ W : World, (Op.stringOp .add (S L1) (S [b1, b2])).run Tryd.prog W = .ok (.string (S L2)) W := catS4 _ _ _ hL2.symm (by simp only [List.length_cons, List.length_nil]; omega)
  have q3 : ∀ W : World, (Op.stringOp .add (S L2) ⟨#[32, 49, 50, 58, 51, 52, 32]⟩).run Tryd.prog W = .ok (.string (S L3)) W := catS4 _ [32, 49, 50, 58, 51, 52, 32] _ hL3.symm (by simp only [List.length_cons, List.length_nil]; omega)
  have q4 : ∀ W : World, (Op.stringOp .add (S L3) (S z)).run Tryd.prog W = .ok (.string (S R)) W := catS4 _ _ _ hform (by omega)
  have cv1 := fun W g => twoS4 a1 a2 W g
  have cv2 := fun W g => twoS4 b1 b2 W g
  have P1 := Lib.hid P1
  have HFU := Lib.hid hfull
  have HZ1 := Lib.hid z1
  have HZ2 := Lib.hid z2
  have hk6 : (k : Int) < 6 := by omega
  clear hps hform hL1 hL2 hL3 k1 k2 k3 hfull hsec hdl hF hcc z1 z2 z3 hTT hT n1 n2 hy hd hz
  have x1 : Y / 10 < 10 := by omega
  have x2 : Y % 10 < 10 := by omega
  have x3 : (D + 1) / 10 < 10 := by omega
  have x4 : (D + 1) % 10 < 10 := by omega
  generalize Y / 10 = y10 at *
  generalize Y % 10 = y01 at *
  generalize (D + 1) / 10 = d10 at *
  generalize (D + 1) % 10 = d01 at *
  rw [IntKind.wrap_u8] at y3 y4 d3 d4
  have y3 : 48 + (y10 : Int) = (b1.toNat : Int) := by omega
  have y4 : 48 + (y01 : Int) = (b2.toNat : Int) := by omega
  have d3 : 48 + (d10 : Int) = (a1.toNat : Int) := by omega
  have d4 : 48 + (d01 : Int) = (a2.toNat : Int) := by omega
  have u1 := u8_lt a1
  have u2 := u8_lt a2
  have u3 := u8_lt b1
  have u4 := u8_lt b2
  go_enter Tryd.func6, Tryd.ntmps6
  by_cases hc : 50 ≤ Y
  · have hfu := HFU.out
    rw [if_pos hc] at hfu
    have hc' : (50 : Int) ≤ (Y : Int) := by omega
    have hfi : (1900 : Int) + (Y : Int) = (F : Int) := by omega
    clear hfu HFU hc
    go_upto_region 10 with fail
    obtain ⟨W2, hW2⟩ : ∃ W2, W2 = ((w.alloc (.cells yzNames 36)).alloc (.cells yzHours 37)).alloc (.cells #[.int .u8 b1.toNat, .int .u8 b2.toNat] 5) := ⟨_, rfl⟩
    have hx0 : W2.heap[w.heap.size]? = some (.cells yzNames 36 (0, 0)) := by rw [hW2]; exact alloc_old (alloc_old (heap_alloc_new w _))
    have hx1 : W2.heap[w.heap.size + 1]? = some (.cells yzHours 37 (0, 0)) := by rw [hW2]; exact alloc_old (alloc_at (by simp))
    have hbw : Below w.heap.size w W2 := by rw [hW2]; exact (((Below.refl _ _).alloc (Nat.le_refl _) _).alloc (by simp) _).alloc (by simp; omega) _
    have hs1 := heap_lt hx1
    have hs0 : w.heap.size < W2.heap.size := by omega
    have hne : w.heap.size ≠ W2.heap.size := by omega
    have c1 : W2.cell? ⟨w.heap.size, k, none⟩ = some (.string (S z)) := by rw [cell_block hx0]; exact HZ1.out
    have X1 := Lib.hid hx1
    have BW := Lib.hid hbw
    unfold yzNames yzHours at hW2
    rw [← hW2]
    clear hW2 hx0 hx1 hbw
    go_region
    go_wp2_with (first
      | (go_at_call 14; refine (SEC.out _).mono ?_; rintro e w3 ⟨rfl, b3⟩; have c3 : Below W2.heap.size W2 w3 := (by first | exact (below_drewN4' ((Below.refl _ W2).alloc (Nat.le_refl _) _) _).trans (b3.mono (by simp)) | exact (((Below.refl _ W2).alloc (Nat.le_refl _) _).drew).trans (b3.mono (by simp)) | exact (((Below.refl _ W2).drew).alloc (by simp) _).trans (b3.mono (by simp))); have e3 := BW.out.trans (c3.mono BW.out.size))
      | (go_at_call 12; (with_reducible refine (P1.out _ e3).mono ?_); rintro e w4 ⟨rfl, b4⟩; have e4 := e3.trans (b4.mono e3.size); have f4 := c3.trans (b4.mono c3.size))
      | (go_at_call 11; refine (A.out _ e4).mono ?_; rintro e w5 ⟨rfl, b5⟩; have e5 := Lib.hid (e4.trans (b5.mono e4.size)); have f5 := f4.trans (b5.mono f4.size); have c5 : w5.cell? ⟨w.heap.size + 1, k, none⟩ = some (.int .i64 hh) := (by rw [cell_block ((f5.block _ hs1).trans X1.out)]; exact HZ2.out)))
    go_ret
    exact ⟨ret_T (by simp), e5.out⟩
  · have hfu := HFU.out
    rw [if_neg hc] at hfu
    have hc' : ¬ (50 : Int) ≤ (Y : Int) := by omega
    have hfi : (2000 : Int) + (Y : Int) = (F : Int) := by omega
    clear hfu HFU hc
    go_upto_region 10 with fail
    obtain ⟨W2, hW2⟩ : ∃ W2, W2 = ((w.alloc (.cells yzNames 36)).alloc (.cells yzHours 37)).alloc (.cells #[.int .u8 b1.toNat, .int .u8 b2.toNat] 5) := ⟨_, rfl⟩
    have hx0 : W2.heap[w.heap.size]? = some (.cells yzNames 36 (0, 0)) := by rw [hW2]; exact alloc_old (alloc_old (heap_alloc_new w _))
    have hx1 : W2.heap[w.heap.size + 1]? = some (.cells yzHours 37 (0, 0)) := by rw [hW2]; exact alloc_old (alloc_at (by simp))
    have hbw : Below w.heap.size w W2 := by rw [hW2]; exact (((Below.refl _ _).alloc (Nat.le_refl _) _).alloc (by simp) _).alloc (by simp; omega) _
    have hs1 := heap_lt hx1
    have hs0 : w.heap.size < W2.heap.size := by omega
    have hne : w.heap.size ≠ W2.heap.size := by omega
    have c1 : W2.cell? ⟨w.heap.size, k, none⟩ = some (.string (S z)) := by rw [cell_block hx0]; exact HZ1.out
    have X1 := Lib.hid hx1
    have BW := Lib.hid hbw
    unfold yzNames yzHours at hW2
    rw [← hW2]
    clear hW2 hx0 hx1 hbw
    go_region
    go_wp2_with (first
      | (go_at_call 14; refine (SEC.out _).mono ?_; rintro e w3 ⟨rfl, b3⟩; have c3 : Below W2.heap.size W2 w3 := (by first | exact (below_drewN4' ((Below.refl _ W2).alloc (Nat.le_refl _) _) _).trans (b3.mono (by simp)) | exact (((Below.refl _ W2).alloc (Nat.le_refl _) _).drew).trans (b3.mono (by simp)) | exact (((Below.refl _ W2).drew).alloc (by simp) _).trans (b3.mono (by simp))); have e3 := BW.out.trans (c3.mono BW.out.size))
      | (go_at_call 12; (with_reducible refine (P1.out _ e3).mono ?_); rintro e w4 ⟨rfl, b4⟩; have e4 := e3.trans (b4.mono e3.size); have f4 := c3.trans (b4.mono c3.size))
      | (go_at_call 11; refine (A.out _ e4).mono ?_; rintro e w5 ⟨rfl, b5⟩; have e5 := Lib.hid (e4.trans (b5.mono e4.size)); have f5 := f4.trans (b5.mono f4.size); have c5 : w5.cell? ⟨w.heap.size + 1, k, none⟩ = some (.int .i64 hh) := (by rw [cell_block ((f5.block _ hs1).trans X1.out)]; exact HZ2.out)))
    go_ret
    exact ⟨ret_T (by simp), e5.out⟩
end Go.Proofs.YtooabnmmgmmklaaDoor
