/-
  Several texts in one file, in build order:
  - Walks of chapter 11, the reference: list, of an object. Made by gen_jr11m.py out of XJr11l.
  - Walks of chapter 11, the reference: Number.
  - Walks of chapter 11, the reference: value.
-/
import Derived.Test.YthlppbpccldikaaGreatDoorH18
import Derived.Test.YthlppbpccldikaaGreatDoorH17
import Derived.Outline
import Derived.Deep.DeepCutAuto
set_option linter.unusedVariables false
namespace Go.Proofs.YthlppbpccldikaaGreatDoor
open Go.RowKit

/-- Where list stands in its loop. -/
structure LoM (l : Bytes) (d a : Nat) (w : World) (K : Except (Nat × Nat) (List JM × Nat)) (gf n : Nat) (its : List JM) (I : Option Addr) (ic : Nat) (wr : World) : Prop where
  kid : pvM l gf d n its = K
  row : ElsP memE wr (fun b => w.heap.size + 2 ≤ b ∧ b < wr.heap.size) (.slice I its.length ic) its
  res : wr.heap[w.heap.size]? = some (.cells zRes 56 (0, 0))
  val : wr.heap[w.heap.size + 1]? = some (.cells (lstC 5 none 0 0 I its.length ic a) 26 (0, 0))
  bel : Below w.heap.size w wr
  len : its.length ≤ n
set_option maxHeartbeats 8000000 in
set_option maxRecDepth 100000 in
theorem refListM11_any (l : Bytes) (hl : l.length ≤ 1000000) (f : Nat) (ih : ∀ g < f, ValOk l g) (d a : Nat) (w : World) (ha : a < l.length) (h91 : l[a] = 123) (hd : d ≤ 100) (hf : 2 * (l.length - spEnd l (a + 1)) + 2 ≤ f) :
    Calls Tryz.prog 55 #[.string (S l), .int .i64 a, .int .i64 d] w fun e w' => ResR w' (fun b => w.heap.size ≤ b ∧ b < w'.heap.size) (listM l f d a) e ∧ Below w.heap.size w w' := by
  have HIH := Lib.hid ih
  have t91 : ((l[a].toNat : Int) == 123) = true := by rw [h91]; rfl
  have HW := Lib.hid fun a W => refWrong11_any l a W hl
  have hs0 : ∀ W, Calls Tryz.prog 25 #[.string (S l), .int .i64 ((a : Int) + 1)] W fun e w' => e = .returned (.int .i64 (spEnd l (a + 1))) ∧ W = w' := fun W => by
    have := refSpaces11_any l (a + 1) W (by omega) (by omega)
    rw [Int.natCast_add] at this
    exact this
  have hz1 := spEnd_ge l (a + 1)
  have hz2 := spEnd_le (l := l) (n := a + 1) (by omega)
  unfold listM
  generalize spEnd l (a + 1) = z at *
  have hh : ∀ W, Calls Tryz.prog 23 #[.string (S l), .int .i64 z, .string ⟨#[125]⟩] W fun e w' => e = .returned (.bool (hasAt l z [125])) ∧ W = w' := fun W => refHas_any l z [125] W (by omega) (by omega) (by simp) (by simp)
  have HS0 := Lib.hid hs0
  have B1 := (Below.refl w.heap.size w).alloc (Nat.le_refl _) (.cells zRes 56)
  have B2 := B1.alloc (by simp) (.cells (lstC 5 none 0 0 none 0 0 a) 26)
  have r0 : ((w.alloc (.cells zRes 56)).alloc (.cells (lstC 5 none 0 0 none 0 0 a) 26)).heap[w.heap.size]? = some (.cells zRes 56 (0, 0)) := alloc_old (heap_alloc_new w _)
  have v0 : ((w.alloc (.cells zRes 56)).alloc (.cells (lstC 5 none 0 0 none 0 0 a) 26)).heap[w.heap.size + 1]? = some (.cells (lstC 5 none 0 0 none 0 0 a) 26 (0, 0)) := alloc_at (by simp)
  have HB2 := Lib.hid B2
  have HR0 := Lib.hid r0
  have HV0 := Lib.hid v0
  clear hs0 ih h91 B1 B2 r0 v0
  cases hc : hasAt l z [125] with
  | true =>
    rw [if_pos rfl]
    rw [hc] at hh
    have HH := Lib.hid hh
    clear hc hh
    go_enter Tryz.func55, Tryz.ntmps55
    go_wp2_with (first
      | (go_at_call 25; refine (HS0.out _).mono ?_; rintro e w2 ⟨rfl, rfl⟩)
      | (go_at_call 23; refine (HH.out _).mono ?_; rintro e w2 ⟨rfl, rfl⟩))
    refine bodyPost_ret (v := .agg _) (res_whole Tryz.results55 _ _ w.heap.size rfl 56 _ (alloc_old (heap_alloc_new w _)) Tryz.underlying56 rfl resSize) rfl ⟨⟨none, 0, none, 0, ?_, ElsP.nil _ _ _, ElsP.nil _ _ _⟩, ?_⟩
    · show _ = Ending.returned (.agg #[.int .i64 5, .bool false, .int .i64 0, .string (S []), .slice none 0 0, .slice none 0 0, .int .i64 a, .int .i64 ((z + 1 : Nat) : Int), .int .i64 0])
      rw [Int.natCast_add]
      rfl
    · exact ((Below.refl w.heap.size w).alloc (Nat.le_refl _) _).alloc (by simp) _
  | false =>
    rw [if_neg (by decide)]
    rw [hc] at hh
    have HH := Lib.hid hh
    clear hc hh
    obtain ⟨K, hK⟩ : ∃ K, pvM l f d z [] = K := ⟨_, rfl⟩
    rw [hK]
    have HL := Lib.hid (⟨hK, ElsP.nil _ _ _, HR0.out, HV0.out, HB2.out, Nat.zero_le _⟩ : LoM l d a w K f z [] none 0 _)
    clear hK
    go_enter Tryz.func55, Tryz.ntmps55
    go_wp2_with (first
      | (go_at_call 25; refine (HS0.out _).mono ?_; rintro e w2 ⟨rfl, rfl⟩)
      | (go_at_call 23; refine (HH.out _).mono ?_; rintro e w2 ⟨rfl, rfl⟩))
    go_loopg [9] f (fun gf n9 wr => ∃ (n : Nat) (its : List JM) (I : Option Addr) (ic : Nat), n ≤ l.length ∧ n9 = .int .i64 n ∧ gf ≤ f ∧ 2 * (l.length - n) + 2 ≤ gf ∧ LoM l d a w K gf n its I ic wr)
    case atStart => exact ⟨z, [], none, 0, by omega, rfl, Nat.le_refl _, hf, HL.out⟩
    case round =>
      obtain ⟨n, its, I, ic, hnl, rfl, hgk, hgk2, hlo⟩ := hrel
      have HLO := Lib.hid hlo
      have hkid := hlo.kid
      obtain ⟨g', rfl⟩ : ∃ g, gk = g + 1 := ⟨gk - 1, by omega⟩
      rw [pvM] at hkid
      have hwz : w.heap.size + 1 < wr.heap.size := heap_lt hlo.val
      have hy1 := spEnd_ge l n
      have hy2 := spEnd_le (l := l) (n := n) hnl
      have hsn := fun W => refSpaces11_any l n W (by omega) hnl
      generalize spEnd l n = y at *
      obtain ⟨v0, v1, v2, v3, v4, v5, v6⟩ := cells7 hlo.val
      have HSN := Lib.hid hsn
      clear hsn HL HH HB2 HR0 HV0 HS0
      have hits := hlo.len
      have hrv := range_of_heap (cs := [.int .i64 5, .bool false, .int .i64 0, .string ByteArray.empty, .slice none 0 0, .slice I its.length ic, .int .i64 a]) hlo.val
      have HRV := Lib.hid hrv
      have hky := refKey11_any l y its 5 false 0 ByteArray.empty none I 0 0 ic a _ wr hl hy2 (by omega) hlo.row (fun k hk => hk.2)
      clear hrv
      cases hke : keyAt l y its with
      | error q =>
        have hq := (keyAt_err hy2 hke).2
        rw [hke] at hky hkid
        simp only at hkid
        have HKY := Lib.hid hky
        have HK := Lib.hid hkid
        have t0 : ((q.2 : Int) != 0) = true := by rw [bne_iff_ne]; omega
        clear hq hky hkid hke hlo
        go_wp2_with (first
          | (go_at_call 25; refine (HSN.out _).mono ?_; rintro e w2 ⟨rfl, rfl⟩)
          | (with_reducible refine gate ?_; refine wp_load_val rfl _ rfl (w.heap.size + 1) 0 rfl _ rfl HRV.out ?_)
          | (go_at_call 80; refine HKY.out.mono ?_; rintro e1 w1 ⟨rfl, hb1⟩; simp only [strT]; have hb3 := HLO.out.bel.trans (hb1.mono (by omega)); have hres3 := (hb1.block w.heap.size (by omega)).trans HLO.out.res)
          | (with_reducible refine gate ?_; refine wp_store_res rfl _ _ rfl w.heap.size _ _ _ _ _ _ _ _ _ _ _ _ _ _ rfl rfl hres3 zRes_size ?_; intro w3 hx3 hu3))
        refine bodyPost_ret (v := .agg _) (res_whole Tryz.results55 _ _ w.heap.size rfl 56 _ hx3 Tryz.underlying56 rfl resSize) rfl ⟨?_, ?_⟩
        · rw [← HK.out]; rfl
        · exact hb3.trans (hu3.below (Nat.le_refl _) (by have := hb1.size; omega))
      | ok ka =>
      obtain ⟨ky, a2⟩ := ka
      have hko := keyAt_ok hke
      rw [hke] at hky hkid
      simp only at hkid
      have HKY := Lib.hid hky
      have hcall := fun (W : World) => HIH.out g' (by omega) (d + 1) a2 W hko.2.1 (by omega) (by omega)
      simp only [Int.natCast_add] at hcall
      have hkl := hko.2.2.1
      clear hky hke
      cases hpv : pvV l g' (d + 1) a2 with
      | error q =>
        have hq := (pvV_err hko.2.1 (by omega) hpv).2
        rw [hpv] at hcall hkid
        simp only at hkid
        have HC := Lib.hid hcall
        have HK := Lib.hid hkid
        have t0 : ((q.2 : Int) != 0) = true := by rw [bne_iff_ne]; omega
        clear hq hcall hkid hpv hlo
        go_wp2_with (first
          | (go_at_call 25; refine (HSN.out _).mono ?_; rintro e w2 ⟨rfl, rfl⟩)
          | (with_reducible refine gate ?_; refine wp_load_val rfl _ rfl (w.heap.size + 1) 0 rfl _ rfl HRV.out ?_)
          | (go_at_call 80; refine HKY.out.mono ?_; rintro e1 w1 ⟨rfl, hb1⟩; simp only [strT]; have hv1 := hb1.size; have hval1 := (hb1.block (w.heap.size + 1) (by omega)).trans HLO.out.val; obtain ⟨j0, _⟩ := cells7 hval1; have hres1 := (hb1.block w.heap.size (by omega)).trans HLO.out.res)
          | (go_at_call 24; refine (HC.out _).mono ?_; rintro e w2 ⟨rfl, hb2⟩; have hx2 := heap_alloc_new w2 (.cells (errC q) 56); obtain ⟨_, _, _, _, _, _, _, c7, c8⟩ := cells9 hx2; have hb3 := (HLO.out.bel.trans (hb1.mono (by omega))).trans (hb2.mono (by omega)); have hv2 := hb2.size; have hres3 := ((hb2.alloc hv2 (.cells (errC q) 56)).block w.heap.size (by omega)).trans hres1; have hra := range_of_heap (cs := [.int .i64 0, .bool false, .int .i64 0, .string ByteArray.empty, .slice none 0 0, .slice none 0 0, .int .i64 0, .int .i64 q.1, .int .i64 q.2]) hx2)
          | (with_reducible refine gate ?_; refine wp_load_res rfl _ rfl w2.heap.size 0 rfl _ rfl hra ?_)
          | (with_reducible refine gate ?_; refine wp_store_res rfl _ _ rfl w.heap.size _ _ _ _ _ _ _ _ _ _ _ _ _ _ rfl rfl hres3 zRes_size ?_; intro w3 hx3 hu3))
        refine bodyPost_ret (v := .agg _) (res_whole Tryz.results55 _ _ w.heap.size rfl 56 _ hx3 Tryz.underlying56 rfl resSize) rfl ⟨?_, ?_⟩
        · rw [← HK.out]; rfl
        · exact (hb3.alloc (by omega) _).trans (hu3.below (Nat.le_refl _) (by simp; omega))
      | ok p =>
        obtain ⟨v, e⟩ := p
        have hve := pvV_ok hko.2.1 hpv
        have hna : n < e := by omega
        rw [hpv] at hcall hkid
        simp only at hkid
        have hse := fun W => refSpaces11_any l e W (by omega) hve.2
        have hz3 := spEnd_ge l e
        have hz4 := spEnd_le (l := l) (n := e) hve.2
        obtain ⟨x, hx⟩ : ∃ x, spEnd l e = x := ⟨_, rfl⟩
        rw [hx] at hse hz3 hz4 hkid
        have hhA : ∀ W, Calls Tryz.prog 23 #[.string (S l), .int .i64 x, .string ⟨#[125]⟩] W fun e w' => e = .returned (.bool (hasAt l x [125])) ∧ W = w' := fun W => refHas_any l x [125] W (by omega) (by omega) (by simp) (by simp)
        have hhC : ∀ W, Calls Tryz.prog 23 #[.string (S l), .int .i64 x, .string ⟨#[44]⟩] W fun e w' => e = .returned (.bool (hasAt l x [44])) ∧ W = w' := fun W => refHas_any l x [44] W (by omega) (by omega) (by simp) (by simp)
        have hks9 : its.length < 1000000000 := by omega
        have HC := Lib.hid hcall
        have HKD := Lib.hid hkid
        have HSE := Lib.hid hse
        have HHA := Lib.hid hhA
        have HHC := Lib.hid hhC
        clear hcall hkid hpv hx hse hhA hhC hlo
        go_wp2_with (first
          | (go_at_call 25; refine (HSN.out _).mono ?_; rintro e1 w2 ⟨rfl, rfl⟩)
          | (with_reducible refine gate ?_; refine wp_load_val rfl _ rfl (w.heap.size + 1) 0 rfl _ rfl HRV.out ?_)
          | (go_at_call 80; refine HKY.out.mono ?_; rintro e1 w1 ⟨rfl, hb1⟩; simp only [strT]; have hv1 := hb1.size; have hval1 := (hb1.block (w.heap.size + 1) (by omega)).trans HLO.out.val; obtain ⟨j0, _⟩ := cells7 hval1; have hres1 := (hb1.block w.heap.size (by omega)).trans HLO.out.res)
          | (go_at_call 24; refine (HC.out _).mono ?_; rintro e1 w2 ⟨⟨IA, ic', MA, mc', rfl, hI', hM'⟩, hb2⟩; have hx2 := heap_alloc_new w2 (.cells #[.int .i64 v.kind, .bool v.b, .int .i64 v.n, .string (S v.s), .slice IA v.items.length ic', .slice MA v.mems.length mc', .int .i64 v.pos, .int .i64 e, .int .i64 0] 56); obtain ⟨_, _, _, _, _, _, _, c7, c8⟩ := cells9 hx2; have hv2 := hb2.size; have hval3 := ((hb2.alloc hv2 (.cells #[.int .i64 v.kind, .bool v.b, .int .i64 v.n, .string (S v.s), .slice IA v.items.length ic', .slice MA v.mems.length mc', .int .i64 v.pos, .int .i64 e, .int .i64 0] 56)).block (w.heap.size + 1) (by omega)).trans hval1; obtain ⟨k0, _⟩ := cells7 hval3))
        have hal : Below w2.heap.size w2 (w2.alloc (.cells #[.int .i64 v.kind, .bool v.b, .int .i64 v.n, .string (S v.s), .slice IA v.items.length ic', .slice MA v.mems.length mc', .int .i64 v.pos, .int .i64 e, .int .i64 0] 56)) := (Below.refl _ _).alloc (Nat.le_refl _) _
        have hbel : Below w.heap.size w (w2.alloc (.cells #[.int .i64 v.kind, .bool v.b, .int .i64 v.n, .string (S v.s), .slice IA v.items.length ic', .slice MA v.mems.length mc', .int .i64 v.pos, .int .i64 e, .int .i64 0] 56)) := ((HLO.out.bel.trans (hb1.mono (by omega))).trans (hb2.mono (by omega))).alloc (by have := HLO.out.bel.size; omega) _
        have hres3 := ((hb2.alloc hv2 (.cells #[.int .i64 v.kind, .bool v.b, .int .i64 v.n, .string (S v.s), .slice IA v.items.length ic', .slice MA v.mems.length mc', .int .i64 v.pos, .int .i64 e, .int .i64 0] 56)).block w.heap.size (by omega)).trans hres1
        have hV : (w2.alloc (.cells #[.int .i64 v.kind, .bool v.b, .int .i64 v.n, .string (S v.s), .slice IA v.items.length ic', .slice MA v.mems.length mc', .int .i64 v.pos, .int .i64 e, .int .i64 0] 56)).heap.size = w2.heap.size + 1 := by simp
        have hrow7 : ElsP memE (w2.alloc (.cells #[.int .i64 v.kind, .bool v.b, .int .i64 v.n, .string (S v.s), .slice IA v.items.length ic', .slice MA v.mems.length mc', .int .i64 v.pos, .int .i64 e, .int .i64 0] 56)) (fun b => w.heap.size + 2 ≤ b ∧ b < w2.heap.size) (.slice I its.length ic) its := HLO.out.row.keep memE_ok (fun k hk => ((hb2.alloc hv2 (.cells #[.int .i64 v.kind, .bool v.b, .int .i64 v.n, .string (S v.s), .slice IA v.items.length ic', .slice MA v.mems.length mc', .int .i64 v.pos, .int .i64 e, .int .i64 0] 56)).block k (by omega)).trans (hb1.block k hk.2)) (fun k hk => ⟨hk.1, by omega⟩)
        have hvP : ValP (w2.alloc (.cells #[.int .i64 v.kind, .bool v.b, .int .i64 v.n, .string (S v.s), .slice IA v.items.length ic', .slice MA v.mems.length mc', .int .i64 v.pos, .int .i64 e, .int .i64 0] 56)) (fun b => w.heap.size + 2 ≤ b ∧ b < w2.heap.size) v [.int .i64 v.kind, .bool v.b, .int .i64 v.n, .string (S v.s), .slice IA v.items.length ic', .slice MA v.mems.length mc', .int .i64 v.pos] := ValP.of_open (hI'.keep valE_ok (fun k hk => hal.block k hk.2) (fun k hk => ⟨by omega, hk.2⟩)) (hM'.keep memE_ok (fun k hk => hal.block k hk.2) (fun k hk => ⟨by omega, hk.2⟩))
        clear k0 c7 c8 hal hI' hM' hb2 hb1 hval1 hres1 j0 v0 v1 v2 v3 v4 v5 v6
        generalize (w2.alloc (.cells #[.int .i64 v.kind, .bool v.b, .int .i64 v.n, .string (S v.s), .slice IA v.items.length ic', .slice MA v.mems.length mc', .int .i64 v.pos, .int .i64 e, .int .i64 0] 56)) = V7 at *
        generalize w2.heap.size = kb at *
        have g1 : w.heap.size + 1 < V7.heap.size := by omega
        have g2 : kb < V7.heap.size := by omega
        have g3 : w.heap.size + 1 < kb := by omega
        have HCL : Hid (∀ W, Below V7.heap.size V7 W → ElsP memE W (fun b => w.heap.size + 2 ≤ b ∧ b < kb) (.slice I its.length ic) its ∧ MemP W (fun b => w.heap.size + 2 ≤ b ∧ b < kb) (.mk ky v y) [.string (S ky), .int .i64 v.kind, .bool v.b, .int .i64 v.n, .string (S v.s), .slice IA v.items.length ic', .slice MA v.mems.length mc', .int .i64 v.pos, .int .i64 y] ∧ W.heap[w.heap.size + 1]? = some (.cells (lstC 5 none 0 0 I its.length ic a) 26 (0, 0)) ∧ W.heap[kb]? = some (.cells #[.int .i64 v.kind, .bool v.b, .int .i64 v.n, .string (S v.s), .slice IA v.items.length ic', .slice MA v.mems.length mc', .int .i64 v.pos, .int .i64 e, .int .i64 0] 56 (0, 0))) :=
          fun W hW => ⟨hrow7.keep memE_ok (fun k hk => hW.block k (by omega)) (fun _ h => h), ⟨_, ValP.keep (fun b hb => hW.block b (by omega)) (fun _ h => h) v _ hvP, rfl⟩, (hW.block _ g1).trans hval3, (hW.block _ g2).trans hx2⟩
        have HPLT : Hid (∀ b, (fun b => w.heap.size + 2 ≤ b ∧ b < kb) b → b < V7.heap.size) := fun b hb => by omega
        have HV := Lib.hid hV
        have HBEL := Lib.hid hbel
        have HRES := Lib.hid hres3
        clear hrow7 hvP hval3 hx2 hV HC HLO hbel hres3 hv2
        obtain ⟨B7, hB7⟩ : ∃ B, B = V7.heap.size := ⟨_, rfl⟩
        rw [← hB7] at HCL HPLT
        have HB7 := Lib.hid hB7
        have hz7 : B7 ≤ V7.heap.size := by omega
        have hz8 : V7.heap.size ≤ B7 := by omega
        clear hB7
        refine regT_start (n := 12) (S := fun x => Below B7 V7 x) (by kernel_rfl) (by decide) ((Below.refl _ _).drew) (fun hSw => ?_)
        change RegT _ _ _ _ _ 13 #[false, false, false, false, false, false, false, false, false, false, false, false, false] _ _
        refine regT_take (i := 1) (oi := ⟨some 66, _, _, _, _, _⟩) (v := ?_) rfl (by kernel_rfl) (by kernel_rfl) (by kernel_rfl) (by kernel_rfl) (fun _ _ _ h => h) (Or.inl ⟨by rfl, ?_⟩) (by assumption) ?_
        rotate_left
        · intro x hx
          (go_simp; try with_reducible rfl)
        simp only [Act.put, List.setIfInBounds_toArray, List.set_cons_zero, List.set_cons_succ]
        change RegT _ _ _ _ _ 12 #[false, true, false, false, false, false, false, false, false, false, false, false, false] _ _
        refine regT_take (i := 2) (oi := ⟨some 67, _, _, _, _, _⟩) (v := ?_) rfl (by kernel_rfl) (by kernel_rfl) (by kernel_rfl) (by kernel_rfl) (fun _ _ _ h => h) (Or.inl ⟨by rfl, ?_⟩) (by assumption) ?_
        rotate_left
        · intro x hx
          have hx4 : x.cell? ⟨w.heap.size + 1, 5, none⟩ = some (.slice I its.length ic) := by rw [Lib.cell_of_heap (HCL.out x hx).2.2.1]; rfl
          (go_simp; try with_reducible rfl)
        simp only [Act.put, List.setIfInBounds_toArray, List.set_cons_zero, List.set_cons_succ]
        change RegT _ _ _ _ _ 11 #[false, true, true, false, false, false, false, false, false, false, false, false, false] _ _
        refine regT_take (i := 4) (oi := ⟨some 69, _, _, _, _, _⟩) (v := ?_) rfl (by kernel_rfl) (by kernel_rfl) (by kernel_rfl) (by kernel_rfl) (fun _ _ _ h => h) (Or.inl ⟨by rfl, ?_⟩) (by assumption) ?_
        rotate_left
        · intro x hx
          (go_simp; try with_reducible rfl)
        simp only [Act.put, List.setIfInBounds_toArray, List.set_cons_zero, List.set_cons_succ]
        change RegT _ _ _ _ _ 10 #[false, true, true, false, true, false, false, false, false, false, false, false, false] _ _
        refine regT_take (i := 5) (oi := ⟨some 70, _, _, _, _, _⟩) (v := ?_) rfl (by kernel_rfl) (by kernel_rfl) (by kernel_rfl) (by kernel_rfl) (fun _ _ _ h => h) (Or.inl ⟨by rfl, ?_⟩) (by assumption) ?_
        rotate_left
        · intro x hx
          (go_simp; try with_reducible rfl)
        simp only [Act.put, List.setIfInBounds_toArray, List.set_cons_zero, List.set_cons_succ]
        change RegT _ _ _ _ _ 9 #[false, true, true, false, true, true, false, false, false, false, false, false, false] _ _
        refine regT_take (i := 6) (oi := ⟨some 71, _, _, _, _, _⟩) (v := ?_) rfl (by kernel_rfl) (by kernel_rfl) (by kernel_rfl) (by kernel_rfl) (fun _ _ _ h => h) (Or.inl ⟨by rfl, ?_⟩) (by assumption) ?_
        rotate_left
        · intro x hx
          obtain ⟨c0, c1, c2, c3, c4, c5, c6, _, _⟩ := cells9 (HCL.out x hx).2.2.2
          (go_simp; try with_reducible rfl)
        simp only [Act.put, List.setIfInBounds_toArray, List.set_cons_zero, List.set_cons_succ]
        change RegT _ _ _ _ _ 8 #[false, true, true, false, true, true, true, false, false, false, false, false, false] _ _
        refine regT_take (i := 7) (oi := ⟨some 72, _, _, _, _, _⟩) (v := ?_) rfl (by kernel_rfl) (by kernel_rfl) (by kernel_rfl) (by kernel_rfl) (fun _ _ _ h => h) (Or.inl ⟨by rfl, ?_⟩) (by assumption) ?_
        rotate_left
        · intro x hx
          (go_simp; try with_reducible rfl)
        simp only [Act.put, List.setIfInBounds_toArray, List.set_cons_zero, List.set_cons_succ]
        change RegT _ _ _ _ _ 7 #[false, true, true, false, true, true, true, true, false, false, false, false, false] _ _
        refine regT_take (i := 8) (oi := ⟨some 73, _, _, _, _, _⟩) (v := ?_) rfl (by kernel_rfl) (by kernel_rfl) (by kernel_rfl) (by kernel_rfl) (fun _ _ _ h => h) (Or.inl ⟨by rfl, ?_⟩) (by assumption) ?_
        rotate_left
        · intro x hx
          (go_simp; try with_reducible rfl)
        simp only [Act.put, List.setIfInBounds_toArray, List.set_cons_zero, List.set_cons_succ]
        change RegT _ _ _ _ _ 6 #[false, true, true, false, true, true, true, true, true, false, false, false, false] _ _
        refine region_appM (n := 12) 0 3 9 10 11 rfl rfl rfl rfl rfl rfl (by kernel_rfl) (by decide) (by kernel_rfl) (by kernel_rfl) (by kernel_rfl) (by kernel_rfl) (by kernel_rfl) (by kernel_rfl) (by kernel_rfl) (by kernel_rfl) (by kernel_rfl) (w.heap.size + 2) (fun b => w.heap.size + 2 ≤ b ∧ b < kb) I ic its (.mk ky v y) _ _ _ _ _ _ _ _ _ (w.heap.size + 1) (by rfl) (by rfl) (by rfl) hSw HB7.out (by omega) hks9 HPLT.out (fun W hW => ⟨(HCL.out W hW).1, (HCL.out W hW).2.1, (Lib.cell_of_heap (HCL.out W hW).2.2.1 5).trans rfl, Lib.frozen_of_heap (HCL.out W hW).2.2.1 5⟩) (fun eb kb2 u1 h' c' w8 hg8 z1 s2 => ?_)
        simp only [Act.put, List.setIfInBounds_toArray, List.set_cons_zero, List.set_cons_succ]
        have hsz8 := s2.size
        have hlt8 := z1.lt h' rfl
        obtain ⟨hr8, hv8, hval8, hbox8⟩ := HCL.out _ s2
        have hset : ∀ b, b ≠ w.heap.size + 1 → (w8.setCell ⟨w.heap.size + 1, 5, none⟩ (.slice (some ⟨h', 0, none⟩) (its.length + 1) c')).heap[b]? = w8.heap[b]? := fun b hb => Below.heap_setCell _ _ _ _ hb
        have hss : (w8.setCell ⟨w.heap.size + 1, 5, none⟩ (.slice (some ⟨h', 0, none⟩) (its.length + 1) c')).heap.size = w8.heap.size := by simp [World.setCell]
        have hval9 := heap_set (i := 5) hval8 (.slice (some ⟨h', 0, none⟩) (its.length + 1) c')
        have hbox9 := (hset kb (by omega)).trans hbox8
        have hres9 := (hset w.heap.size (by omega)).trans ((s2.block w.heap.size (by omega)).trans HRES.out)
        have hlen9 : (its ++ [JM.mk ky v y]).length = its.length + 1 := by simp
        have hrow9 : ElsP memE (w8.setCell ⟨w.heap.size + 1, 5, none⟩ (.slice (some ⟨h', 0, none⟩) (its.length + 1) c')) (fun b => w.heap.size + 2 ≤ b ∧ b < (w8.setCell ⟨w.heap.size + 1, 5, none⟩ (.slice (some ⟨h', 0, none⟩) (its.length + 1) c')).heap.size) (.slice (some ⟨h', 0, none⟩) (its.length + 1) c') (its ++ [JM.mk ky v y]) :=
          (z1.elsP memE_ok (p' := fun b => w.heap.size + 2 ≤ b ∧ b < w8.heap.size) (fun k hk => ⟨hk.1, by omega⟩) (fun k hk => ⟨by have := z1.lt k hk; omega, by have := z1.lt k hk; omega⟩)).keep memE_ok (fun k hk => hset k (by omega)) (fun k hk => ⟨hk.1, by omega⟩)
        have hbel9 : Below w.heap.size w (w8.setCell ⟨w.heap.size + 1, 5, none⟩ (.slice (some ⟨h', 0, none⟩) (its.length + 1) c')) :=
          ⟨s2.os.trans HBEL.out.os, s2.tape.trans HBEL.out.tape, s2.output.trans HBEL.out.output, by have := HBEL.out.size; omega, fun b hb => (hset b (by omega)).trans ((s2.block b (by omega)).trans (HBEL.out.block b hb))⟩
        clear hr8 hv8 hval8 hbox8 hset z1 s2 HCL HPLT HBEL HRES hlt8
        generalize (w8.setCell ⟨w.heap.size + 1, 5, none⟩ (.slice (some ⟨h', 0, none⟩) (its.length + 1) c')) = W9 at *
        have hz9 : w.heap.size + 1 < W9.heap.size := heap_lt hval9
        have hval9' : W9.heap[w.heap.size + 1]? = some (.cells (lstC 5 none 0 0 (some ⟨h', 0, none⟩) (its.length + 1) c' a) 26 (0, 0)) := hval9
        obtain ⟨k0, _⟩ := cells7 hval9'
        obtain ⟨_, _, _, _, _, _, _, b7, b8⟩ := cells9 hbox9
        have HROW := Lib.hid hrow9
        have HBEL := Lib.hid hbel9
        have HRES := Lib.hid hres9
        have HVAL := Lib.hid hval9'
        clear hrow9 hbel9 hres9 hval9 hval9' hbox9 hss
        cases hA : hasAt l x [125] with
        | true =>
          have hkd := HKD.out
          have hha := HHA.out
          rw [hA, if_pos rfl] at hkd
          rw [hA] at hha
          have HKE := Lib.hid hkd
          have HA := Lib.hid hha
          have hra := range_of_heap (cs := [.int .i64 5, .bool false, .int .i64 0, .string ByteArray.empty, .slice none 0 0, .slice (some ⟨h', 0, none⟩) (its.length + 1) c', .int .i64 a]) HVAL.out
          have HRA := Lib.hid hra
          clear hkd hha hA hra HKD HHA HHC hlen9
          go_wp2_with (first
            | (go_at_call 25; refine (HSE.out _).mono ?_; rintro e1 w2 ⟨rfl, rfl⟩)
            | (go_at_call 23; refine (HA.out _).mono ?_; rintro e1 w2 ⟨rfl, rfl⟩)
            | (with_reducible refine gate ?_; refine wp_load_val rfl _ rfl (w.heap.size + 1) 0 rfl _ rfl HRA.out ?_)
            | (with_reducible refine gate ?_; refine wp_store_res rfl _ _ rfl w.heap.size _ _ _ _ _ _ _ _ _ _ _ _ _ _ rfl rfl HRES.out zRes_size ?_; intro w3 hx3 hu3))
          refine bodyPost_ret (v := .agg _) (res_whole Tryz.results55 _ _ w.heap.size rfl 56 _ hx3 Tryz.underlying56 rfl resSize) rfl ⟨?_, ?_⟩
          · rw [← HKE.out]
            refine ⟨none, 0, some ⟨h', 0, none⟩, c', ?_, ElsP.nil _ _ _, ?_⟩
            · show _ = Ending.returned (.agg #[.int .i64 5, .bool false, .int .i64 0, .string (S []), .slice none 0 0, .slice (some ⟨h', 0, none⟩) (its ++ [JM.mk ky v y]).length c', .int .i64 a, .int .i64 ((x + 1 : Nat) : Int), .int .i64 0])
              rw [Int.natCast_add, show (its ++ [JM.mk ky v y]).length = its.length + 1 by simp]
              rfl
            · show ElsP memE w3 _ (.slice (some ⟨h', 0, none⟩) (its ++ [JM.mk ky v y]).length c') (its ++ [JM.mk ky v y])
              rw [show (its ++ [JM.mk ky v y]).length = its.length + 1 by simp]
              exact HROW.out.keep memE_ok (fun k hk => hu3.block k hk.2 (by omega)) (fun k hk => ⟨by omega, by have := hu3.size; omega⟩)
          · exact HBEL.out.trans (hu3.below (Nat.le_refl _) (by omega))
        | false =>
          have hkd := HKD.out
          have hha := HHA.out
          rw [hA, if_neg (by decide)] at hkd
          rw [hA] at hha
          cases hC : hasAt l x [44] with
          | true =>
            have hhc := HHC.out
            rw [hC, if_pos rfl] at hkd
            rw [hC] at hhc
            have hxl : x < l.length := hasAt_in hC
            have HKE := Lib.hid hkd
            have HA := Lib.hid hha
            have HC2 := Lib.hid hhc
            clear hkd hha hhc hA hC HKD HHA HHC
            go_wp2_with (first
              | (go_at_call 25; refine (HSE.out _).mono ?_; rintro e1 w2 ⟨rfl, rfl⟩)
              | (go_at_call 23; (with_reducible refine (HA.out _).mono ?_); rintro e1 w2 ⟨rfl, rfl⟩)
              | (go_at_call 23; (with_reducible refine (HC2.out _).mono ?_); rintro e1 w2 ⟨rfl, rfl⟩))
            go_roundg g'
            case measure => omega
            case rel =>
              refine ⟨x + 1, its ++ [JM.mk ky v y], some ⟨h', 0, none⟩, c', by omega, by go_num, by omega, by omega, HKE.out, ?_, HRES.out, ?_, HBEL.out, by omega⟩
              · rw [hlen9]; exact HROW.out
              · rw [hlen9]; exact HVAL.out
          | false =>
            have hhc := HHC.out
            rw [hC, if_neg (by decide)] at hkd
            rw [hC] at hhc
            have HKE := Lib.hid hkd
            have HA := Lib.hid hha
            have HC2 := Lib.hid hhc
            have HWx := Lib.hid fun W => HW.out x W
            generalize wrongJ l x = wq at *
            clear hkd hha hhc hA hC HKD HHA HHC hlen9
            go_wp2_with (first
              | (go_at_call 25; refine (HSE.out _).mono ?_; rintro e1 w2 ⟨rfl, rfl⟩)
              | (go_at_call 23; (with_reducible refine (HA.out _).mono ?_); rintro e1 w2 ⟨rfl, rfl⟩)
              | (go_at_call 23; (with_reducible refine (HC2.out _).mono ?_); rintro e1 w2 ⟨rfl, rfl⟩)
              | (go_at_call 52; refine (HWx.out _).mono ?_; rintro e1 w2 ⟨rfl, hb2⟩; have hres2 := (hb2.block w.heap.size (by omega)).trans HRES.out)
              | (with_reducible refine gate ?_; refine wp_store_res rfl _ _ rfl w.heap.size _ _ _ _ _ _ _ _ _ _ _ _ _ _ rfl rfl hres2 zRes_size ?_; intro w3 hx3 hu3))
            refine bodyPost_ret (v := .agg _) (res_whole Tryz.results55 _ _ w.heap.size rfl 56 _ hx3 Tryz.underlying56 rfl resSize) rfl ⟨?_, ?_⟩
            · rw [← HKE.out]; rfl
            · exact (HBEL.out.trans (hb2.mono (by omega))).trans (hu3.below (Nat.le_refl _) (by have := hb2.size; omega))
end Go.Proofs.YthlppbpccldikaaGreatDoor
set_option linter.unusedVariables false
namespace Go.Proofs.YthlppbpccldikaaGreatDoor
open Go.RowKit

/-- What Number hands back. -/
def NumRes (l : Bytes) (e : Ending) : Prop := ∃ x : Int, e = .returned (.tuple #[.int .i64 x, .bool (numJ l).isSome]) ∧ ∀ v, numJ l = some v → x = v
theorem numJ_form (l : Bytes) : numJ l = if magJ l ≠ [] ∧ (magJ l).length ≤ 19 ∧ (magJ l).all isDg = true ∧ ¬ (1 < (magJ l).length ∧ (magJ l).head? = some 48) ∧ (if l.head? = some 45 then dvalJ (magJ l) ≤ 9223372036854775808 else dvalJ (magJ l) < 9223372036854775808) then some (if l.head? = some 45 then -(dvalJ (magJ l) : Int) else (dvalJ (magJ l) : Int)) else none := by
  unfold numJ magJ
  by_cases h : l.head? = some 45
  · simp only [if_pos h]
  · simp only [if_neg h]
theorem numRes_no {l : Bytes} (h : magJ l = [] ∨ 19 < (magJ l).length ∨ (magJ l).all isDg = false ∨ (1 < (magJ l).length ∧ (magJ l).head? = some 48)) : NumRes l (.returned (.tuple #[.int .i64 0, .bool false])) := by
  have hn : numJ l = none := by
    rw [numJ_form, if_neg]
    rintro ⟨h1, h2, h3, h4, _⟩
    rcases h with h | h | h | h
    · exact h1 h
    · omega
    · rw [h3] at h; cases h
    · exact h4 h
  exact ⟨0, by rw [hn]; rfl, fun v hv => by rw [hn] at hv; cases hv⟩
theorem numRes_neg {l : Bytes} {x : Int} (h0 : l.head? = some 45) (h1 : magJ l ≠ []) (h2 : (magJ l).length ≤ 19) (h3 : (magJ l).all isDg = true) (h4 : ¬ (1 < (magJ l).length ∧ (magJ l).head? = some 48)) (hx : dvalJ (magJ l) ≤ 9223372036854775808 → x = -(dvalJ (magJ l) : Int)) :
    NumRes l (.returned (.tuple #[.int .i64 x, .bool (decide (dvalJ (magJ l) ≤ 9223372036854775808))])) := by
  by_cases hb : dvalJ (magJ l) ≤ 9223372036854775808
  · have hn : numJ l = some (-(dvalJ (magJ l) : Int)) := by rw [numJ_form, if_pos ⟨h1, h2, h3, h4, by rw [if_pos h0]; exact hb⟩, if_pos h0]
    exact ⟨x, by rw [hn, decide_eq_true hb]; rfl, fun v hv => by rw [hn] at hv; cases hv; exact hx hb⟩
  · have hn : numJ l = none := by rw [numJ_form, if_neg]; rintro ⟨_, _, _, _, h5⟩; rw [if_pos h0] at h5; exact hb h5
    exact ⟨x, by rw [hn, decide_eq_false hb]; rfl, fun v hv => by rw [hn] at hv; cases hv⟩
theorem numRes_pos {l : Bytes} {x : Int} (h0 : l.head? ≠ some 45) (h1 : magJ l ≠ []) (h2 : (magJ l).length ≤ 19) (h3 : (magJ l).all isDg = true) (h4 : ¬ (1 < (magJ l).length ∧ (magJ l).head? = some 48)) (hx : dvalJ (magJ l) < 9223372036854775808 → x = (dvalJ (magJ l) : Int)) :
    NumRes l (.returned (.tuple #[.int .i64 x, .bool (decide (dvalJ (magJ l) < 9223372036854775808))])) := by
  by_cases hb : dvalJ (magJ l) < 9223372036854775808
  · have hn : numJ l = some (dvalJ (magJ l) : Int) := by rw [numJ_form, if_pos ⟨h1, h2, h3, h4, by rw [if_neg h0]; exact hb⟩, if_neg h0]
    exact ⟨x, by rw [hn, decide_eq_true hb]; rfl, fun v hv => by rw [hn] at hv; cases hv; exact hx hb⟩
  · have hn : numJ l = none := by rw [numJ_form, if_neg]; rintro ⟨_, _, _, _, h5⟩; rw [if_neg h0] at h5; exact hb h5
    exact ⟨x, by rw [hn, decide_eq_false hb]; rfl, fun v hv => by rw [hn] at hv; cases hv⟩
theorem dvA_bound : ∀ (l : Bytes) (a : Nat), l.all isDg = true → dvA a l < (a + 1) * 10 ^ l.length
  | [], a, _ => by rw [dvA_nil]; simp
  | c :: l, a, h => by
    rw [List.all_cons, Bool.and_eq_true] at h
    have hc := isDg_nat.1 h.1
    have ih := dvA_bound l (10 * a + (c.toNat - 48)) h.2
    rw [dvA_cons, List.length_cons, Nat.pow_succ]
    have h2 : (10 * a + (c.toNat - 48) + 1) * 10 ^ l.length ≤ (a + 1) * (10 ^ l.length * 10) := by
      rw [Nat.mul_comm (10 ^ l.length) 10, ← Nat.mul_assoc]
      exact Nat.mul_le_mul_right _ (by omega)
    omega
theorem dvA_snoc (a : Nat) (l : Bytes) (c : UInt8) : dvA a (l ++ [c]) = 10 * dvA a l + (c.toNat - 48) := by
  unfold dvA
  rw [List.foldl_append]
  rfl
theorem allg_take {p : UInt8 → Bool} {l : Bytes} {i : Nat} (h : i < l.length) : (l.take (i + 1)).all p = ((l.take i).all p && p l[i]) := by
  rw [List.take_succ_eq_append_getElem h, List.all_append]
  simp
theorem allg_not {p : UInt8 → Bool} {l : Bytes} {i : Nat} (h : i < l.length) (hd : p l[i] = false) : l.all p = false := by
  rw [Bool.eq_false_iff]
  intro h2
  rw [List.all_eq_true] at h2
  have := h2 l[i] (List.getElem_mem h)
  rw [hd] at this
  cases this
theorem valI {k : IntKind} {a b : Int} (h : a = b) : Value.int k a = .int k b := by rw [h]
theorem dg_iff11 (c : UInt8) : isDg c = decide ((48 : Int) ≤ (c.toNat : Int) ∧ (c.toNat : Int) ≤ 57) := by
  rw [Bool.eq_iff_iff, isDg_nat, decide_eq_true_iff]; omega
set_option maxHeartbeats 8000000 in
set_option maxRecDepth 100000 in
theorem refNumber11_any (l : Bytes) (w : World) (hl : l.length ≤ 1000000) :
    Calls Tryz.prog 57 #[.string (S l)] w fun e w' => NumRes l e ∧ w = w' := by
  have hno := numRes_no (l := l)
  have hneg := fun x => numRes_neg (l := l) (x := x)
  have hpos := fun x => numRes_pos (l := l) (x := x)
  have hfit : ∀ W : World, True := fun _ => trivial
  cases l with
  | nil =>
    have hr := hno (.inl rfl)
    clear hno hneg hpos
    have HR := Lib.hid hr
    clear hr
    go_enter Tryz.func57, Tryz.ntmps57
    go_wp2_with fail
    go_ret2
    exact ⟨HR.out, rfl⟩
  | cons c r =>
    obtain ⟨X, hX⟩ : ∃ X, magJ (c :: r) = X := ⟨_, rfl⟩
    rw [hX] at hno
    simp only [hX] at hneg hpos
    have hXl : X.length ≤ r.length + 1 := by rw [← hX]; unfold magJ; split <;> simp
    have HNO := Lib.hid hno
    have HNEG := Lib.hid hneg
    have HPOS := Lib.hid hpos
    clear hno hneg hpos
    have hcb := u8_lt c
    obtain ⟨NG, hNG⟩ : ∃ NG, decide (c = 45) = NG := ⟨_, rfl⟩
    have HNG := Lib.hid hNG
    clear hNG
    go_enter Tryz.func57, Tryz.ntmps57
    go_upto_region 2 with fail
    go_cut [14] (fun s14 wx => s14 = .bool NG ∧ w = wx)
    case first =>
      clear HNO HNEG HPOS
      by_cases h45 : c = 45
      · have t45 : ((c.toNat : Int) == 45) = true := by rw [h45]; rfl
        have hNG := HNG.out
        rw [decide_eq_true h45] at hNG
        subst hNG
        go_wp2_with fail
        go_meet
        exact ⟨rfl, rfl⟩
      · have t45 : ((c.toNat : Int) == 45) = false := by rw [beq_eq_false_iff_ne]; intro e; exact h45 (UInt8.toNat_inj.1 (by have : (45 : UInt8).toNat = 45 := rfl; omega))
        have hNG := HNG.out
        rw [decide_eq_false h45] at hNG
        subst hNG
        go_wp2_with fail
        go_meet
        exact ⟨rfl, rfl⟩
    case rest =>
      obtain ⟨rfl, hwx⟩ := hcut
      subst hwx
      go_upto_if 14 with fail
      go_cut [4] (fun s4 wx => s4 = .string (S X) ∧ w = wx)
      case first =>
        clear HNO HNEG HPOS
        by_cases h45 : c = 45
        · have hNG := HNG.out
          rw [decide_eq_true h45] at hNG
          subst hNG
          subst h45
          have hX' : r = X := hX
          subst hX'
          go_wp2_with fail
          go_meet
          exact ⟨rfl, rfl⟩
        · have hX' : c :: r = X := by rw [← hX]; unfold magJ; rw [if_neg]; intro e; exact h45 (by simpa using e)
          have hNG := HNG.out
          rw [decide_eq_false h45] at hNG
          subst hNG
          clear hX
          subst hX'
          go_wp2_with fail
          go_meet
          exact ⟨rfl, rfl⟩
      case rest =>
        obtain ⟨rfl, hwx⟩ := hcut
        subst hwx
        have hNG := HNG.out
        have hlen : X.length < r.length + 1 ↔ NG = true := by
          rw [← hNG, decide_eq_true_iff, ← hX]
          unfold magJ
          constructor
          · intro h
            by_cases h2 : (c :: r).head? = some 45
            · simpa using h2
            · rw [if_neg h2] at h; simp at h
          · intro h
            subst h
            simp
        clear hNG hX hfit
        by_cases h0 : X = []
        · have hr := HNO.out (.inl h0)
          have HR := Lib.hid hr
          subst h0
          clear hr HNO HNEG HPOS hlen
          go_wp2_with fail
          go_ret2
          exact ⟨HR.out, rfl⟩
        have h0' : (X == []) = false := by simp [h0]
        have hx0 : 0 < X.length := List.length_pos_iff.2 h0
        by_cases h19 : 19 < X.length
        · have hr := HNO.out (.inr (.inl h19))
          have HR := Lib.hid hr
          have h19' : (19 : Int) < X.length := by omega
          clear hr HNO HNEG HPOS hlen
          go_wp2_with fail
          go_ret2
          exact ⟨HR.out, rfl⟩
        have h19' : ¬ (19 : Int) < X.length := by omega
        have hhd : X.head? = some X[0] := by rw [List.head?_eq_getElem?, List.getElem?_eq_getElem hx0]
        have hb8 := u8_lt X[0]
        have h0i : (0 : Int) < X.length := by omega
        by_cases hz : 1 < X.length ∧ X.head? = some 48
        · have hr := HNO.out (.inr (.inr (.inr hz)))
          have HR := Lib.hid hr
          have h1' : (1 : Int) < X.length := by omega
          have hz2 : X[0] = 48 := by have := hz.2; rw [hhd] at this; exact Option.some.inj this
          have t48 : ((X[0].toNat : Int) == 48) = true := by rw [hz2]; rfl
          clear hr HNO HNEG HPOS hlen hz hz2 hhd
          go_wp2_with fail
          go_ret2
          exact ⟨HR.out, rfl⟩
        have hz' : ¬ (1 : Int) < X.length ∨ ((1 : Int) < X.length ∧ ((X[0].toNat : Int) == 48) = false) := by
          by_cases h1 : 1 < X.length
          · refine .inr ⟨by omega, ?_⟩
            rw [beq_eq_false_iff_ne]
            intro e
            exact hz ⟨h1, by rw [hhd]; congr 1; exact UInt8.toNat_inj.1 (by have : (48 : UInt8).toNat = 48 := rfl; omega)⟩
          · exact .inl (by omega)
        have HZ := Lib.hid hz
        clear hz hhd
        go_upto_region 4 with fail
        go_cut [33] (fun s33 wx => s33 = .bool false ∧ w = wx)
        case first =>
          clear HNO HNEG HPOS hlen
          rcases hz' with h1 | ⟨h1, h2⟩
          all_goals
            go_wp2_with fail
            go_meet
            exact ⟨rfl, rfl⟩
        case rest =>
          obtain ⟨rfl, hwx⟩ := hcut
          subst hwx
          clear hz' h0' h0i hb8
          go_wp2_with fail
          have h19n : X.length ≤ 19 := by omega
          go_loopw [5, 6] (fun s5 s6 wr => ∃ i : Nat, i ≤ X.length ∧ s6 = .int .i64 (i : Int) ∧ (X.take i).all isDg = true ∧ s5 = .int .u64 (dvA 0 (X.take i) : Nat) ∧ w = wr) (fun _ s6 _ => X.length - (intOf s6).toNat)
          case atStart => exact ⟨0, by omega, rfl, rfl, rfl, rfl⟩
          case round =>
            obtain ⟨i, hi2, rfl, hall, rfl, rfl⟩ := hrel
            have hvb := dvA_bound (X.take i) 0 hall
            have hvl : (X.take i).length = i := by rw [List.length_take]; omega
            rw [hvl] at hvb
            by_cases hlt : i < X.length
            · have hlt' : (i : Int) < X.length := by omega
              have hpow : 10 ^ i ≤ 10 ^ 18 := Nat.pow_le_pow_right (by decide) (by omega)
              have hnx : dvA 0 (X.take (i + 1)) = 10 * dvA 0 (X.take i) + (X[i].toNat - 48) := by rw [List.take_succ_eq_append_getElem hlt, dvA_snoc]
              have hall2 := allg_take (p := isDg) hlt
              rw [hall, Bool.true_and] at hall2
              have hbad := allg_not (p := isDg) hlt
              have hdi := dg_iff11 X[i]
              have hb8 := u8_lt X[i]
              generalize hV : dvA 0 (X.take i) = V at *
              have hV18 : V < 1000000000000000000 := by omega
              have HNX := Lib.hid hnx
              have HA2 := Lib.hid hall2
              have HBAD := Lib.hid hbad
              clear hnx hall2 hbad hall hvb hpow hV
              by_cases hd : (48 : Int) ≤ (X[i].toNat : Int) ∧ (X[i].toNat : Int) ≤ 57
              · rw [decide_eq_true hd] at hdi
                have HD := Lib.hid hdi
                obtain ⟨d1, d2⟩ := hd
                clear hdi
                go_wp2_with fail
                go_roundw
                case rel => exact ⟨i + 1, by omega, by go_num, by rw [HA2.out]; exact HD.out, valI (by rw [HNX.out]; omega), trivial⟩
                case measure => simp [intOf]; omega
              · rw [decide_eq_false hd] at hdi
                have hr := HNO.out (.inr (.inr (.inl (HBAD.out hdi))))
                have HR := Lib.hid hr
                have hd' : (X[i].toNat : Int) < 48 ∨ ((48 : Int) ≤ (X[i].toNat : Int) ∧ (57 : Int) < (X[i].toNat : Int)) := by omega
                clear hdi hd HBAD HNO HNEG HPOS hlen hr
                rcases hd' with d1 | ⟨d1, d2⟩
                all_goals
                  go_wp2_with fail
                  go_ret2
                  exact ⟨HR.out, rfl⟩
            · obtain rfl : i = X.length := by omega
              rw [List.take_length] at hall hvb
              simp only [List.take_length]
              have hpow : 10 ^ X.length ≤ 10 ^ 19 := Nat.pow_le_pow_right (by decide) h19n
              have hlt' : ¬ (X.length : Int) < (X.length : Int) := by omega
              have hN1 := fun x => HNEG.out x
              have hP1 := fun x => HPOS.out x
              rw [show dvalJ X = dvA 0 X from rfl] at hN1 hP1
              generalize hV : dvA 0 X = V at *
              have hV19 : V < 10000000000000000000 := by omega
              have HALL := Lib.hid hall
              have HN1 := Lib.hid hN1
              have HP1 := Lib.hid hP1
              clear hall hvb hpow hV hN1 hP1 HNEG HPOS HNO
              cases NG with
              | true =>
                have hc45 : c = 45 := of_decide_eq_true HNG.out
                have hl2 : (X.length : Int) < (r.length : Int) + 1 := by have := hlen.2 rfl; omega
                have HQ := Lib.hid fun (x : Int) (b : Bool) (hb : b = decide (V ≤ 9223372036854775808)) hx => hb ▸ HN1.out x (by rw [hc45]; rfl) h0 h19n HALL.out HZ.out hx
                clear hlen HN1 HP1 HALL HZ hc45 h0
                go_wp2_with fail
                go_ret2
                exact ⟨HQ.out _ _ (by rw [Bool.eq_iff_iff, decide_eq_true_iff, decide_eq_true_iff]; omega) (fun hb => by simp only [IntKind.wrap_u64]; first | omega | (unfold wrap64; omega)), rfl⟩
              | false =>
                have hc45 : ¬ c = 45 := of_decide_eq_false HNG.out
                have hl2 : ¬ (X.length : Int) < (r.length : Int) + 1 := by
                  intro h
                  have := hlen.1 (by omega)
                  cases this
                have HQ := Lib.hid fun (x : Int) (b : Bool) (hb : b = decide (V < 9223372036854775808)) hx => hb ▸ HP1.out x (by intro e; exact hc45 (by simpa using e)) h0 h19n HALL.out HZ.out hx
                clear hlen HN1 HP1 HALL HZ hc45 h0
                go_wp2_with fail
                go_ret2
                exact ⟨HQ.out _ _ (by rw [Bool.eq_iff_iff, decide_eq_true_iff, decide_eq_true_iff]; omega) (fun hb => by first | omega | (unfold wrap64; omega)), rfl⟩
end Go.Proofs.YthlppbpccldikaaGreatDoor
set_option linter.unusedVariables false
namespace Go.Proofs.YthlppbpccldikaaGreatDoor
open Go.RowKit

/-- A result opened: it may be kept in another place. -/
theorem ResR.open {w : World} {p : Nat → Prop} {r : Except (Nat × Nat) (JV × Nat)} {e : Ending} (h : ResR w p r e) :
    ∃ (k : Int) (b : Bool) (n : Int) (s : ByteArray) (I : Option Addr) (i c : Nat) (M : Option Addr) (m d : Nat) (q tt code : Int), e = .returned (.agg #[.int .i64 k, .bool b, .int .i64 n, .string s, .slice I i c, .slice M m d, .int .i64 q, .int .i64 tt, .int .i64 code]) ∧
      ∀ (w' : World) (p' : Nat → Prop), (∀ j, p j → w'.heap[j]? = w.heap[j]?) → (∀ j, p j → p' j) → ResR w' p' r e := by
  cases r with
  | error q =>
    have h' : e = .returned (resE q) := h
    exact ⟨_, _, _, _, _, _, _, _, _, _, _, _, _, h', fun w' p' _ _ => h'⟩
  | ok vn =>
    obtain ⟨v, n⟩ := vn
    obtain ⟨IA, ic, MA, mc, h', hI, hM⟩ := h
    exact ⟨_, _, _, _, _, _, _, _, _, _, _, _, _, h', fun w' p' hb hp => ⟨IA, ic, MA, mc, h', hI.keep valE_ok hb hp, hM.keep memE_ok hb hp⟩⟩
theorem listI_eq (l : Bytes) (f d a : Nat) : listI l f d a = (if hasAt l (spEnd l (a + 1)) [93] = true then .ok (.mk 4 false 0 [] [] [] a, spEnd l (a + 1) + 1)
      else match pvI l f d (spEnd l (a + 1)) [] with
        | .error q => .error q
        | .ok (its, e) => .ok (.mk 4 false 0 [] its [] a, e)) := by
  unfold listI itR
  split
  · rfl
  · cases pvI l f d (spEnd l (a + 1)) [] <;> rfl
theorem listM_eq (l : Bytes) (f d a : Nat) : listM l f d a = (if hasAt l (spEnd l (a + 1)) [125] = true then .ok (.mk 5 false 0 [] [] [] a, spEnd l (a + 1) + 1)
      else match pvM l f d (spEnd l (a + 1)) [] with
        | .error q => .error q
        | .ok (ms, e) => .ok (.mk 5 false 0 [] [] ms a, e)) := by
  unfold listM meR
  split
  · rfl
  · cases pvM l f d (spEnd l (a + 1)) [] <;> rfl
/-- A value by its first byte. -/
def valC (l : Bytes) (f d y : Nat) (c : UInt8) : Except (Nat × Nat) (JV × Nat) :=
  if c = 110 then wordJ l y sNull (.mk 0 false 0 [] [] [] y)
  else if c = 116 then wordJ l y sTrue (.mk 1 true 0 [] [] [] y)
  else if c = 102 then wordJ l y sFalse (.mk 1 false 0 [] [] [] y)
  else if c = 34 then strJ l y
  else if c = 91 then (if 100 < d then .error (y, 9) else listI l f d y)
  else if c = 123 then (if 100 < d then .error (y, 9) else listM l f d y)
  else if c = 45 ∨ isDg c = true then numAt l y else .error (y, 7)
theorem pvV_C {l : Bytes} {f d n y : Nat} (hy : spEnd l n = y) (h : y < l.length) : pvV l (f + 1) d n = valC l f d y l[y] := by
  have eg : l.getD y 0 = l[y] := by rw [List.getD_eq_getElem?_getD, List.getElem?_eq_getElem h]; rfl
  rw [pvV, hy, if_neg (by omega), eg]
  unfold valC
  rw [listI_eq, listM_eq]
  rfl
theorem pvV_end {l : Bytes} {f d n y : Nat} (hy : spEnd l n = y) (h : l.length ≤ y) : pvV l (f + 1) d n = .error (l.length, 8) := by rw [pvV, hy, if_pos h]
set_option maxHeartbeats 8000000 in
set_option maxRecDepth 100000 in
theorem refValue_ok (l : Bytes) (hl : l.length ≤ 1000000) : ∀ f, ValOk l f := by
  intro f
  induction f using Nat.strongRecOn with
  | _ f ih =>
    intro d n w hn hf hd
    obtain ⟨g, rfl⟩ : ∃ g, f = g + 1 := ⟨f - 1, by omega⟩
    have hsn := fun W => refSpaces11_any l n W (by omega) hn
    have hy1 := spEnd_ge l n
    have hy2 := spEnd_le (l := l) (n := n) hn
    have hpe := fun y (e : spEnd l n = y) => @pvV_end l g d n y e
    have hpc := fun y (e : spEnd l n = y) => @pvV_C l g d n y e
    obtain ⟨y, hy⟩ : ∃ y, spEnd l n = y := ⟨_, rfl⟩
    have hpe := hpe y hy
    have hpc := hpc y hy
    rw [hy] at hsn hy1 hy2
    obtain ⟨R, hR⟩ : ∃ R, pvV l (g + 1) d n = R := ⟨_, rfl⟩
    rw [hR] at hpe hpc ⊢
    have HSN := Lib.hid hsn
    have B1 := (Below.refl w.heap.size w).alloc (Nat.le_refl _) (.cells zRes 56)
    have r0 := heap_alloc_new w (.cells zRes 56)
    have hS1 : (w.alloc (.cells zRes 56)).heap.size = w.heap.size + 1 := by simp
    have HB1 := Lib.hid B1
    have HR0 := Lib.hid r0
    have HW := Lib.hid fun a W => refWrong11_any l a W hl
    clear hsn hy hR B1 r0
    by_cases he : l.length ≤ y
    · have hwj : wrongJ l y = (l.length, 8) := by unfold wrongJ; rw [if_pos he]
      have hwr := fun W => HW.out y W
      rw [hwj] at hwr
      rw [hpe he]
      have HWR := Lib.hid hwr
      have he' : (l.length : Int) ≤ y := by omega
      clear hwr hwj hpe hpc he
      go_enter Tryz.func24, Tryz.ntmps24
      go_wp2_with (first
        | (go_at_call 25; refine (HSN.out _).mono ?_; rintro e1 w2 ⟨rfl, rfl⟩)
        | (go_at_call 52; refine (HWR.out _).mono ?_; rintro e1 w2 ⟨rfl, hb2⟩; have hres2 := (hb2.block w.heap.size (by simp)).trans HR0.out; have hz2 : w.heap.size + 1 ≤ w2.heap.size := (by have := hb2.size; simp at this; omega); have hbb := hb2.mono (B' := w.heap.size) (by simp))
        | (with_reducible refine gate ?_; refine wp_store_res rfl _ _ rfl w.heap.size _ _ _ _ _ _ _ _ _ _ _ _ _ _ rfl rfl hres2 zRes_size ?_; intro w3 hx3 hu3))
      refine bodyPost_ret (v := .agg _) (res_whole Tryz.results24 _ _ w.heap.size rfl 56 _ hx3 Tryz.underlying56 rfl resSize) rfl ⟨?_, ?_⟩
      · exact rfl
      · exact (HB1.out.trans hbb).trans (hu3.below (Nat.le_refl _) (by omega))
    have hyl : y < l.length := by omega
    rw [hpc hyl]
    have hc256 := u8_lt l[y]
    have HIH := Lib.hid ih
    clear hpe hpc ih he
    obtain ⟨c, hcc⟩ : ∃ c, l[y] = c := ⟨_, rfl⟩
    have hcn : l[y].toNat = c.toNat := by rw [hcc]
    rw [hcc]
    unfold valC
    by_cases h110 : c = 110
    · rw [if_pos h110]
      have hwd : ∀ W, Calls Tryz.prog 53 #[.string (S l), .int .i64 y, .string ⟨#[110, 117, 108, 108]⟩, .agg #[.int .i64 0, .bool false, .int .i64 0, .string ⟨#[]⟩, .slice none 0 0, .slice none 0 0, .int .i64 0]] W fun e w' => ResR w' (fun _ => False) (wordJ l y sNull (.mk 0 false 0 [] [] [] y)) e ∧ Below W.heap.size W w' := fun W => refWord11_any l y sNull 0 false W hl hyl (by decide) (by decide)
      have HWD := Lib.hid hwd
      rw [h110] at hcn
      simp only [UInt8.toNat_ofNat, Nat.reducePow, Nat.reduceMod] at hcn
      clear hwd
      go_enter Tryz.func24, Tryz.ntmps24
      go_wp2_with (first
        | (go_at_call 25; refine (HSN.out _).mono ?_; rintro e1 w2 ⟨rfl, rfl⟩)
        | (go_at_call 53; refine (HWD.out _).mono ?_; rintro e1 w2 ⟨hr2, hb2⟩; obtain ⟨k1, b1, n1, s1, I1, i1, c1, M1, m1, d1, q1, to1, co1, rfl, hkeep⟩ := hr2.open; have hres2 := (hb2.block w.heap.size (by simp)).trans HR0.out; have hz2 : w.heap.size + 1 ≤ w2.heap.size := (by have := hb2.size; simp at this; omega); have hbb := hb2.mono (B' := w.heap.size) (by simp))
        | (with_reducible refine gate ?_; refine wp_store_res rfl _ _ rfl w.heap.size _ _ _ _ _ _ _ _ _ _ _ _ _ _ rfl rfl hres2 zRes_size ?_; intro w3 hx3 hu3))
      refine bodyPost_ret (v := .agg _) (res_whole Tryz.results24 _ _ w.heap.size rfl 56 _ hx3 Tryz.underlying56 rfl resSize) rfl ⟨?_, ?_⟩
      · exact hkeep w3 _ (fun j hj => hj.elim) (fun j hj => hj.elim)
      · exact (HB1.out.trans hbb).trans (hu3.below (Nat.le_refl _) (by omega))
    rw [if_neg h110]
    have n110 : ¬ l[y].toNat = 110 := by rw [hcn]; intro q; exact h110 (UInt8.toNat_inj.mp q)
    by_cases h116 : c = 116
    · rw [if_pos h116]
      have hwd : ∀ W, Calls Tryz.prog 53 #[.string (S l), .int .i64 y, .string ⟨#[116, 114, 117, 101]⟩, .agg #[.int .i64 1, .bool true, .int .i64 0, .string ⟨#[]⟩, .slice none 0 0, .slice none 0 0, .int .i64 0]] W fun e w' => ResR w' (fun _ => False) (wordJ l y sTrue (.mk 1 true 0 [] [] [] y)) e ∧ Below W.heap.size W w' := fun W => refWord11_any l y sTrue 1 true W hl hyl (by decide) (by decide)
      have HWD := Lib.hid hwd
      rw [h116] at hcn
      simp only [UInt8.toNat_ofNat, Nat.reducePow, Nat.reduceMod] at hcn
      clear hwd
      go_enter Tryz.func24, Tryz.ntmps24
      go_wp2_with (first
        | (go_at_call 25; refine (HSN.out _).mono ?_; rintro e1 w2 ⟨rfl, rfl⟩)
        | (go_at_call 53; refine (HWD.out _).mono ?_; rintro e1 w2 ⟨hr2, hb2⟩; obtain ⟨k1, b1, n1, s1, I1, i1, c1, M1, m1, d1, q1, to1, co1, rfl, hkeep⟩ := hr2.open; have hres2 := (hb2.block w.heap.size (by simp)).trans HR0.out; have hz2 : w.heap.size + 1 ≤ w2.heap.size := (by have := hb2.size; simp at this; omega); have hbb := hb2.mono (B' := w.heap.size) (by simp))
        | (with_reducible refine gate ?_; refine wp_store_res rfl _ _ rfl w.heap.size _ _ _ _ _ _ _ _ _ _ _ _ _ _ rfl rfl hres2 zRes_size ?_; intro w3 hx3 hu3))
      refine bodyPost_ret (v := .agg _) (res_whole Tryz.results24 _ _ w.heap.size rfl 56 _ hx3 Tryz.underlying56 rfl resSize) rfl ⟨?_, ?_⟩
      · exact hkeep w3 _ (fun j hj => hj.elim) (fun j hj => hj.elim)
      · exact (HB1.out.trans hbb).trans (hu3.below (Nat.le_refl _) (by omega))
    rw [if_neg h116]
    have n116 : ¬ l[y].toNat = 116 := by rw [hcn]; intro q; exact h116 (UInt8.toNat_inj.mp q)
    by_cases h102 : c = 102
    · rw [if_pos h102]
      have hwd : ∀ W, Calls Tryz.prog 53 #[.string (S l), .int .i64 y, .string ⟨#[102, 97, 108, 115, 101]⟩, .agg #[.int .i64 1, .bool false, .int .i64 0, .string ⟨#[]⟩, .slice none 0 0, .slice none 0 0, .int .i64 0]] W fun e w' => ResR w' (fun _ => False) (wordJ l y sFalse (.mk 1 false 0 [] [] [] y)) e ∧ Below W.heap.size W w' := fun W => refWord11_any l y sFalse 1 false W hl hyl (by decide) (by decide)
      have HWD := Lib.hid hwd
      rw [h102] at hcn
      simp only [UInt8.toNat_ofNat, Nat.reducePow, Nat.reduceMod] at hcn
      clear hwd
      go_enter Tryz.func24, Tryz.ntmps24
      go_wp2_with (first
        | (go_at_call 25; refine (HSN.out _).mono ?_; rintro e1 w2 ⟨rfl, rfl⟩)
        | (go_at_call 53; refine (HWD.out _).mono ?_; rintro e1 w2 ⟨hr2, hb2⟩; obtain ⟨k1, b1, n1, s1, I1, i1, c1, M1, m1, d1, q1, to1, co1, rfl, hkeep⟩ := hr2.open; have hres2 := (hb2.block w.heap.size (by simp)).trans HR0.out; have hz2 : w.heap.size + 1 ≤ w2.heap.size := (by have := hb2.size; simp at this; omega); have hbb := hb2.mono (B' := w.heap.size) (by simp))
        | (with_reducible refine gate ?_; refine wp_store_res rfl _ _ rfl w.heap.size _ _ _ _ _ _ _ _ _ _ _ _ _ _ rfl rfl hres2 zRes_size ?_; intro w3 hx3 hu3))
      refine bodyPost_ret (v := .agg _) (res_whole Tryz.results24 _ _ w.heap.size rfl 56 _ hx3 Tryz.underlying56 rfl resSize) rfl ⟨?_, ?_⟩
      · exact hkeep w3 _ (fun j hj => hj.elim) (fun j hj => hj.elim)
      · exact (HB1.out.trans hbb).trans (hu3.below (Nat.le_refl _) (by omega))
    rw [if_neg h102]
    have n102 : ¬ l[y].toNat = 102 := by rw [hcn]; intro q; exact h102 (UInt8.toNat_inj.mp q)
    by_cases h34 : c = 34
    · rw [if_pos h34]
      rw [h34] at hcn
      simp only [UInt8.toNat_ofNat, Nat.reducePow, Nat.reduceMod] at hcn
      have hj := fun W => refJParse10_any l y W (by omega) (by omega)
      unfold strJ
      cases hjs : jstrAt l y with
      | error q =>
        have hq0 := (jstrAt_err hy2 hjs).2
        rw [hjs] at hj
        obtain ⟨q1, q2⟩ := q
        have t0 : ((q2 : Int) != 0) = true := by rw [bne_iff_ne]; simp at hq0; omega
        have HJ := Lib.hid hj
        clear hj hjs hq0
        go_enter Tryz.func24, Tryz.ntmps24
        go_wp2_with (first
          | (go_at_call 25; refine (HSN.out _).mono ?_; rintro e1 w2 ⟨rfl, rfl⟩)
          | (go_at_call 54; refine (HJ.out _).mono ?_; rintro e1 w2 ⟨rfl, hb2⟩; simp only [strT]; have hres2 := (hb2.block w.heap.size (by simp)).trans HR0.out; have hz2 : w.heap.size + 1 ≤ w2.heap.size := (by have := hb2.size; simp at this; omega); have hbb := hb2.mono (B' := w.heap.size) (by simp))
          | (with_reducible refine gate ?_; refine wp_store_res rfl _ _ rfl w.heap.size _ _ _ _ _ _ _ _ _ _ _ _ _ _ rfl rfl hres2 zRes_size ?_; intro w3 hx3 hu3))
        refine bodyPost_ret (v := .agg _) (res_whole Tryz.results24 _ _ w.heap.size rfl 56 _ hx3 Tryz.underlying56 rfl resSize) rfl ⟨?_, ?_⟩
        · exact rfl
        · exact (HB1.out.trans hbb).trans (hu3.below (Nat.le_refl _) (by omega))
      | ok ke =>
        obtain ⟨k, e⟩ := ke
        rw [hjs] at hj
        have HJ := Lib.hid hj
        clear hj hjs
        go_enter Tryz.func24, Tryz.ntmps24
        go_wp2_with (first
          | (go_at_call 25; refine (HSN.out _).mono ?_; rintro e1 w2 ⟨rfl, rfl⟩)
          | (go_at_call 54; refine (HJ.out _).mono ?_; rintro e1 w2 ⟨rfl, hb2⟩; simp only [strT]; have hres2 := (hb2.block w.heap.size (by simp)).trans HR0.out; have hz2 : w.heap.size + 1 ≤ w2.heap.size := (by have := hb2.size; simp at this; omega); have hbb := hb2.mono (B' := w.heap.size) (by simp))
          | (with_reducible refine gate ?_; refine wp_store_res rfl _ _ rfl w.heap.size _ _ _ _ _ _ _ _ _ _ _ _ _ _ rfl rfl hres2 zRes_size ?_; intro w3 hx3 hu3))
        refine bodyPost_ret (v := .agg _) (res_whole Tryz.results24 _ _ w.heap.size rfl 56 _ hx3 Tryz.underlying56 rfl resSize) rfl ⟨?_, ?_⟩
        · exact ⟨none, 0, none, 0, rfl, ElsP.nil _ _ _, ElsP.nil _ _ _⟩
        · exact (HB1.out.trans hbb).trans (hu3.below (Nat.le_refl _) (by omega))
    rw [if_neg h34]
    have n34 : ¬ l[y].toNat = 34 := by rw [hcn]; intro q; exact h34 (UInt8.toNat_inj.mp q)
    by_cases h91 : c = 91
    · rw [if_pos h91]
      rw [h91] at hcn
      simp only [UInt8.toNat_ofNat, Nat.reducePow, Nat.reduceMod] at hcn
      by_cases hdd : 100 < d
      · rw [if_pos hdd]
        have hdd' : (100 : Int) < d := by omega
        clear hdd
        go_enter Tryz.func24, Tryz.ntmps24
        go_wp2_with (first
          | (go_at_call 25; refine (HSN.out _).mono ?_; rintro e1 w2 ⟨rfl, rfl⟩))
        refine bodyPost_ret (v := .agg _) (res_whole Tryz.results24 _ _ w.heap.size rfl 56 _ (heap_alloc_new w _) Tryz.underlying56 rfl resSize) rfl ⟨?_, ?_⟩
        · exact rfl
        · exact (Below.refl w.heap.size w).alloc (Nat.le_refl _) _
      · rw [if_neg hdd]
        have hdd' : ¬ (100 : Int) < d := by omega
        have hgg := spEnd_ge l (y + 1)
        have hli := fun W => refListI11_any l hl g (fun g' hg' => HIH.out g' (by omega)) d y W hyl (by rw [hcc, h91]) (by omega) (by omega)
        have HLI := Lib.hid hli
        clear hdd hgg hli
        go_enter Tryz.func24, Tryz.ntmps24
        go_wp2_with (first
          | (go_at_call 25; refine (HSN.out _).mono ?_; rintro e1 w2 ⟨rfl, rfl⟩)
          | (go_at_call 55; refine (HLI.out _).mono ?_; rintro e1 w2 ⟨hr2, hb2⟩; obtain ⟨k1, b1, n1, s1, I1, i1, c1, M1, m1, d1, q1, to1, co1, rfl, hkeep⟩ := hr2.open; have hres2 := (hb2.block w.heap.size (by simp)).trans HR0.out; have hz2 : w.heap.size + 1 ≤ w2.heap.size := (by have := hb2.size; simp at this; omega); have hbb := hb2.mono (B' := w.heap.size) (by simp))
          | (with_reducible refine gate ?_; refine wp_store_res rfl _ _ rfl w.heap.size _ _ _ _ _ _ _ _ _ _ _ _ _ _ rfl rfl hres2 zRes_size ?_; intro w3 hx3 hu3))
        refine bodyPost_ret (v := .agg _) (res_whole Tryz.results24 _ _ w.heap.size rfl 56 _ hx3 Tryz.underlying56 rfl resSize) rfl ⟨?_, ?_⟩
        · exact hkeep w3 _ (fun j hj => hu3.block j hj.2 (by have := hj.1; simp at this; omega)) (fun j hj => ⟨by have := hj.1; simp at this; omega, by have := hj.2; have := hu3.size; omega⟩)
        · exact (HB1.out.trans hbb).trans (hu3.below (Nat.le_refl _) (by omega))
    rw [if_neg h91]
    have n91 : ¬ l[y].toNat = 91 := by rw [hcn]; intro q; exact h91 (UInt8.toNat_inj.mp q)
    by_cases h123 : c = 123
    · rw [if_pos h123]
      rw [h123] at hcn
      simp only [UInt8.toNat_ofNat, Nat.reducePow, Nat.reduceMod] at hcn
      by_cases hdd : 100 < d
      · rw [if_pos hdd]
        have hdd' : (100 : Int) < d := by omega
        clear hdd
        go_enter Tryz.func24, Tryz.ntmps24
        go_wp2_with (first
          | (go_at_call 25; refine (HSN.out _).mono ?_; rintro e1 w2 ⟨rfl, rfl⟩))
        refine bodyPost_ret (v := .agg _) (res_whole Tryz.results24 _ _ w.heap.size rfl 56 _ (heap_alloc_new w _) Tryz.underlying56 rfl resSize) rfl ⟨?_, ?_⟩
        · exact rfl
        · exact (Below.refl w.heap.size w).alloc (Nat.le_refl _) _
      · rw [if_neg hdd]
        have hdd' : ¬ (100 : Int) < d := by omega
        have hgg := spEnd_ge l (y + 1)
        have hli := fun W => refListM11_any l hl g (fun g' hg' => HIH.out g' (by omega)) d y W hyl (by rw [hcc, h123]) (by omega) (by omega)
        have HLI := Lib.hid hli
        clear hdd hgg hli
        go_enter Tryz.func24, Tryz.ntmps24
        go_wp2_with (first
          | (go_at_call 25; refine (HSN.out _).mono ?_; rintro e1 w2 ⟨rfl, rfl⟩)
          | (go_at_call 55; refine (HLI.out _).mono ?_; rintro e1 w2 ⟨hr2, hb2⟩; obtain ⟨k1, b1, n1, s1, I1, i1, c1, M1, m1, d1, q1, to1, co1, rfl, hkeep⟩ := hr2.open; have hres2 := (hb2.block w.heap.size (by simp)).trans HR0.out; have hz2 : w.heap.size + 1 ≤ w2.heap.size := (by have := hb2.size; simp at this; omega); have hbb := hb2.mono (B' := w.heap.size) (by simp))
          | (with_reducible refine gate ?_; refine wp_store_res rfl _ _ rfl w.heap.size _ _ _ _ _ _ _ _ _ _ _ _ _ _ rfl rfl hres2 zRes_size ?_; intro w3 hx3 hu3))
        refine bodyPost_ret (v := .agg _) (res_whole Tryz.results24 _ _ w.heap.size rfl 56 _ hx3 Tryz.underlying56 rfl resSize) rfl ⟨?_, ?_⟩
        · exact hkeep w3 _ (fun j hj => hu3.block j hj.2 (by have := hj.1; simp at this; omega)) (fun j hj => ⟨by have := hj.1; simp at this; omega, by have := hj.2; have := hu3.size; omega⟩)
        · exact (HB1.out.trans hbb).trans (hu3.below (Nat.le_refl _) (by omega))
    rw [if_neg h123]
    have n123 : ¬ l[y].toNat = 123 := by rw [hcn]; intro q; exact h123 (UInt8.toNat_inj.mp q)
    by_cases hnum : c = 45 ∨ isDg c = true
    · rw [if_pos hnum]
      have hnl : numEnd l y ≤ l.length := (numEnd_le (l := l) (a := y) (by omega)).2
      have hny : y ≤ numEnd l y := (numEnd_le (l := l) (a := y) (by omega)).1
      have hd45 : l[y].toNat = 45 ∨ (¬ l[y].toNat = 45 ∧ 48 ≤ l[y].toNat ∧ l[y].toNat ≤ 57) := by
        rw [hcn]
        by_cases h : c.toNat = 45
        · exact .inl h
        · refine .inr ⟨h, ?_⟩
          have := hnum.resolve_left (fun e => h (by rw [e]; rfl))
          rwa [isDg_nat] at this
      have hd45' : ((l[y].toNat : Int) != 45) = false ∨ (((l[y].toNat : Int) != 45) = true ∧ ¬ (l[y].toNat : Int) < 48 ∧ ¬ (57 : Int) < l[y].toNat) := by
        rcases hd45 with h | ⟨h, h1, h2⟩
        · exact .inl (by rw [h]; rfl)
        · exact .inr ⟨by rw [bne_iff_ne]; omega, by omega, by omega⟩
      have hnr := fun W => refNumber11_any ((l.drop y).take (run isNumB (l.drop y))) W (by rw [List.length_take, List.length_drop]; omega)
      have hnA : numAt l y = match numJ ((l.drop y).take (run isNumB (l.drop y))) with
        | none => .error (y, 15)
        | some n => .ok (.mk 2 false n [] [] [] y, numEnd l y) := rfl
      obtain ⟨nx, hnx⟩ : ∃ nx, (l.drop y).take (run isNumB (l.drop y)) = nx := ⟨_, rfl⟩
      obtain ⟨E, hE⟩ : ∃ E, numEnd l y = E := ⟨_, rfl⟩
      rw [hE] at hnl hny hnA
      have htk : List.take (E - y) (List.drop y l) = nx := by rw [← hE, ← hnx]; unfold numEnd; congr 1; omega
      rw [hnx] at hnr hnA
      have HNR := Lib.hid hnr
      have HNA := Lib.hid hnA
      have HTK := Lib.hid htk
      have hst : y + run isNumB (l.drop y) = E := hE
      have HST := Lib.hid hst
      clear hnr hnA htk hst hE hnx hd45 hnum hcn hcc h110 h116 h102 h34 h91 h123
      have u110 : ((l[y].toNat : Int) == 110) = false := by rw [beq_eq_false_iff_ne]; omega
      have u116 : ((l[y].toNat : Int) == 116) = false := by rw [beq_eq_false_iff_ne]; omega
      have u102 : ((l[y].toNat : Int) == 102) = false := by rw [beq_eq_false_iff_ne]; omega
      have u34 : ((l[y].toNat : Int) == 34) = false := by rw [beq_eq_false_iff_ne]; omega
      have u91 : ((l[y].toNat : Int) == 91) = false := by rw [beq_eq_false_iff_ne]; omega
      have u123 : ((l[y].toNat : Int) == 123) = false := by rw [beq_eq_false_iff_ne]; omega
      have d19 : decide (l.length ≤ y) = false := by simp; omega
      clear n110 n116 n102 n34 n91 n123
      rcases hd45' with hw | ⟨hw, hw1, hw2⟩
      all_goals
        go_enter Tryz.func24, Tryz.ntmps24
        go_upto_region 24 with (first
          | (go_at_call 25; refine (HSN.out _).mono ?_; rintro e1 w2 ⟨rfl, rfl⟩))
        try simp only [d19, u110, u116, u102, u34, u91, u123]
        go_loop [10] (fun i10 => ∃ i : Nat, y ≤ i ∧ i ≤ E ∧ i10 = .int .i64 i ∧ i + run isNumB (l.drop i) = E) (fun i10 => E - (intOf i10).toNat)
        case atStart => exact ⟨y, Nat.le_refl _, hny, rfl, HST.out⟩
        case round =>
          obtain ⟨i, hiy, hiE, rfl, hie⟩ := hrel
          have htk := HTK.out
          by_cases hil : i < l.length
          · have hnu := fun W => refNumeric_any l[i] W
            cases hb : isNumB l[i] with
            | true =>
              rw [run_yes hil hb] at hie
              rw [hb] at hnu
              have HNU := Lib.hid hnu
              have hie2 : i + 1 + run isNumB (l.drop (i + 1)) = E := by omega
              have HIE := Lib.hid hie2
              have hlt : i + 1 ≤ E := by omega
              clear hnu hb hie hie2
              go_wp2_with (go_at_call 56; refine (HNU.out _).mono ?_; rintro e1 w2 ⟨rfl, rfl⟩)
              go_round
              case rel => exact ⟨i + 1, by omega, by omega, by go_num, HIE.out⟩
              case measure => simp [intOf]; omega
            | false =>
              rw [run_no hil hb, Nat.add_zero] at hie
              subst hie
              rw [hb] at hnu
              have HNU := Lib.hid hnu
              clear hnu hb
              cases hnj : numJ nx with
              | none =>
                have hna := HNA.out
                rw [hnj] at hna
                have hnr := HNR.out
                unfold NumRes at hnr
                rw [hnj] at hnr
                have HN := Lib.hid hnr
                have HA := Lib.hid hna
                clear hna hnr hnj
                go_wp2_with (first
                  | (go_at_call 56; refine (HNU.out _).mono ?_; rintro e1 w2 ⟨rfl, rfl⟩)
                  | (go_at_call 57; refine (HN.out _).mono ?_; rintro e1 w2 ⟨⟨x, rfl, hx⟩, rfl⟩; simp only [Option.isSome]))
                refine bodyPost_ret (v := .agg _) (res_whole Tryz.results24 _ _ w.heap.size rfl 56 _ (heap_alloc_new w _) Tryz.underlying56 rfl resSize) rfl ⟨?_, ?_⟩
                · rw [HA.out]; exact rfl
                · exact (Below.refl w.heap.size w).alloc (Nat.le_refl _) _
              | some v =>
                have hna := HNA.out
                rw [hnj] at hna
                have hnr := HNR.out
                unfold NumRes at hnr
                rw [hnj] at hnr
                have HN := Lib.hid hnr
                have HA := Lib.hid hna
                clear hna hnr hnj
                go_wp2_with (first
                  | (go_at_call 56; refine (HNU.out _).mono ?_; rintro e1 w2 ⟨rfl, rfl⟩)
                  | (go_at_call 57; refine (HN.out _).mono ?_; rintro e1 w2 ⟨⟨x, rfl, hx⟩, rfl⟩; have hxv := hx v rfl; subst hxv; simp only [Option.isSome]))
                refine bodyPost_ret (v := .agg _) (res_whole Tryz.results24 _ _ w.heap.size rfl 56 _ (heap_alloc_new w _) Tryz.underlying56 rfl resSize) rfl ⟨?_, ?_⟩
                · rw [HA.out]; exact ⟨none, 0, none, 0, rfl, ElsP.nil _ _ _, ElsP.nil _ _ _⟩
                · exact (Below.refl w.heap.size w).alloc (Nat.le_refl _) _
          · have hie2 : i = E := by omega
            subst hie2
            clear hie
            cases hnj : numJ nx with
            | none =>
              have hna := HNA.out
              rw [hnj] at hna
              have hnr := HNR.out
              unfold NumRes at hnr
              rw [hnj] at hnr
              have HN := Lib.hid hnr
              have HA := Lib.hid hna
              clear hna hnr hnj
              go_wp2_with (first
                | (go_at_call 57; refine (HN.out _).mono ?_; rintro e1 w2 ⟨⟨x, rfl, hx⟩, rfl⟩; simp only [Option.isSome]))
              refine bodyPost_ret (v := .agg _) (res_whole Tryz.results24 _ _ w.heap.size rfl 56 _ (heap_alloc_new w _) Tryz.underlying56 rfl resSize) rfl ⟨?_, ?_⟩
              · rw [HA.out]; exact rfl
              · exact (Below.refl w.heap.size w).alloc (Nat.le_refl _) _
            | some v =>
              have hna := HNA.out
              rw [hnj] at hna
              have hnr := HNR.out
              unfold NumRes at hnr
              rw [hnj] at hnr
              have HN := Lib.hid hnr
              have HA := Lib.hid hna
              clear hna hnr hnj
              go_wp2_with (first
                | (go_at_call 57; refine (HN.out _).mono ?_; rintro e1 w2 ⟨⟨x, rfl, hx⟩, rfl⟩; have hxv := hx v rfl; subst hxv; simp only [Option.isSome]))
              refine bodyPost_ret (v := .agg _) (res_whole Tryz.results24 _ _ w.heap.size rfl 56 _ (heap_alloc_new w _) Tryz.underlying56 rfl resSize) rfl ⟨?_, ?_⟩
              · rw [HA.out]; exact ⟨none, 0, none, 0, rfl, ElsP.nil _ _ _, ElsP.nil _ _ _⟩
              · exact (Below.refl w.heap.size w).alloc (Nat.le_refl _) _
    · rw [if_neg hnum]
      have hn45 : ¬ l[y].toNat = 45 := by rw [hcn]; intro q; exact hnum (.inl (UInt8.toNat_inj.mp q))
      have hndg : ¬ (48 ≤ l[y].toNat ∧ l[y].toNat ≤ 57) := by rw [hcn]; intro q; exact hnum (.inr (by rw [isDg_nat]; exact q))
      have hwj : wrongJ l y = (y, 7) := by unfold wrongJ; rw [if_neg (by omega)]
      have hwr := fun W => HW.out y W
      rw [hwj] at hwr
      have HWR := Lib.hid hwr
      have t45 : ((l[y].toNat : Int) != 45) = true := by rw [bne_iff_ne]; omega
      clear hwr hwj hnum hn45 hcn hcc h110 h116 h102 h34 h91 h123
      have hway : l[y].toNat < 48 ∨ (¬ l[y].toNat < 48 ∧ 57 < l[y].toNat) := by omega
      rcases hway with hw | ⟨hw1, hw2⟩
      all_goals
        go_enter Tryz.func24, Tryz.ntmps24
        go_wp2_with (first
          | (go_at_call 25; refine (HSN.out _).mono ?_; rintro e1 w2 ⟨rfl, rfl⟩)
          | (go_at_call 52; refine (HWR.out _).mono ?_; rintro e1 w2 ⟨rfl, hb2⟩; have hres2 := (hb2.block w.heap.size (by simp)).trans HR0.out; have hz2 : w.heap.size + 1 ≤ w2.heap.size := (by have := hb2.size; simp at this; omega); have hbb := hb2.mono (B' := w.heap.size) (by simp))
          | (with_reducible refine gate ?_; refine wp_store_res rfl _ _ rfl w.heap.size _ _ _ _ _ _ _ _ _ _ _ _ _ _ rfl rfl hres2 zRes_size ?_; intro w3 hx3 hu3))
        refine bodyPost_ret (v := .agg _) (res_whole Tryz.results24 _ _ w.heap.size rfl 56 _ hx3 Tryz.underlying56 rfl resSize) rfl ⟨?_, ?_⟩
        · exact rfl
        · exact (HB1.out.trans hbb).trans (hu3.below (Nat.le_refl _) (by omega))
end Go.Proofs.YthlppbpccldikaaGreatDoor
