/-
  Walks of chapter 12: writing (the program): join at both types.
-/
import Derived.Test.YthlppbpccldikaaGreatDoorZJwr
set_option linter.unusedVariables false
namespace Go.Proofs.YthlppbpccldikaaGreatDoor
open Go.RowKit

theorem jtxL_nil (f : Bool) : jtxL f [] = [] := by rw [jtxL]
theorem jtxM_nil (f : Bool) : jtxM f [] = [] := by rw [jtxM]
theorem jtxL_cons (f : Bool) (v : JV) (l : List JV) : jtxL f (v :: l) = (if f = true then [] else [44]) ++ (jtx v ++ jtxL false l) := by rw [jtxL]
theorem jtxM_cons (f : Bool) (m : JM) (l : List JM) : jtxM f (m :: l) = (if f = true then [] else [44]) ++ (jtm m ++ jtxM false l) := by
  cases m with
  | mk k v p => rw [jtxM]; unfold jtm; simp [JM.key, JM.val]

set_option maxHeartbeats 4000000 in
set_option maxRecDepth 100000 in
theorem joinV_any (l : List JV) (hA : ∀ x ∈ l, VW x) (A : Option Addr) (n c : Nat) (B b : Nat) (X : Bytes) (w w0 : World) (hside : ∀ x ∈ l, jful x ≤ 1000000 ∧ JFit x ∧ jrv x = true) (hlen : l.length ≤ 1000000) (hw : WS w0 B b X w) (hv : ElsP valE w (· < B) (.slice A n c) l) (hl : X.length + (jtxL true l).length + 2 ≤ 140737488355328) :
    Calls Tryz.prog 67 #[.pointer (some ⟨b, 0, none⟩), .int .u8 91, .int .u8 93, .slice A n c, .func (.func 37) #[.pointer (some ⟨b, 0, none⟩)] #[]] w fun e w' => e = .returned (.tuple #[]) ∧ WS w0 B b (X ++ (91 :: (jtxL true l ++ [93]))) w' ∧ W12.Fr B b w w' := by
  obtain ⟨A', c', hve, hc⟩ := hv.slice
  cases hve
  obtain ⟨T, hT⟩ : ∃ T, X ++ (91 :: jtxL true l) = T := ⟨_, rfl⟩
  have hTl : T.length + 1 ≤ 140737488355328 := by rw [← hT]; simp only [List.length_append, List.length_cons]; omega
  have hfin : X ++ (91 :: (jtxL true l ++ [93])) = T ++ [93] := by rw [← hT]; simp
  rw [hfin]
  have hwb := ws_byte 91 hw (by omega)
  have e1 : (((91 : UInt8).toNat : Nat) : Int) = 91 := rfl
  rw [e1] at hwb
  have hle := hw.le
  have HV := Lib.hid hv
  have HA := Lib.hid hA
  have HS := Lib.hid hside
  have HWB := Lib.hid hwb
  have HT := Lib.hid (show X ++ [91] ++ jtxL true (l.drop 0) = T by rw [← hT]; simp)
  clear hv hA hside hwb hT hfin hw e1 hl
  go_enter Tryz.func67, Tryz.ntmps67
  go_wp2_with fail
  refine HWB.out.mono ?_
  rintro e w1 ⟨rfl, h1, f1⟩
  have H1 := Lib.hid h1
  have F1 := Lib.hid f1
  clear h1 f1
  go_wp2_with fail
  go_loopw [19] (fun i19 wr => ∃ (i : Nat) (Y : Bytes), i ≤ l.length ∧ i19 = .int .i64 i ∧ WS w0 B b Y wr ∧ Y ++ jtxL (decide (i = 0)) (l.drop i) = T ∧ W12.Fr B b w wr) (fun i19 _ => l.length - (intOf i19).toNat)
  case atStart => exact ⟨0, X ++ [91], Nat.zero_le _, rfl, H1.out, HT.out, F1.out⟩
  case round =>
    obtain ⟨i, Y, hi, rfl, hws, hres, hfr⟩ := hrel
    have HWS := Lib.hid hws
    have HFR := Lib.hid hfr
    have hler := hws.le
    have hbr : b < wr.heap.size := hws.bld.lt
    clear hws hfr H1 F1 HT
    by_cases hlt : i < l.length
    · have hlt' : (i : Int) < l.length := by omega
      rw [List.drop_eq_getElem_cons hlt] at hres
      have hxm := List.getElem_mem hlt
      obtain ⟨kb, off, cs, rfl, hbl, hr, hcs⟩ := HV.out.at_ hlt
      have hr1 := rangeAt_keep hr (HFR.out.below.block kb hbl)
      have hax := HA.out _ hxm
      have hsx := HS.out _ hxm
      clear hxm
      generalize l[i] = x at *
      have hcs1 := ValP.keep (fun k hk => HFR.out.below.block k hk) (fun _ h => h) _ _ hcs
      obtain ⟨NA, nc, NM, nd, rfl, _, _, _, _⟩ := hcs.open_
      have hX4 := heap_alloc_new wr (valBox x NA nc NM nd)
      have hra := range_of_heap (cs := [.int .i64 x.kind, .bool x.b, .int .i64 x.n, .string (S x.s), .slice NA x.items.length nc, .slice NM x.mems.length nd, .int .i64 x.pos]) hX4
      have HR1 := Lib.hid hr1
      have HX4 := Lib.hid hX4
      have HWA := Lib.hid (HWS.out.alloc (valBox x NA nc NM nd))
      have HFA := Lib.hid (HFR.out.alloc hler (valBox x NA nc NM nd))
      rw [jtxL_cons] at hres
      have hYl : Y.length + (jtx x).length + 1 ≤ 140737488355328 := by
        have := congrArg List.length hres
        simp only [List.length_append] at this
        omega
      by_cases hi0 : i = 0
      · have t0 : ¬ ((0 : Int) < i) := by omega
        rw [decide_eq_true hi0] at hres
        simp only [if_true, List.nil_append] at hres
        have hnx : (Y ++ (jtx x)) ++ jtxL (decide (i + 1 = 0)) (l.drop (i + 1)) = T := by rw [decide_eq_false (by omega : ¬ i + 1 = 0), ← hres]; simp
        have hcall := hax (.agg #[.int .i64 x.kind, .bool x.b, .int .i64 x.n, .string (S x.s), .slice NA x.items.length nc, .slice NM x.mems.length nd, .int .i64 x.pos]) B b Y (wr.alloc (valBox x NA nc NM nd)) w0 hsx.1 hsx.2.1 hsx.2.2 HWA.out ⟨_, rfl, ValP.keep (fun k hk => Below.heap_alloc _ _ _ (Nat.lt_of_lt_of_le hk hler)) (fun _ h => h) _ _ hcs1⟩ (by omega)
        have HC := Lib.hid hcall
        have HNX := Lib.hid hnx
        clear hres hcall hnx hr hr1 hcs hax hi0 hX4
        go_wp2_with (first
          | (with_reducible refine gate ?_; refine wp_load_val rfl _ rfl kb (off + i * 7) rfl _ rfl HR1.out ?_)
          | (with_reducible refine gate ?_; refine wp_load_val rfl _ rfl wr.heap.size 0 rfl _ rfl hra ?_)
          | (go_at_call 37; refine HC.out.mono ?_; rintro e w3 ⟨rfl, h3, f3⟩))
        go_roundw
        case rel => exact ⟨i + 1, _, by omega, by go_num, h3, HNX.out, HFA.out.trans f3⟩
        case measure => simp [intOf]; omega
      · have t0 : (0 : Int) < i := by omega
        rw [decide_eq_false hi0] at hres
        simp only [Bool.false_eq_true, if_false] at hres
        have hnx : (Y ++ [44] ++ (jtx x)) ++ jtxL (decide (i + 1 = 0)) (l.drop (i + 1)) = T := by rw [decide_eq_false (by omega : ¬ i + 1 = 0), ← hres]; simp
        have hcm := ws_byte 44 HWA.out (by omega)
        have e2 : (((44 : UInt8).toNat : Nat) : Int) = 44 := rfl
        rw [e2] at hcm
        have hcall := fun (W : World) (hW : WS w0 B b (Y ++ [44]) W) (hF : W12.Fr B b wr W) => hax (.agg #[.int .i64 x.kind, .bool x.b, .int .i64 x.n, .string (S x.s), .slice NA x.items.length nc, .slice NM x.mems.length nd, .int .i64 x.pos]) B b (Y ++ [44]) W w0 hsx.1 hsx.2.1 hsx.2.2 hW ⟨_, rfl, ValP.keep (fun k hk => hF.below.block k hk) (fun _ h => h) _ _ hcs1⟩ (by simp only [List.length_append, List.length_cons, List.length_nil]; omega)
        have HC := Lib.hid hcall
        have HCM := Lib.hid hcm
        have HNX := Lib.hid hnx
        clear hres hcall hnx hr hr1 hcs hax hi0 hX4 hcm e2
        go_wp2_with (first
          | (with_reducible refine gate ?_; refine wp_load_val rfl _ rfl kb (off + i * 7) rfl _ rfl HR1.out ?_)
          | (go_at_call 87; refine HCM.out.mono ?_; rintro e w2 ⟨rfl, h2, f2⟩; have X2 := f2.block (k := wr.heap.size) (by omega) neU8V HX4.out; have hra2 := range_of_heap (cs := [.int .i64 x.kind, .bool x.b, .int .i64 x.n, .string (S x.s), .slice NA x.items.length nc, .slice NM x.mems.length nd, .int .i64 x.pos]) X2; have F2 := ((W12.Fr.refl B b wr).alloc hler (valBox x NA nc NM nd)).trans f2)
          | (with_reducible refine gate ?_; refine wp_load_val rfl _ rfl wr.heap.size 0 rfl _ rfl hra2 ?_)
          | (go_at_call 37; refine (HC.out _ h2 F2).mono ?_; rintro e w3 ⟨rfl, h3, f3⟩))
        go_roundw
        case rel => exact ⟨i + 1, _, by omega, by go_num, h3, HNX.out, (HFR.out.trans F2).trans f3⟩
        case measure => simp [intOf]; omega
    · have hil : i = l.length := by omega
      subst hil
      have hlt' : ¬ ((l.length : Int) < l.length) := by omega
      rw [List.drop_length, jtxL_nil, List.append_nil] at hres
      subst hres
      have hwe := ws_byte 93 HWS.out hTl
      have e3 : (((93 : UInt8).toNat : Nat) : Int) = 93 := rfl
      rw [e3] at hwe
      have HWE := Lib.hid hwe
      clear hwe e3 hlt
      go_wp2_with fail
      refine HWE.out.mono ?_
      rintro e w3 ⟨rfl, h3, f3⟩
      go_wp2_with fail
      go_end0
      exact ⟨rfl, h3, HFR.out.trans f3⟩

set_option maxHeartbeats 4000000 in
set_option maxRecDepth 100000 in
theorem joinM_any (l : List JM) (hA : ∀ x ∈ l, MW x) (A : Option Addr) (n c : Nat) (B b : Nat) (X : Bytes) (w w0 : World) (hside : ∀ x ∈ l, (x.key.length + jful x.val ≤ 1000000 ∧ JFit x.val) ∧ jrv x.val = true ∧ utf8J x.key = true) (hlen : l.length ≤ 1000000) (hw : WS w0 B b X w) (hv : ElsP memE w (· < B) (.slice A n c) l) (hl : X.length + (jtxM true l).length + 2 ≤ 140737488355328) :
    Calls Tryz.prog 68 #[.pointer (some ⟨b, 0, none⟩), .int .u8 123, .int .u8 125, .slice A n c, .func (.func 69) #[.pointer (some ⟨b, 0, none⟩)] #[]] w fun e w' => e = .returned (.tuple #[]) ∧ WS w0 B b (X ++ (123 :: (jtxM true l ++ [125]))) w' ∧ W12.Fr B b w w' := by
  obtain ⟨A', c', hve, hc⟩ := hv.slice
  cases hve
  obtain ⟨T, hT⟩ : ∃ T, X ++ (123 :: jtxM true l) = T := ⟨_, rfl⟩
  have hTl : T.length + 1 ≤ 140737488355328 := by rw [← hT]; simp only [List.length_append, List.length_cons]; omega
  have hfin : X ++ (123 :: (jtxM true l ++ [125])) = T ++ [125] := by rw [← hT]; simp
  rw [hfin]
  have hwb := ws_byte 123 hw (by omega)
  have e1 : (((123 : UInt8).toNat : Nat) : Int) = 123 := rfl
  rw [e1] at hwb
  have hle := hw.le
  have HV := Lib.hid hv
  have HA := Lib.hid hA
  have HS := Lib.hid hside
  have HWB := Lib.hid hwb
  have HT := Lib.hid (show X ++ [123] ++ jtxM true (l.drop 0) = T by rw [← hT]; simp)
  clear hv hA hside hwb hT hfin hw e1 hl
  go_enter Tryz.func68, Tryz.ntmps68
  go_wp2_with fail
  refine HWB.out.mono ?_
  rintro e w1 ⟨rfl, h1, f1⟩
  have H1 := Lib.hid h1
  have F1 := Lib.hid f1
  clear h1 f1
  go_wp2_with fail
  go_loopw [19] (fun i19 wr => ∃ (i : Nat) (Y : Bytes), i ≤ l.length ∧ i19 = .int .i64 i ∧ WS w0 B b Y wr ∧ Y ++ jtxM (decide (i = 0)) (l.drop i) = T ∧ W12.Fr B b w wr) (fun i19 _ => l.length - (intOf i19).toNat)
  case atStart => exact ⟨0, X ++ [123], Nat.zero_le _, rfl, H1.out, HT.out, F1.out⟩
  case round =>
    obtain ⟨i, Y, hi, rfl, hws, hres, hfr⟩ := hrel
    have HWS := Lib.hid hws
    have HFR := Lib.hid hfr
    have hler := hws.le
    have hbr : b < wr.heap.size := hws.bld.lt
    clear hws hfr H1 F1 HT
    by_cases hlt : i < l.length
    · have hlt' : (i : Int) < l.length := by omega
      rw [List.drop_eq_getElem_cons hlt] at hres
      have hxm := List.getElem_mem hlt
      obtain ⟨kb, off, cs, rfl, hbl, hr, hcs⟩ := HV.out.at_ hlt
      have hr1 := rangeAt_keep hr (HFR.out.below.block kb hbl)
      have hax := HA.out _ hxm
      have hsx := HS.out _ hxm
      clear hxm
      generalize l[i] = x at *
      have hcs1 := MemP.keep (fun k hk => HFR.out.below.block k hk) (fun _ h => h) hcs
      obtain ⟨vs, hvs, hcse⟩ := hcs1
      obtain ⟨NA, nc, NM, nd, hvse, _, _, _, _⟩ := hvs.open_
      subst hvse
      simp only [List.cons_append, List.nil_append] at hcse
      subst hcse
      have hX4 := heap_alloc_new wr (memBox x NA nc NM nd)
      have hra := range_of_heap (cs := [.string (S x.key), .int .i64 x.val.kind, .bool x.val.b, .int .i64 x.val.n, .string (S x.val.s), .slice NA x.val.items.length nc, .slice NM x.val.mems.length nd, .int .i64 x.val.pos, .int .i64 x.pos]) hX4
      have HR1 := Lib.hid hr1
      have HX4 := Lib.hid hX4
      have HWA := Lib.hid (HWS.out.alloc (memBox x NA nc NM nd))
      have HFA := Lib.hid (HFR.out.alloc hler (memBox x NA nc NM nd))
      rw [jtxM_cons] at hres
      have hYl : Y.length + (jtm x).length + 1 ≤ 140737488355328 := by
        have := congrArg List.length hres
        simp only [List.length_append] at this
        omega
      by_cases hi0 : i = 0
      · have t0 : ¬ ((0 : Int) < i) := by omega
        rw [decide_eq_true hi0] at hres
        simp only [if_true, List.nil_append] at hres
        have hnx : (Y ++ (jtm x)) ++ jtxM (decide (i + 1 = 0)) (l.drop (i + 1)) = T := by rw [decide_eq_false (by omega : ¬ i + 1 = 0), ← hres]; simp
        have hcall := hax (.agg #[.string (S x.key), .int .i64 x.val.kind, .bool x.val.b, .int .i64 x.val.n, .string (S x.val.s), .slice NA x.val.items.length nc, .slice NM x.val.mems.length nd, .int .i64 x.val.pos, .int .i64 x.pos]) B b Y (wr.alloc (memBox x NA nc NM nd)) w0 hsx.1.1 hsx.1.2 hsx.2.1 hsx.2.2 HWA.out ⟨_, rfl, _, ValP.keep (fun k hk => Below.heap_alloc _ _ _ (Nat.lt_of_lt_of_le hk hler)) (fun _ h => h) _ _ hvs, rfl⟩ (by omega)
        have HC := Lib.hid hcall
        have HNX := Lib.hid hnx
        clear hres hcall hnx hr hr1 hcs hax hi0 hX4
        go_wp2_with (first
          | (with_reducible refine gate ?_; refine wp_load_mem rfl _ rfl kb (off + i * 9) rfl _ rfl HR1.out ?_)
          | (with_reducible refine gate ?_; refine wp_load_mem rfl _ rfl wr.heap.size 0 rfl _ rfl hra ?_)
          | (go_at_call 69; refine HC.out.mono ?_; rintro e w3 ⟨rfl, h3, f3⟩))
        go_roundw
        case rel => exact ⟨i + 1, _, by omega, by go_num, h3, HNX.out, HFA.out.trans f3⟩
        case measure => simp [intOf]; omega
      · have t0 : (0 : Int) < i := by omega
        rw [decide_eq_false hi0] at hres
        simp only [Bool.false_eq_true, if_false] at hres
        have hnx : (Y ++ [44] ++ (jtm x)) ++ jtxM (decide (i + 1 = 0)) (l.drop (i + 1)) = T := by rw [decide_eq_false (by omega : ¬ i + 1 = 0), ← hres]; simp
        have hcm := ws_byte 44 HWA.out (by omega)
        have e2 : (((44 : UInt8).toNat : Nat) : Int) = 44 := rfl
        rw [e2] at hcm
        have hcall := fun (W : World) (hW : WS w0 B b (Y ++ [44]) W) (hF : W12.Fr B b wr W) => hax (.agg #[.string (S x.key), .int .i64 x.val.kind, .bool x.val.b, .int .i64 x.val.n, .string (S x.val.s), .slice NA x.val.items.length nc, .slice NM x.val.mems.length nd, .int .i64 x.val.pos, .int .i64 x.pos]) B b (Y ++ [44]) W w0 hsx.1.1 hsx.1.2 hsx.2.1 hsx.2.2 hW ⟨_, rfl, _, ValP.keep (fun k hk => hF.below.block k hk) (fun _ h => h) _ _ hvs, rfl⟩ (by simp only [List.length_append, List.length_cons, List.length_nil]; omega)
        have HC := Lib.hid hcall
        have HCM := Lib.hid hcm
        have HNX := Lib.hid hnx
        clear hres hcall hnx hr hr1 hcs hax hi0 hX4 hcm e2
        go_wp2_with (first
          | (with_reducible refine gate ?_; refine wp_load_mem rfl _ rfl kb (off + i * 9) rfl _ rfl HR1.out ?_)
          | (go_at_call 87; refine HCM.out.mono ?_; rintro e w2 ⟨rfl, h2, f2⟩; have X2 := f2.block (k := wr.heap.size) (by omega) neU8M HX4.out; have hra2 := range_of_heap (cs := [.string (S x.key), .int .i64 x.val.kind, .bool x.val.b, .int .i64 x.val.n, .string (S x.val.s), .slice NA x.val.items.length nc, .slice NM x.val.mems.length nd, .int .i64 x.val.pos, .int .i64 x.pos]) X2; have F2 := ((W12.Fr.refl B b wr).alloc hler (memBox x NA nc NM nd)).trans f2)
          | (with_reducible refine gate ?_; refine wp_load_mem rfl _ rfl wr.heap.size 0 rfl _ rfl hra2 ?_)
          | (go_at_call 69; refine (HC.out _ h2 F2).mono ?_; rintro e w3 ⟨rfl, h3, f3⟩))
        go_roundw
        case rel => exact ⟨i + 1, _, by omega, by go_num, h3, HNX.out, (HFR.out.trans F2).trans f3⟩
        case measure => simp [intOf]; omega
    · have hil : i = l.length := by omega
      subst hil
      have hlt' : ¬ ((l.length : Int) < l.length) := by omega
      rw [List.drop_length, jtxM_nil, List.append_nil] at hres
      subst hres
      have hwe := ws_byte 125 HWS.out hTl
      have e3 : (((125 : UInt8).toNat : Nat) : Int) = 125 := rfl
      rw [e3] at hwe
      have HWE := Lib.hid hwe
      clear hwe e3 hlt
      go_wp2_with fail
      refine HWE.out.mono ?_
      rintro e w3 ⟨rfl, h3, f3⟩
      go_wp2_with fail
      go_end0
      exact ⟨rfl, h3, HFR.out.trans f3⟩
end Go.Proofs.YthlppbpccldikaaGreatDoor
