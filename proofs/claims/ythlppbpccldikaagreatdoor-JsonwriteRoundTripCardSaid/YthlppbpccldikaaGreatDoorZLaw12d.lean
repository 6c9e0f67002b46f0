/-
  Chapter 12's statements: the example of the chapter; the walk of Depth.
-/
import Derived.Test.YthlppbpccldikaaGreatDoorZJwr3
import Derived.Test.YthlppbpccldikaaGreatDoorZJcon
set_option linter.unusedVariables false
namespace Go.Proofs.YthlppbpccldikaaGreatDoor
open Go.RowKit

/-! The example. -/
def ja1 : JV := .mk 2 false (-1) [] [] [] 0
def ja0 : JV := .mk 0 false 0 [] [] [] 0
def jaA : JV := .mk 4 false 0 [] [ja1, ja0] [] 0
def jaS : JV := .mk 3 false 0 [120] [] [] 0
def jaV : JV := .mk 5 false 0 [] [] [.mk [97] jaA 0, .mk [] jaS 0] 0
def jaT : JV := .mk 1 true 0 [] [] [] 0
def jaD : JV := .mk 5 false 0 [] [] [.mk [97] ja0 0, .mk [97] jaT 0] 0
theorem jaV_ok : jvd jaV 1 = true := by decide +kernel
theorem jaD_no : jvd jaD 1 = false := by decide +kernel
theorem jaV_text : jtx jaV = [123, 34, 97, 34, 58, 91, 45, 49, 44, 110, 117, 108, 108, 93, 44, 34, 34, 58, 34, 120, 34, 125] := by
  have h1 : Lib.itoa (-1) = [45, 49] := by
    have : Lib.decDigits 1 = [49] := Lib.decDigits_one (by decide)
    show (if (-1 : Int) < 0 then 45 :: Lib.decDigits (Int.natAbs (-1)) else _) = _
    rw [if_pos (by decide)]
    show 45 :: Lib.decDigits 1 = _
    rw [this]
  simp [jaV, jaA, ja1, ja0, jaS, jtx, jtxL, jtxM, jq, escJ, h1]
theorem jaV_fit : JFit jaV ∧ jful jaV ≤ 1000000 := by
  constructor
  · simp [jaV, jaA, ja1, ja0, jaS, JFit, JFitL, JFitM]
  · simp [jaV, jaA, ja1, ja0, jaS, jful, jfulL, jfulM]
theorem jaD_fit : JFit jaD ∧ jful jaD ≤ 1000000 := by
  constructor
  · simp [jaD, ja0, jaT, JFit, JFitL, JFitM]
  · simp [jaD, ja0, jaT, jful, jfulL, jfulM]
theorem ValV.cells {w : World} {p : Nat → Prop} {n : JV} {v : Value} (h : ValV w p n v) : ∃ IA ic MA mc, v = .agg #[.int .i64 n.kind, .bool n.b, .int .i64 n.n, .string (S n.s), .slice IA n.items.length ic, .slice MA n.mems.length mc, .int .i64 n.pos] ∧
    ValP w p n [.int .i64 n.kind, .bool n.b, .int .i64 n.n, .string (S n.s), .slice IA n.items.length ic, .slice MA n.mems.length mc, .int .i64 n.pos] := by
  obtain ⟨cs, hv, hn⟩ := h
  obtain ⟨IA, ic, MA, mc, hcs⟩ := hn.cells
  exact ⟨IA, ic, MA, mc, by rw [hv, hcs], by rw [← hcs]; exact hn⟩
theorem array12_lt (l : List JV) (hne : l ≠ []) (u : Value) (w : World) (h : ElsP valE w (· < w.heap.size) u l) (hl : l.length ≤ 1000000) :
    Calls Tryz.prog 31 #[u] w fun e w' => ∃ v, e = .returned v ∧ ValV w' (· < w'.heap.size) (.mk 4 false 0 [] l [] 0) v ∧ Below w.heap.size w w' := by
  refine (array12_any l hne u w (· < w.heap.size) (fun _ h => h) h hl).mono ?_
  rintro e w' ⟨v, rfl, hv, hb⟩
  exact ⟨v, rfl, hv.keep (fun _ _ => rfl) (fun k hk => hk.elim (fun h => Nat.lt_of_lt_of_le h hb.size) (fun h => h.2)), hb⟩
theorem object12_lt (l : List JM) (hne : l ≠ []) (u : Value) (w : World) (h : ElsP memE w (· < w.heap.size) u l) (hl : l.length ≤ 1000000) :
    Calls Tryz.prog 29 #[u] w fun e w' => ∃ v, e = .returned v ∧ ValV w' (· < w'.heap.size) (.mk 5 false 0 [] [] l 0) v ∧ Below w.heap.size w w' := by
  refine (object12_any l hne u w (· < w.heap.size) (fun _ h => h) h hl).mono ?_
  rintro e w' ⟨v, rfl, hv, hb⟩
  exact ⟨v, rfl, hv.keep (fun _ _ => rfl) (fun k hk => hk.elim (fun h => Nat.lt_of_lt_of_le h hb.size) (fun h => h.2)), hb⟩

set_option maxHeartbeats 4000000 in
set_option maxRecDepth 100000 in
theorem alive12_any (w : World) (hT : TabJ w) : Calls Tryz.prog 15 #[] w fun e w' => e = .returned (.bool true) ∧ Below w.heap.size w w' := by
  have hw1 := fun (W : World) (u : Value) (hW : Below w.heap.size w W) (hu : ValV W (· < W.heap.size) jaV u) => write12_any jaV u W jaV_fit.2 jaV_fit.1 (hT.next hW) hu
  have hw2 := fun (W : World) (u : Value) (hW : Below w.heap.size w W) (hu : ValV W (· < W.heap.size) jaD u) => write12_any jaD u W jaD_fit.2 jaD_fit.1 (hT.next hW) hu
  have hck := fun (W : World) (u : Value) (hW : Below w.heap.size w W) (hu : ValV W (· < W.heap.size) jaV u) => check12_any jaV u W jaV_fit.2 (hT.next hW) hu
  rw [jaV_ok] at hw1 hck
  rw [jaD_no] at hw2
  rw [show outJ jaV true = jtx jaV from rfl, jaV_text, show errJ true = 0 from rfl] at hw1
  rw [show errJ true = 0 from rfl] at hck
  rw [show outJ jaD false = [] from rfl, show errJ false = 22 from rfl] at hw2
  have HW1 := Lib.hid hw1
  have HW2 := Lib.hid hw2
  have HCK := Lib.hid hck
  clear hw1 hw2 hck hT
  go_enter Tryz.func15, Tryz.ntmps15
  go_wp2_with fail
  refine (int12_any (-1) _).mono ?_
  rintro e w1 ⟨rfl, hb1⟩
  go_wp2_with fail
  refine (null12_any _).mono ?_
  rintro e w2 ⟨rfl, hb2⟩
  have B2 := hb1.trans (hb2.mono hb1.size)
  have B3 := B2.alloc B2.size (.cells #[.int .i64 2, .bool false, .int .i64 (-1), .string (S []), .slice none 0 0, .slice none 0 0, .int .i64 0, .int .i64 0, .bool false, .int .i64 0, .string (S []), .slice none 0 0, .slice none 0 0, .int .i64 0] 26)
  have har := array12_lt [ja1, ja0] (by simp) (.slice (some ⟨w2.heap.size, 0, none⟩) 2 2) (w2.alloc (.cells #[.int .i64 2, .bool false, .int .i64 (-1), .string (S []), .slice none 0 0, .slice none 0 0, .int .i64 0, .int .i64 0, .bool false, .int .i64 0, .string (S []), .slice none 0 0, .slice none 0 0, .int .i64 0] 26))
    (els_two valE_ok (w := w2) (p := fun _ => False) (x := ja1) (y := ja0) (ValP.of_open (n := ja1) (ElsP.nil _ _ _) (ElsP.nil _ _ _)) (ValP.of_open (n := ja0) (ElsP.nil _ _ _) (ElsP.nil _ _ _)) (fun _ h => h.elim) _ (fun _ h => h.elim) (by simp)) (by decide)
  have HAR := Lib.hid har
  clear har hb1 hb2
  go_wp2_with fail
  refine HAR.out.mono ?_
  rintro e w3 ⟨v3, rfl, hv3, hb3⟩
  obtain ⟨IA, ic, MA, mc, rfl, hp3⟩ := hv3.cells
  have BB3 := B3.trans (hb3.mono B3.size)
  go_wp2_with fail
  refine (member12c_any [97] jaA IA MA _ ic _ mc _).mono ?_
  rintro e w4 ⟨rfl, hb4⟩
  have BB4 := BB3.trans (hb4.mono BB3.size)
  have hp4 := Lib.hid (ValP.keep (p' := (· < w4.heap.size)) (fun k hk => hb4.block k hk) (fun k hk => Nat.lt_of_lt_of_le hk hb4.size) _ _ hp3)
  have HBB4 := Lib.hid BB4
  clear hv3 hp3 hb3 hb4 B2 B3 HAR BB3 BB4
  go_wp2_with fail
  refine (string12_any [120] _).mono ?_
  rintro e w5 ⟨rfl, hb5⟩
  have BB5 := HBB4.out.trans (hb5.mono HBB4.out.size)
  have hp5 := Lib.hid (ValP.keep (p' := (· < w5.heap.size)) (fun k hk => hb5.block k hk) (fun k hk => Nat.lt_of_lt_of_le hk hb5.size) _ _ hp4.out)
  have HBB5 := Lib.hid BB5
  clear hb5 BB5 hp4 HBB4
  go_wp2_with fail
  refine (member12c_any [] jaS none none 0 0 0 0 _).mono ?_
  rintro e w6 ⟨rfl, hb6⟩
  have BB6 := HBB5.out.trans (hb6.mono HBB5.out.size)
  have hp6 := Lib.hid (ValP.keep (p' := (· < w6.heap.size)) (fun k hk => hb6.block k hk) (fun k hk => Nat.lt_of_lt_of_le hk hb6.size) _ _ hp5.out)
  have hob := object12_lt [.mk [97] jaA 0, .mk [] jaS 0] (by simp) (.slice (some ⟨w6.heap.size, 0, none⟩) 2 2) (w6.alloc (.cells #[.string (S [97]), .int .i64 jaA.kind, .bool jaA.b, .int .i64 jaA.n, .string (S jaA.s), .slice IA jaA.items.length ic, .slice MA jaA.mems.length mc, .int .i64 jaA.pos, .int .i64 0, .string (S []), .int .i64 jaS.kind, .bool jaS.b, .int .i64 jaS.n, .string (S jaS.s), .slice none 0 0, .slice none 0 0, .int .i64 jaS.pos, .int .i64 0] 44))
    (els_two memE_ok (w := w6) (p := (· < w6.heap.size)) (x := .mk [97] jaA 0) (y := .mk [] jaS 0) ⟨_, hp6.out, rfl⟩ ⟨_, ValP.of_open (n := jaS) (ElsP.nil _ _ _) (ElsP.nil _ _ _), rfl⟩ (fun _ h => h) _ (fun k hk => by have h1 : k < w6.heap.size := hk; simp; omega) (by simp)) (by decide)
  have BB7 := BB6.alloc BB6.size (.cells #[.string (S [97]), .int .i64 jaA.kind, .bool jaA.b, .int .i64 jaA.n, .string (S jaA.s), .slice IA jaA.items.length ic, .slice MA jaA.mems.length mc, .int .i64 jaA.pos, .int .i64 0, .string (S []), .int .i64 jaS.kind, .bool jaS.b, .int .i64 jaS.n, .string (S jaS.s), .slice none 0 0, .slice none 0 0, .int .i64 jaS.pos, .int .i64 0] 44)
  have HOB := Lib.hid hob
  have HBB7 := Lib.hid BB7
  clear hb6 BB6 BB7 hp5 hp6 HBB5 hob
  go_wp2_with fail
  refine HOB.out.mono ?_
  rintro e w7 ⟨v7, rfl, hv7, hb7⟩
  obtain ⟨OA, oc, OM, om, rfl, hp7⟩ := hv7.cells
  have BB8 := HBB7.out.trans (hb7.mono HBB7.out.size)
  have hX8 := heap_alloc_new w7 (.cells #[.int .i64 jaV.kind, .bool jaV.b, .int .i64 jaV.n, .string (S jaV.s), .slice OA jaV.items.length oc, .slice OM jaV.mems.length om, .int .i64 jaV.pos] 26)
  have hp8 := Lib.hid (ValP.keep (w' := w7.alloc (.cells #[.int .i64 jaV.kind, .bool jaV.b, .int .i64 jaV.n, .string (S jaV.s), .slice OA jaV.items.length oc, .slice OM jaV.mems.length om, .int .i64 jaV.pos] 26)) (p' := (· < w7.heap.size)) (fun k hk => Below.heap_alloc _ _ _ hk) (fun _ h => h) _ _ hp7)
  have HX8 := Lib.hid hX8
  have HBB8 := Lib.hid (BB8.alloc BB8.size (.cells #[.int .i64 jaV.kind, .bool jaV.b, .int .i64 jaV.n, .string (S jaV.s), .slice OA jaV.items.length oc, .slice OM jaV.mems.length om, .int .i64 jaV.pos] 26))
  clear hv7 hb7 BB8 hp7 HOB HBB7 hX8
  go_wp2_with fail
  refine (HW1.out _ _ HBB8.out ⟨_, rfl, ValP.keep (p' := (· < (w7.alloc (.cells #[.int .i64 jaV.kind, .bool jaV.b, .int .i64 jaV.n, .string (S jaV.s), .slice OA jaV.items.length oc, .slice OM jaV.mems.length om, .int .i64 jaV.pos] 26)).heap.size)) (fun _ _ => rfl) (fun k hk => by have h1 : k < w7.heap.size := hk; simp; omega) _ _ hp8.out⟩).mono ?_
  rintro e w8 ⟨rfl, hb8⟩
  have X8 := Lib.hid ((hb8.block _ (heap_lt HX8.out)).trans HX8.out)
  have P8 := Lib.hid (ValP.keep (fun k hk => hb8.block k (by have h1 : k < w7.heap.size := hk; simp; omega)) (fun _ h => h) _ _ hp8.out)
  have B8 := Lib.hid (HBB8.out.trans (hb8.mono HBB8.out.size))
  have hz8 : w7.heap.size < w8.heap.size := heap_lt X8.out
  clear hb8 HX8 hp8 HBB8
  go_wp2_with fail
  refine (null12_any _).mono ?_
  rintro e w9 ⟨rfl, hb9⟩
  go_wp2_with fail
  refine (member12c_any [97] ja0 none none 0 0 0 0 _).mono ?_
  rintro e w10 ⟨rfl, hb10⟩
  have K10 := Lib.hid (hb9.trans (hb10.mono hb9.size))
  clear hb9 hb10
  go_wp2_with fail
  refine (bool12_any true _).mono ?_
  rintro e w11 ⟨rfl, hb11⟩
  go_wp2_with fail
  refine (member12c_any [97] jaT none none 0 0 0 0 _).mono ?_
  rintro e w12 ⟨rfl, hb12⟩
  have K12 := Lib.hid (K10.out.trans ((hb11.trans (hb12.mono hb11.size)).mono K10.out.size))
  clear hb11 hb12 K10
  have hob := object12_lt [.mk [97] ja0 0, .mk [97] jaT 0] (by simp) (.slice (some ⟨w12.heap.size, 0, none⟩) 2 2) (w12.alloc (.cells #[.string (S [97]), .int .i64 ja0.kind, .bool ja0.b, .int .i64 ja0.n, .string (S ja0.s), .slice none 0 0, .slice none 0 0, .int .i64 ja0.pos, .int .i64 0, .string (S [97]), .int .i64 jaT.kind, .bool jaT.b, .int .i64 jaT.n, .string (S jaT.s), .slice none 0 0, .slice none 0 0, .int .i64 jaT.pos, .int .i64 0] 44))
    (els_two memE_ok (w := w12) (p := fun _ => False) (x := .mk [97] ja0 0) (y := .mk [97] jaT 0) ⟨_, ValP.of_open (n := ja0) (ElsP.nil _ _ _) (ElsP.nil _ _ _), rfl⟩ ⟨_, ValP.of_open (n := jaT) (ElsP.nil _ _ _) (ElsP.nil _ _ _), rfl⟩ (fun _ h => h.elim) _ (fun k hk => hk.elim) (by simp)) (by decide)
  have K13 := Lib.hid (K12.out.alloc K12.out.size (.cells #[.string (S [97]), .int .i64 ja0.kind, .bool ja0.b, .int .i64 ja0.n, .string (S ja0.s), .slice none 0 0, .slice none 0 0, .int .i64 ja0.pos, .int .i64 0, .string (S [97]), .int .i64 jaT.kind, .bool jaT.b, .int .i64 jaT.n, .string (S jaT.s), .slice none 0 0, .slice none 0 0, .int .i64 jaT.pos, .int .i64 0] 44))
  have HOB := Lib.hid hob
  clear hob K12
  go_wp2_with fail
  refine HOB.out.mono ?_
  rintro e w14 ⟨v14, rfl, hv14, hb14⟩
  have K14 := Lib.hid (K13.out.trans (hb14.mono K13.out.size))
  have HV14 := Lib.hid hv14
  clear hv14 hb14 K13 HOB
  go_wp2_with fail
  refine (HW2.out _ _ (B8.out.trans (K14.out.mono B8.out.size)) HV14.out).mono ?_
  rintro e w15 ⟨rfl, hb15⟩
  have K15 := Lib.hid (K14.out.trans (hb15.mono K14.out.size))
  have X15 := (K15.out.block _ hz8).trans X8.out
  obtain ⟨q0, q1, q2, q3, q4, q5, q6⟩ := cells7 X15
  have P15 := Lib.hid (ValP.keep (p' := (· < w15.heap.size)) (fun k hk => K15.out.block k (by have h1 : k < w7.heap.size := hk; omega)) (fun k hk => by have h1 : k < w7.heap.size := hk; have := K15.out.size; show k < w15.heap.size; omega) _ _ P8.out)
  have B15 := Lib.hid (B8.out.trans (K15.out.mono B8.out.size))
  clear hb15 K14 K15 X15 HV14 X8 P8 B8
  go_wp2_with (go_at_call 36; refine (HCK.out _ _ B15.out ⟨_, rfl, P15.out⟩).mono ?_; rintro e w16 ⟨rfl, hb16⟩)
  go_ret
  exact ⟨rfl, B15.out.trans (hb16.mono B15.out.size)⟩
end Go.Proofs.YthlppbpccldikaaGreatDoor
