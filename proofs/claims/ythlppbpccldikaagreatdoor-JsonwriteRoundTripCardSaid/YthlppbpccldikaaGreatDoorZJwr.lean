/-
  Walks of chapter 12: writing (the program): str, member, join, value.
-/
import Derived.Test.YthlppbpccldikaaGreatDoorZBuildW
import Derived.Test.YthlppbpccldikaaGreatDoorH5
import Derived.Test.YthlppbpccldikaaGreatDoorH12
import Derived.Deep.RegionHeld3
set_option linter.unusedVariables false
namespace Go.Proofs.YthlppbpccldikaaGreatDoor
open Go.RowKit

/-- Where the writer stands. -/
structure WS (w0 : World) (B b : Nat) (X : Bytes) (w : World) : Prop where
  bld : W12.Bld B b X w
  le : B ≤ w.heap.size
  tab : TabJ w0
  bel : Below w0.heap.size w0 w
  b0 : w0.heap.size ≤ B
section
variable {w0 : World} {B b : Nat} {X Y : Bytes} {w w' : World}
theorem WS.tabs (h : WS w0 B b X w) : TabJ w := h.tab.next h.bel
theorem WS.next (h : WS w0 B b X w) (k : Below w.heap.size w w') : WS w0 B b X w' := ⟨h.bld.below k, Nat.le_trans h.le k.size, h.tab, h.bel.trans (k.mono h.bel.size), h.b0⟩
theorem WS.alloc (h : WS w0 B b X w) (o : Obj) : WS w0 B b X (w.alloc o) := h.next ((Below.refl _ _).alloc (Nat.le_refl _) o)
theorem WS.drew (h : WS w0 B b X w) : WS w0 B b X w.drew := h.next (Below.refl _ _).drew
theorem WS.fr (h : WS w0 B b X w) (hb : W12.Bld B b Y w') (k : W12.Fr B b w w') : WS w0 B b Y w' := ⟨hb, Nat.le_trans h.le k.below.size, h.tab, h.bel.trans (k.below.mono h.b0), h.b0⟩
end
theorem ws_str {w0 : World} {B b : Nat} {X : Bytes} (m : Bytes) {w : World} (h : WS w0 B b X w) (hl : X.length + m.length ≤ 140737488355328) :
    Calls Tryz.prog 63 #[.pointer (some ⟨b, 0, none⟩), .string (S m)] w fun e w' => e = .returned (.tuple #[.int .i64 m.length, .nilIface]) ∧ WS w0 B b (X ++ m) w' ∧ W12.Fr B b w w' := by
  refine (W12.writeString_any B b X m w h.bld hl h.le).mono ?_
  rintro e w' ⟨rfl, h1, h2, h3⟩
  exact ⟨rfl, h.fr h1 ⟨h2, h3⟩, h2, h3⟩
theorem ws_byte {w0 : World} {B b : Nat} {X : Bytes} (c : UInt8) {w : World} (h : WS w0 B b X w) (hl : X.length + 1 ≤ 140737488355328) :
    Calls Tryz.prog 87 #[.pointer (some ⟨b, 0, none⟩), .int .u8 c.toNat] w fun e w' => e = .returned .nilIface ∧ WS w0 B b (X ++ [c]) w' ∧ W12.Fr B b w w' := by
  have hc := UInt8.toNat_lt c
  refine (W12.writeByte_any B b X c.toNat w h.bld (by omega) hl h.le).mono ?_
  rintro e w' ⟨rfl, h1, h2, h3⟩
  rw [Int.toNat_natCast, UInt8.ofNat_toNat] at h1
  exact ⟨rfl, h.fr h1 ⟨h2, h3⟩, h2, h3⟩

set_option maxHeartbeats 1000000 in
theorem str12_any {w0 : World} {B b : Nat} {X : Bytes} (l : Bytes) (w : World) (h : WS w0 B b X w) (hu : utf8J l = true) (hl : l.length ≤ 1099511627776) (hx : X.length + (jq l).length ≤ 140737488355328) :
    Calls Tryz.prog 66 #[.pointer (some ⟨b, 0, none⟩), .string (S l)] w fun e w' => e = .returned (.tuple #[]) ∧ WS w0 B b (X ++ jq l) w' ∧ W12.Fr B b w w' := by
  have hq := quote_any l w h.tabs hl
  unfold quoteB quoteE at hq
  rw [hu] at hq
  simp only [if_true] at hq
  have HQ := Lib.hid hq
  have HS := Lib.hid h
  clear hq h
  go_enter Tryz.func66, Tryz.ntmps66
  go_wp2_with (first
    | (go_at_call 86; refine HQ.out.mono ?_; rintro e w1 ⟨rfl, hb1⟩)
    | (go_at_call 63; refine (ws_str (jq l) (HS.out.next hb1) hx).mono ?_; rintro e w2 ⟨rfl, h2, f2⟩))
  go_end0
  exact ⟨rfl, h2, ((W12.Fr.refl B b w).next HS.out.le hb1).trans f2⟩

/-- What is shown of a value: writing it. -/
def VW (v : JV) : Prop := ∀ (u : Value) (B b : Nat) (X : Bytes) (w w0 : World), jful v ≤ 1000000 → JFit v → jrv v = true → WS w0 B b X w → ValV w (· < B) v u → X.length + (jtx v).length ≤ 140737488355328 →
  Calls Tryz.prog 37 #[.pointer (some ⟨b, 0, none⟩), u] w fun e w' => e = .returned (.tuple #[]) ∧ WS w0 B b (X ++ jtx v) w' ∧ W12.Fr B b w w'
/-- The text of a member. -/
def jtm (m : JM) : Bytes := jq m.key ++ (58 :: jtx m.val)
def MW (m : JM) : Prop := ∀ (u : Value) (B b : Nat) (X : Bytes) (w w0 : World), m.key.length + jful m.val ≤ 1000000 → JFit m.val → jrv m.val = true → utf8J m.key = true → WS w0 B b X w → (∃ cs : List Value, u = .agg cs.toArray ∧ MemP w (· < B) m cs) → X.length + (jtm m).length ≤ 140737488355328 →
  Calls Tryz.prog 69 #[.pointer (some ⟨b, 0, none⟩), u] w fun e w' => e = .returned (.tuple #[]) ∧ WS w0 B b (X ++ jtm m) w' ∧ W12.Fr B b w w'
theorem neU8V : (26 : TypeId) ≠ 5 := by decide
theorem neU8M : (44 : TypeId) ≠ 5 := by decide

set_option maxHeartbeats 4000000 in
set_option maxRecDepth 100000 in
theorem member12_any (m : JM) (ih : VW m.val) : MW m := by
  intro u B b X w w0 hf hfit hv hu hw hm hl
  obtain ⟨cs, rfl, vs, hvs, rfl⟩ := hm
  obtain ⟨NA, nc, NM, nd, hvse, _, _, _, _⟩ := hvs.open_
  subst hvse
  have hb0 := hw.b0
  have hle := hw.le
  have hblt : b < w.heap.size := hw.bld.lt
  have hX0 := heap_alloc_new w (memBox m NA nc NM nd)
  unfold jtm at hl ⊢
  have hlen : X.length + ((jq m.key).length + (1 + (jtx m.val).length)) ≤ 140737488355328 := by
    simp only [List.length_append, List.length_cons] at hl; omega
  have hst := str12_any m.key (w.alloc (memBox m NA nc NM nd)) (hw.alloc _) hu (by omega) (by omega)
  have hva := fun (W : World) (hW : WS w0 B b (X ++ jq m.key ++ [58]) W) (hk : W12.Fr B b w W) => ih _ B b (X ++ jq m.key ++ [58]) W w0 (by omega) hfit hv hW ⟨_, rfl, ValP.keep (fun k hk' => hk.below.block k hk') (fun _ h => h) _ _ hvs⟩ (by simp only [List.length_append, List.length_cons, List.length_nil]; omega)
  have HW := Lib.hid hw
  have HST := Lib.hid hst
  have HVA := Lib.hid hva
  clear hw hst hva hvs hl
  simp only [List.cons_append, List.nil_append]
  go_enter Tryz.func69, Tryz.ntmps69
  go_wp2_with (first
    | (go_at_call 66; refine HST.out.mono ?_; rintro e w1 ⟨rfl, h1, f1⟩; have X1 := f1.block (k := w.heap.size) (by omega) neU8M hX0; have F1 := ((W12.Fr.refl B b w).alloc hle (memBox m NA nc NM nd)).trans f1)
    | (go_at_call 87; refine (ws_byte 58 h1 (by simp only [List.length_append]; omega)).mono ?_; rintro e w2 ⟨rfl, h2, f2⟩; have X2 := f2.block (k := w.heap.size) (by omega) neU8M X1; obtain ⟨q0, q1, q2, q3, q4, q5, q6, q7, q8⟩ := mbox_cells X2; have F2 := F1.trans f2)
    | (go_at_call 37; refine (HVA.out _ h2 F2).mono ?_; rintro e w3 ⟨rfl, h3, f3⟩))
  go_end0
  exact ⟨rfl, by simpa using h3, F2.trans f3⟩
end Go.Proofs.YthlppbpccldikaaGreatDoor
