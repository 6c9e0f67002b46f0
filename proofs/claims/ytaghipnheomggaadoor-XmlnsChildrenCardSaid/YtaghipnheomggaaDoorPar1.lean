/-
  Walks of chapter 7 (reference): the parser's block, fail.
-/
import Derived.Test.YtaghipnheomggaaDoorTokR7
import Derived.Test.YtaghipnheomggaaDoorTre7
set_option linter.unusedVariables false
namespace Go.Proofs.YtaghipnheomggaaDoor
open Go.RowKit

/-- Block pb is a parser: the tokens, the next one's number, the error's place and the error. -/
def PB (w : World) (pb : Nat) (A : Option Addr) (n c : Nat) (i ea er : Int) : Prop :=
  w.heap[pb]? = some (.cells #[.slice A n c, .int .i64 i, .int .i64 ea, .int .i64 er] 82 (0, 0))
section
variable {w w' : World} {pb : Nat} {A : Option Addr} {n c : Nat} {i ea er : Int}
theorem PB.lt (h : PB w pb A n c i ea er) : pb < w.heap.size := heap_lt h
theorem PB.below (h : PB w pb A n c i ea er) (hb : Below w.heap.size w w') : PB w' pb A n c i ea er := (hb.block pb h.lt).trans h
theorem PB.upd {b : Nat} (h : PB w pb A n c i ea er) (hb : pb ≠ b) (hu : Upd b w w') : PB w' pb A n c i ea er := (hu.block pb h.lt hb).trans h
theorem PB.move (h : PB w pb A n c i ea er) (m : Int) : PB (w.setCell ⟨pb, 1, none⟩ (.int .i64 m)) pb A n c m ea er := heap_set (i := 1) h _
theorem PB.fail (h : PB w pb A n c i ea er) (x y : Int) : PB ((w.setCell ⟨pb, 2, none⟩ (.int .i64 x)).setCell ⟨pb, 3, none⟩ (.int .i64 y)) pb A n c i x y := heap_set (i := 3) (heap_set (i := 2) h _) _
theorem PB.free (h : PB w pb A n c i ea er) (j : Nat) : w.frozen? ⟨pb, j, none⟩ = false := Lib.frozen_of_heap h j
end

/-- The zero node. -/
abbrev zNodC : Array Value := #[.int .i64 0, .string ⟨#[]⟩, .string ⟨#[]⟩, .slice none 0 0, .slice none 0 0, .string ⟨#[]⟩, .int .i64 0]
abbrev zNodeV : Value := .agg #[.int .i64 0, .string ⟨#[]⟩, .string ⟨#[]⟩, .slice none 0 0, .slice none 0 0, .string ⟨#[]⟩, .int .i64 0]
set_option maxHeartbeats 1000000 in
set_option maxRecDepth 100000 in
theorem refFail_any (pb : Nat) (A : Option Addr) (n c : Nat) (i ea er x y : Int) (w : World) (h : PB w pb A n c i ea er) :
    Calls Tryd.prog 61 #[.pointer (some ⟨pb, 0, none⟩), .int .i64 x, .int .i64 y] w fun e w' => e = .returned zNodeV ∧ PB w' pb A n c i x y ∧ Upd pb w w' := by
  have hlt := h.lt
  obtain ⟨p0, p1, p2, p3⟩ := cells4 h
  have hf := h.free
  have hsz : ((w.setCell ⟨pb, 2, none⟩ (.int .i64 x)).setCell ⟨pb, 3, none⟩ (.int .i64 y)).heap.size = w.heap.size := by simp [World.setCell]
  have hres2 : (((w.setCell ⟨pb, 2, none⟩ (.int .i64 x)).setCell ⟨pb, 3, none⟩ (.int .i64 y)).alloc (.cells zNodC 29)).heap[w.heap.size]? = some (.cells zNodC 29 (0, 0)) := by
    rw [← hsz]; exact heap_alloc_new _ _
  have H2 : Hid (PB (((w.setCell ⟨pb, 2, none⟩ (.int .i64 x)).setCell ⟨pb, 3, none⟩ (.int .i64 y)).alloc (.cells zNodC 29)) pb A n c i x y) := (h.fail x y).below ((Below.refl _ _).alloc (Nat.le_refl _) _)
  have hne2 : ¬ (pb = w.heap.size) := by omega
  have HU : Hid (Upd pb w (((w.setCell ⟨pb, 2, none⟩ (.int .i64 x)).setCell ⟨pb, 3, none⟩ (.int .i64 y)).alloc (.cells zNodC 29))) := ((Upd.set_ pb 2 w _).trans (Upd.set_ pb 3 _ _)).alloc _
  clear h hsz
  go_enter Tryd.func61, Tryd.ntmps61
  go_wp2_with (with_reducible refine gate ?_; refine wp_store_node rfl _ _ rfl w.heap.size _ _ _ _ _ _ _ _ _ _ _ _ rfl rfl hres2 rfl ?_; intro w2 hw2 hu2)
  refine bodyPost_ret (v := .agg _) (res_whole Tryd.results61 _ _ w.heap.size rfl _ _ hw2 Tryd.underlying29 rfl nodeSize) rfl ⟨rfl, H2.out.upd hne2 hu2, ?_⟩
  have hs := hu2.size
  exact ⟨hu2.os.trans HU.out.os, hu2.tape.trans HU.out.tape, hu2.output.trans HU.out.output, Nat.le_trans HU.out.size hu2.size, fun k hk hkp => (hu2.block k (Nat.lt_of_lt_of_le hk HU.out.size) (by omega)).trans (HU.out.block k hk hkp)⟩
end Go.Proofs.YtaghipnheomggaaDoor
