/-
  Walks of chapter 12: constructors at every slice; equality of a value with itself.
-/
import Derived.Test.YtadkgjbidhfefaaDoorKey13
import Derived.Test.YtadkgjbidhfefaaDoorEqJ2
import Derived.Test.YtadkgjbidhfefaaDoorWei12
import Derived.Test.YtadkgjbidhfefaaDoorLaw12d
set_option linter.unusedVariables false
namespace Go.Proofs.YtadkgjbidhfefaaDoor
open Go.RowKit

mutual
theorem jeq_self (o : Bool) : ∀ v : JV, jeq o v v = true
  | .mk k b n s is ms p => by
    rw [jeq]
    simp only [JV.items, JV.mems]
    rw [jeqL_self o is, jeqM_self o ms]
    simp [jhEq, JV.kind, JV.b, JV.n, JV.s, JV.items, JV.mems, JV.pos]
theorem jeqL_self (o : Bool) : ∀ l : List JV, jeqL o l l = true
  | [] => by rw [jeqL]
  | v :: l => by rw [jeqL, jeq_self o v, jeqL_self o l]; rfl
theorem jeqM_self (o : Bool) : ∀ l : List JM, jeqM o l l = true
  | [] => by rw [jeqM]
  | .mk k v p :: l => by
    rw [jeqM, jeqM_self o l]
    simp only [JM.key, JM.pos, JM.val]
    rw [jeq_self o v]
    simp
end
def jobj (l : List JM) : JV := .mk 5 false 0 [] [] l 0

set_option maxHeartbeats 1000000 in
set_option maxRecDepth 100000 in
theorem cloneM_all (l : List JM) (u : Value) (w : World) (p : Nat → Prop) (hp : ∀ k, p k → k < w.heap.size) (h : ElsP memE w p u l) (hl : l.length ≤ 1000000000) :
    Calls Tryd.prog 56 #[u] w fun e w' => ∃ v', e = .returned v' ∧ ElRow memE w' w.heap.size p v' l ∧ Below w.heap.size w w' := by
  obtain ⟨A, cap, rfl, hcap, hh⟩ := id h
  cases A with
  | none =>
    have hn : l = [] := by
      rcases hh with h | ⟨b, off, hA, _⟩
      · exact h
      · cases hA
    subst hn
    have HN := Lib.hid (ElRow.nil memE w w.heap.size p)
    have q : ∀ (W : World) (n c : Nat), (binOp .eql 23 (.slice none n c) (.slice none 0 0)).run Tryd.prog W = .ok (.bool true) W := fun W n c => Lib.run_eql_slice_nil W _ _ _ n c 0 0 Tryd.underlying23
    clear h hh
    go_enter Tryd.func56, Tryd.ntmps56
    go_wp2
    go_ret
    exact ⟨_, rfl, HN.out, Below.refl _ _⟩
  | some ad =>
    have hF := ElRow.fresh memE w w.heap.size p (Nat.le_refl _)
    have hE := h.keep memE_ok (w' := w.alloc (.cells #[] memE.T)) (fun k hk => Below.heap_alloc _ _ _ (hp k hk)) (fun _ h => h)
    have HF := Lib.hid hF
    have HE := Lib.hid hE
    have hlen : ([] : List JM).length + l.length < 10000000000 := by simp; omega
    have HB : Hid (∀ j, p j → (Value.slice (some ⟨w.heap.size, 0, none⟩) 0 0).ownBlock ≠ some j) := fun j hj e => by
      have := hp j hj
      simp [Value.ownBlock] at e
      omega
    have HB2 : Hid (∀ j, p j → j < (w.alloc (.cells #[] memE.T)).heap.size) := fun j hj => by have := hp j hj; simp; omega
    have q : ∀ (W : World) (n c : Nat), (binOp .eql 23 (.slice (some ad) n c) (.slice none 0 0)).run Tryd.prog W = .ok (.bool false) W := fun W n c => Lib.run_eql_slice_nil W _ _ _ n c 0 0 Tryd.underlying23
    clear h hh hF hE
    go_enter Tryd.func56, Tryd.ntmps56
    go_wp2_with (with_reducible refine gate ?_; refine els_append_all memE_ok rfl _ _ rfl _ w.heap.size p (.slice (some ⟨w.heap.size, 0, none⟩) 0 0) [] rfl HF.out (some ad) l.length cap l rfl HE.out (by simp) hlen HB.out HB2.out ?_; intro v' w' hrow hgr hb hat)
    have HR := Lib.hid hrow
    have HBE := Lib.hid hb
    clear hrow hgr hb hat
    go_ret
    exact ⟨_, rfl, HR.out, ((Below.refl _ w).alloc (Nat.le_refl _) _).trans HBE.out⟩

set_option maxHeartbeats 1000000 in
theorem object13_any (l : List JM) (u : Value) (w : World) (p : Nat → Prop) (hp : ∀ k, p k → k < w.heap.size) (h : ElsP memE w p u l) (hl : l.length ≤ 1000000000) :
    Calls Tryd.prog 19 #[u] w fun e w' => ∃ A c, e = .returned (.agg #[.int .i64 5, .bool false, .int .i64 0, .string (S []), .slice none 0 0, .slice A l.length c, .int .i64 0]) ∧ ElRow memE w' (w.heap.size + 1) p (.slice A l.length c) l ∧ Below w.heap.size w w' := by
  have hX := heap_alloc_new w (.cells zValA 25)
  have hc := cloneM_all l u (w.alloc (.cells zValA 25)) p (fun k hk => by have := hp k hk; simp; omega) (h.keep memE_ok (fun k hk => Below.heap_alloc _ _ _ (hp k hk)) (fun _ h => h)) hl
  have hz : (w.alloc (.cells zValA 25)).heap.size = w.heap.size + 1 := by simp
  rw [hz] at hc
  have HC := Lib.hid hc
  obtain ⟨A, cap, rfl, _⟩ := h.slice
  clear hc h
  go_enter Tryd.func19, Tryd.ntmps19
  go_wp2_with fail
  refine HC.out.mono ?_
  rintro e w1 ⟨v', rfl, hrow, hb1⟩
  obtain ⟨A', c', rfl, _⟩ := hrow.slice
  have X1 := (hb1.block w.heap.size (by omega)).trans hX
  have hz1 := hb1.size
  rw [hz] at hz1
  have HR := Lib.hid hrow
  clear hrow
  go_wp2_with (with_reducible refine gate ?_; refine wp_store_val rfl _ _ rfl w.heap.size _ _ _ _ _ _ _ _ _ _ _ _ rfl rfl X1 rfl ?_; intro w2 hw2 hu2)
  have hz2 := hu2.size
  refine bodyPost_ret (v := .agg _) (res_whole Tryd.results19 _ _ w.heap.size rfl _ _ hw2 Tryd.underlying25 rfl valSize) rfl ⟨A', c', rfl, ?_, ?_⟩
  · exact HR.out.heap memE_ok (fun k hk => hu2.block k (HR.out.lt k hk).2 (by have := HR.out.lt k hk; omega)) (fun k hk => hu2.block k (by have := hp k hk; omega) (by have := hp k hk; omega))
  · exact (((Below.refl _ w).alloc (Nat.le_refl _) _).trans (hb1.mono (by omega))).trans (hu2.below (Nat.le_refl _) (by omega))
end Go.Proofs.YtadkgjbidhfefaaDoor
