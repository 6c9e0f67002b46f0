/-
  Walks of chapter 12: the constructors (the program).
-/
import Derived.Test.YthlppbpccldikaaGreatDoorH12
import Derived.Shelf.SlicesE.Clone
set_option linter.unusedVariables false
namespace Go.Proofs.YthlppbpccldikaaGreatDoor
open Go.RowKit

theorem ValV.bare {w : World} {p : Nat → Prop} (k : Int) (b : Bool) (n : Int) (s : Bytes) (q : Int) : ValV w p (.mk k b n s [] [] q) (.agg #[.int .i64 k, .bool b, .int .i64 n, .string (S s), .slice none 0 0, .slice none 0 0, .int .i64 q]) :=
  ⟨_, rfl, ValP.of_open (n := .mk k b n s [] [] q) (ElsP.nil _ _ _) (ElsP.nil _ _ _)⟩
abbrev zValA : Array Value := #[.int .i64 0, .bool false, .int .i64 0, .string ⟨#[]⟩, .slice none 0 0, .slice none 0 0, .int .i64 0]
abbrev zMemA : Array Value := #[.string ⟨#[]⟩, .int .i64 0, .bool false, .int .i64 0, .string ⟨#[]⟩, .slice none 0 0, .slice none 0 0, .int .i64 0, .int .i64 0]
theorem wp_store_val {ops : Array Oper} {rest : List Oper} {o : Oper} {a : Act} {w : World} {Q : Exit → Act → World → Prop} (hgd : o.guard = none) (x y : Operand) (ho : o.op = .store 26 x y)
    (g : Nat) (cur : Array Value) (k n q : Int) (b : Bool) (s : ByteArray) (A K : Option Addr) (i c m d : Nat) (hx : a.eval x = .pointer (some ⟨g, 0, none⟩)) (hy : a.eval y = .agg #[.int .i64 k, .bool b, .int .i64 n, .string s, .slice A i c, .slice K m d, .int .i64 q])
    (hg : w.heap[g]? = some (.cells cur 26 (0, 0))) (hs : cur.size = 7)
    (h : ∀ w', w'.heap[g]? = some (.cells #[.int .i64 k, .bool b, .int .i64 n, .string s, .slice A i c, .slice K m d, .int .i64 q] 26 (0, 0)) → Upd g w w' → wpList Tryz.prog ops Q rest (a.put o.dst undef) w') : wpList Tryz.prog ops Q (o :: rest) a w :=
  wp_store_whole hgd 26 x y ho g 26 cur _ hx hy hg (by rw [hs]; rfl) valSize (by simp [Value.oneCell']) h
theorem wp_store_mem {ops : Array Oper} {rest : List Oper} {o : Oper} {a : Act} {w : World} {Q : Exit → Act → World → Prop} (hgd : o.guard = none) (x y : Operand) (ho : o.op = .store 44 x y)
    (g : Nat) (cur : Array Value) (ke : ByteArray) (k n q r : Int) (b : Bool) (s : ByteArray) (A K : Option Addr) (i c m d : Nat) (hx : a.eval x = .pointer (some ⟨g, 0, none⟩)) (hy : a.eval y = .agg #[.string ke, .int .i64 k, .bool b, .int .i64 n, .string s, .slice A i c, .slice K m d, .int .i64 q, .int .i64 r])
    (hg : w.heap[g]? = some (.cells cur 44 (0, 0))) (hs : cur.size = 9)
    (h : ∀ w', w'.heap[g]? = some (.cells #[.string ke, .int .i64 k, .bool b, .int .i64 n, .string s, .slice A i c, .slice K m d, .int .i64 q, .int .i64 r] 44 (0, 0)) → Upd g w w' → wpList Tryz.prog ops Q rest (a.put o.dst undef) w') : wpList Tryz.prog ops Q (o :: rest) a w :=
  wp_store_whole hgd 44 x y ho g 44 cur _ hx hy hg (by rw [hs]; rfl) memSize (by simp [Value.oneCell']) h

set_option maxHeartbeats 1000000 in
theorem null12_any (w : World) :
    Calls Tryz.prog 33 #[] w fun e w' => e = .returned (.agg #[.int .i64 0, .bool false, .int .i64 0, .string (S []), .slice none 0 0, .slice none 0 0, .int .i64 0]) ∧ Below w.heap.size w w' := by
  have hX := heap_alloc_new w (.cells zValA 26)
  go_enter Tryz.func33, Tryz.ntmps33
  go_wp2_with (with_reducible refine gate ?_; refine wp_store_val rfl _ _ rfl w.heap.size _ _ _ _ _ _ _ _ _ _ _ _ rfl rfl hX rfl ?_; intro w2 hw2 hu2)
  refine bodyPost_ret (v := .agg _) (res_whole Tryz.results33 _ _ w.heap.size rfl _ _ hw2 Tryz.underlying26 rfl valSize) rfl ⟨rfl, ?_⟩
  exact ((Below.refl _ w).alloc (Nat.le_refl _) _).trans (hu2.below (Nat.le_refl _) (by simp))
set_option maxHeartbeats 1000000 in
theorem int12_any (n : Int) (w : World) :
    Calls Tryz.prog 32 #[.int .i64 n] w fun e w' => e = .returned (.agg #[.int .i64 2, .bool false, .int .i64 n, .string (S []), .slice none 0 0, .slice none 0 0, .int .i64 0]) ∧ Below w.heap.size w w' := by
  have hX := heap_alloc_new w (.cells zValA 26)
  go_enter Tryz.func32, Tryz.ntmps32
  go_wp2_with (with_reducible refine gate ?_; refine wp_store_val rfl _ _ rfl w.heap.size _ _ _ _ _ _ _ _ _ _ _ _ rfl rfl hX rfl ?_; intro w2 hw2 hu2)
  refine bodyPost_ret (v := .agg _) (res_whole Tryz.results32 _ _ w.heap.size rfl _ _ hw2 Tryz.underlying26 rfl valSize) rfl ⟨rfl, ?_⟩
  exact ((Below.refl _ w).alloc (Nat.le_refl _) _).trans (hu2.below (Nat.le_refl _) (by simp))
set_option maxHeartbeats 1000000 in
theorem bool12_any (b : Bool) (w : World) :
    Calls Tryz.prog 35 #[.bool b] w fun e w' => e = .returned (.agg #[.int .i64 1, .bool b, .int .i64 0, .string (S []), .slice none 0 0, .slice none 0 0, .int .i64 0]) ∧ Below w.heap.size w w' := by
  have hX := heap_alloc_new w (.cells zValA 26)
  go_enter Tryz.func35, Tryz.ntmps35
  go_wp2_with (with_reducible refine gate ?_; refine wp_store_val rfl _ _ rfl w.heap.size _ _ _ _ _ _ _ _ _ _ _ _ rfl rfl hX rfl ?_; intro w2 hw2 hu2)
  refine bodyPost_ret (v := .agg _) (res_whole Tryz.results35 _ _ w.heap.size rfl _ _ hw2 Tryz.underlying26 rfl valSize) rfl ⟨rfl, ?_⟩
  exact ((Below.refl _ w).alloc (Nat.le_refl _) _).trans (hu2.below (Nat.le_refl _) (by simp))
set_option maxHeartbeats 1000000 in
theorem string12_any (s : Bytes) (w : World) :
    Calls Tryz.prog 34 #[.string (S s)] w fun e w' => e = .returned (.agg #[.int .i64 3, .bool false, .int .i64 0, .string (S s), .slice none 0 0, .slice none 0 0, .int .i64 0]) ∧ Below w.heap.size w w' := by
  have hX := heap_alloc_new w (.cells zValA 26)
  go_enter Tryz.func34, Tryz.ntmps34
  go_wp2_with (with_reducible refine gate ?_; refine wp_store_val rfl _ _ rfl w.heap.size _ _ _ _ _ _ _ _ _ _ _ _ rfl rfl hX rfl ?_; intro w2 hw2 hu2)
  refine bodyPost_ret (v := .agg _) (res_whole Tryz.results34 _ _ w.heap.size rfl _ _ hw2 Tryz.underlying26 rfl valSize) rfl ⟨rfl, ?_⟩
  exact ((Below.refl _ w).alloc (Nat.le_refl _) _).trans (hu2.below (Nat.le_refl _) (by simp))

/-! Copying a row. -/
theorem cloneV_any (l : List JV) (b off n c : Nat) (w : World) (p : Nat → Prop) (hp : ∀ k, p k → k < w.heap.size) (h : ElsP valE w p (.slice (some ⟨b, off, none⟩) n c) l) (hl : l.length ≤ 1000000) :
    Calls Tryz.prog 61 #[.slice (some ⟨b, off, none⟩) n c] w fun e w' => ∃ v', e = .returned v' ∧ ElRow valE w' w.heap.size p v' l ∧ Below w.heap.size w w' := by
  obtain ⟨i0, hi0, hz0, hz1, hz2⟩ := info_parts valE_ok.info
  obtain ⟨css, h1, h2, h3⟩ := h.css valE_ok
  obtain ⟨h4, h5⟩ := el_flat valE_ok h1 h2
  have hn : n = l.length := by obtain ⟨A', c', hv, _⟩ := h; cases hv; rfl
  refine (AnyE.slices_Clone Tryz.cloneE61 i0 zValV 7 96 hi0 hz0 hz1 hz2 rfl (by decide) (fun w => by kernel_rfl) b off n c css.flatten w (by rw [h4, hn]) (by unfold maxLen; omega) (by omega) (fun j u hj => by have := h3 j u hj; rwa [show (⟨b, off, none⟩ : Addr).add j = ⟨b, off + j, none⟩ by unfold Addr.add; split <;> simp_all] at this) h5).mono ?_
  rintro e w' ⟨v', rfl, hown, _, hb⟩
  refine ⟨v', rfl, ⟨css, h1, fun i a cs ha hc => valE_ok.keep (h2 i a cs ha hc) (fun k hk => hb.block k (hp k hk)) (fun _ h => h), ?_⟩, hb⟩
  rw [← hn]
  exact hown
theorem cloneM_any (l : List JM) (b off n c : Nat) (w : World) (p : Nat → Prop) (hp : ∀ k, p k → k < w.heap.size) (h : ElsP memE w p (.slice (some ⟨b, off, none⟩) n c) l) (hl : l.length ≤ 1000000) :
    Calls Tryz.prog 60 #[.slice (some ⟨b, off, none⟩) n c] w fun e w' => ∃ v', e = .returned v' ∧ ElRow memE w' w.heap.size p v' l ∧ Below w.heap.size w w' := by
  obtain ⟨i0, hi0, hz0, hz1, hz2⟩ := info_parts memE_ok.info
  obtain ⟨css, h1, h2, h3⟩ := h.css memE_ok
  obtain ⟨h4, h5⟩ := el_flat memE_ok h1 h2
  have hn : n = l.length := by obtain ⟨A', c', hv, _⟩ := h; cases hv; rfl
  refine (AnyE.slices_Clone Tryz.cloneE60 i0 memE.zero 9 120 hi0 hz0 hz1 hz2 rfl (by decide) (fun w => by kernel_rfl) b off n c css.flatten w (by rw [h4, hn]) (by unfold maxLen; omega) (by omega) (fun j u hj => by have := h3 j u hj; rwa [show (⟨b, off, none⟩ : Addr).add j = ⟨b, off + j, none⟩ by unfold Addr.add; split <;> simp_all] at this) h5).mono ?_
  rintro e w' ⟨v', rfl, hown, _, hb⟩
  refine ⟨v', rfl, ⟨css, h1, fun i a cs ha hc => memE_ok.keep (h2 i a cs ha hc) (fun k hk => hb.block k (hp k hk)) (fun _ h => h), ?_⟩, hb⟩
  rw [← hn]
  exact hown

set_option maxHeartbeats 1000000 in
theorem member12c_any (ke : Bytes) (v : JV) (IA MA : Option Addr) (i ic m mc : Nat) (w : World) :
    Calls Tryz.prog 30 #[.string (S ke), .agg #[.int .i64 v.kind, .bool v.b, .int .i64 v.n, .string (S v.s), .slice IA i ic, .slice MA m mc, .int .i64 v.pos]] w fun e w' => e = .returned (.agg #[.string (S ke), .int .i64 v.kind, .bool v.b, .int .i64 v.n, .string (S v.s), .slice IA i ic, .slice MA m mc, .int .i64 v.pos, .int .i64 0]) ∧ Below w.heap.size w w' := by
  have hX := heap_alloc_new (w.alloc (.cells #[.int .i64 v.kind, .bool v.b, .int .i64 v.n, .string (S v.s), .slice IA i ic, .slice MA m mc, .int .i64 v.pos] 26)) (.cells zMemA 44)
  rw [World.size_alloc] at hX
  go_enter Tryz.func30, Tryz.ntmps30
  go_wp2_with (with_reducible refine gate ?_; refine wp_store_mem rfl _ _ rfl (w.heap.size + 1) _ _ _ _ _ _ _ _ _ _ _ _ _ _ rfl rfl hX rfl ?_; intro w2 hw2 hu2)
  refine bodyPost_ret (v := .agg _) (res_whole Tryz.results30 _ _ (w.heap.size + 1) rfl _ _ hw2 Tryz.underlying44 rfl memSize) rfl ⟨rfl, ?_⟩
  exact (((Below.refl _ w).alloc (Nat.le_refl _) _).alloc (by simp) _).trans (hu2.below (by omega) (by simp; omega))
set_option maxHeartbeats 1000000 in
theorem array12_any (l : List JV) (hne : l ≠ []) (u : Value) (w : World) (p : Nat → Prop) (hp : ∀ k, p k → k < w.heap.size) (h : ElsP valE w p u l) (hl : l.length ≤ 1000000) :
    Calls Tryz.prog 31 #[u] w fun e w' => ∃ v, e = .returned v ∧ ValV w' (fun k => p k ∨ (w.heap.size ≤ k ∧ k < w'.heap.size)) (.mk 4 false 0 [] l [] 0) v ∧ Below w.heap.size w w' := by
  obtain ⟨A, cap, rfl, hcap, hh⟩ := id h
  obtain ⟨b, off, rfl, _, _⟩ := hh.resolve_left hne
  have hX := heap_alloc_new w (.cells zValA 26)
  have hc := cloneV_any l b off l.length cap (w.alloc (.cells zValA 26)) p (fun k hk => by have := hp k hk; simp; omega) (h.keep valE_ok (fun k hk => Below.heap_alloc _ _ _ (hp k hk)) (fun _ h => h)) hl
  have hz : (w.alloc (.cells zValA 26)).heap.size = w.heap.size + 1 := by simp
  rw [hz] at hc
  have HC := Lib.hid hc
  clear hc h hh
  go_enter Tryz.func31, Tryz.ntmps31
  go_wp2_with fail
  refine HC.out.mono ?_
  rintro e w1 ⟨v', rfl, hrow, hb1⟩
  obtain ⟨A', c', rfl, _⟩ := hrow.slice
  have X1 := (hb1.block w.heap.size (by omega)).trans hX
  have hz1 := hb1.size
  rw [hz] at hz1
  have HR := Lib.hid hrow
  clear hrow
  go_wp2_with (with_reducible refine gate ?_; refine wp_store_val rfl _ _ rfl w.heap.size _ _ _ _ _ _ _ _ _ _ _ _ rfl rfl X1 rfl ?_; intro w2 hw2 hu2)
  have hz2 := hu2.size
  refine bodyPost_ret (v := .agg _) (res_whole Tryz.results31 _ _ w.heap.size rfl _ _ hw2 Tryz.underlying26 rfl valSize) rfl ⟨_, rfl, ⟨_, rfl, ValP.of_open (n := .mk 4 false 0 [] l [] 0) ?_ (ElsP.nil _ _ _)⟩, ?_⟩
  · exact ((HR.out.heap valE_ok (fun k hk => hu2.block k (HR.out.lt k hk).2 (by have := HR.out.lt k hk; omega)) (fun k hk => hu2.block k (by have := hp k hk; omega) (by have := hp k hk; omega))).elsP valE_ok (fun k hk => .inl hk) (fun k hk => .inr (by have := HR.out.lt k hk; omega)))
  · exact (((Below.refl _ w).alloc (Nat.le_refl _) _).trans (hb1.mono (by omega))).trans (hu2.below (Nat.le_refl _) (by omega))
set_option maxHeartbeats 1000000 in
theorem object12_any (l : List JM) (hne : l ≠ []) (u : Value) (w : World) (p : Nat → Prop) (hp : ∀ k, p k → k < w.heap.size) (h : ElsP memE w p u l) (hl : l.length ≤ 1000000) :
    Calls Tryz.prog 29 #[u] w fun e w' => ∃ v, e = .returned v ∧ ValV w' (fun k => p k ∨ (w.heap.size ≤ k ∧ k < w'.heap.size)) (.mk 5 false 0 [] [] l 0) v ∧ Below w.heap.size w w' := by
  obtain ⟨A, cap, rfl, hcap, hh⟩ := id h
  obtain ⟨b, off, rfl, _, _⟩ := hh.resolve_left hne
  have hX := heap_alloc_new w (.cells zValA 26)
  have hc := cloneM_any l b off l.length cap (w.alloc (.cells zValA 26)) p (fun k hk => by have := hp k hk; simp; omega) (h.keep memE_ok (fun k hk => Below.heap_alloc _ _ _ (hp k hk)) (fun _ h => h)) hl
  have hz : (w.alloc (.cells zValA 26)).heap.size = w.heap.size + 1 := by simp
  rw [hz] at hc
  have HC := Lib.hid hc
  clear hc h hh
  go_enter Tryz.func29, Tryz.ntmps29
  go_wp2_with fail
  refine HC.out.mono ?_
  rintro e w1 ⟨v', rfl, hrow, hb1⟩
  obtain ⟨A', c', rfl, _⟩ := hrow.slice
  have X1 := (hb1.block w.heap.size (by omega)).trans hX
  have hz1 := hb1.size
  rw [hz] at hz1
  have HR := Lib.hid hrow
  clear hrow
  go_wp2_with (with_reducible refine gate ?_; refine wp_store_val rfl _ _ rfl w.heap.size _ _ _ _ _ _ _ _ _ _ _ _ rfl rfl X1 rfl ?_; intro w2 hw2 hu2)
  have hz2 := hu2.size
  refine bodyPost_ret (v := .agg _) (res_whole Tryz.results29 _ _ w.heap.size rfl _ _ hw2 Tryz.underlying26 rfl valSize) rfl ⟨_, rfl, ⟨_, rfl, ValP.of_open (n := .mk 5 false 0 [] [] l 0) (ElsP.nil _ _ _) ?_⟩, ?_⟩
  · exact ((HR.out.heap memE_ok (fun k hk => hu2.block k (HR.out.lt k hk).2 (by have := HR.out.lt k hk; omega)) (fun k hk => hu2.block k (by have := hp k hk; omega) (by have := hp k hk; omega))).elsP memE_ok (fun k hk => .inl hk) (fun k hk => .inr (by have := HR.out.lt k hk; omega)))
  · exact (((Below.refl _ w).alloc (Nat.le_refl _) _).trans (hb1.mono (by omega))).trans (hu2.below (Nat.le_refl _) (by omega))

/-! Rows of one and of two elements that have just been laid. -/
theorem els_one {α : Type} {E : Elt α} (hE : E.Ok) {w : World} {p : Nat → Prop} {x : α} {cs : List Value} (h : E.El w p x cs) (hp : ∀ k, p k → k < w.heap.size) (q : Nat → Prop) (hq : ∀ k, p k → q k) (hn : q w.heap.size) : ElsP E (w.alloc (.cells cs.toArray E.T)) q (.slice (some ⟨w.heap.size, 0, none⟩) 1 1) [x] := by
  refine ⟨_, 1, rfl, Nat.le_refl _, .inr ⟨w.heap.size, 0, rfl, hn, fun i a hi => ?_⟩⟩
  match i, hi with
  | 0, hi =>
    simp at hi
    subst hi
    exact ⟨cs, hE.keep h (fun k hk => Below.heap_alloc _ _ _ (hp k hk)) hq, by simpa using range_of_heap (heap_alloc_new w (.cells cs.toArray E.T))⟩
  | i + 1, hi => simp at hi
theorem els_two {α : Type} {E : Elt α} (hE : E.Ok) {w : World} {p : Nat → Prop} {x y : α} {cs ds : List Value} (h : E.El w p x cs) (h2 : E.El w p y ds) (hp : ∀ k, p k → k < w.heap.size) (q : Nat → Prop) (hq : ∀ k, p k → q k) (hn : q w.heap.size) : ElsP E (w.alloc (.cells (cs ++ ds).toArray E.T)) q (.slice (some ⟨w.heap.size, 0, none⟩) 2 2) [x, y] := by
  have hl := hE.len h
  refine ⟨_, 2, rfl, Nat.le_refl _, .inr ⟨w.heap.size, 0, rfl, hn, fun i a hi => ?_⟩⟩
  have hr := range_of_heap (heap_alloc_new w (.cells (cs ++ ds).toArray E.T))
  match i, hi with
  | 0, hi =>
    simp at hi
    subst hi
    refine ⟨cs, hE.keep h (fun k hk => Below.heap_alloc _ _ _ (hp k hk)) hq, fun j u hj => ?_⟩
    have := hr j u (by rw [List.getElem?_append_left (List.getElem?_eq_some_iff.1 hj).1]; exact hj)
    simpa using this
  | 1, hi =>
    simp at hi
    subst hi
    refine ⟨ds, hE.keep h2 (fun k hk => Below.heap_alloc _ _ _ (hp k hk)) hq, fun j u hj => ?_⟩
    have := hr (E.c + j) u (by rw [List.getElem?_append_right (by omega), hl]; simpa using hj)
    rw [show 0 + 1 * E.c + j = 0 + (E.c + j) by omega]
    exact this
  | i + 2, hi => simp at hi
end Go.Proofs.YthlppbpccldikaaGreatDoor
