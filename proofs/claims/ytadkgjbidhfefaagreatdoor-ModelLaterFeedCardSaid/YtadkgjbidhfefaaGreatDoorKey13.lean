/-
  Walks of chapter 13: the canonical bytes of entries and feeds (the program).
-/
import Derived.Test.YtadkgjbidhfefaaGreatDoorEnt13
import Derived.Test.YtadkgjbidhfefaaGreatDoorJcon
import Derived.Test.YtadkgjbidhfefaaGreatDoorJwr3
import Derived.WalkSpells
set_option linter.unusedVariables false
namespace Go.Proofs.YtadkgjbidhfefaaGreatDoor
open Go.RowKit

def jstr (s : Bytes) : JV := .mk 3 false 0 s [] [] 0
def jint (n : Int) : JV := .mk 2 false n [] [] [] 0
def jarr (l : List JV) : JV := .mk 4 false 0 [] l [] 0
def entVal (e : En) : JV := jarr ([e.id, e.title, e.link, e.content].map jstr ++ [jint e.upd])
def feeVal (f : Fe) : JV := jarr (jarr (f.path.map jstr) :: [f.id, f.title, f.link].map jstr ++ [jint f.upd])
def keyOf (v : JV) : Bytes := outJ v (jvd v 1)

set_option maxHeartbeats 1000000 in
set_option maxRecDepth 100000 in
theorem cloneV_all (l : List JV) (u : Value) (w : World) (p : Nat → Prop) (hp : ∀ k, p k → k < w.heap.size) (h : ElsP valE w p u l) (hl : l.length ≤ 1000000000) :
    Calls Tryz.prog 54 #[u] w fun e w' => ∃ v', e = .returned v' ∧ ElRow valE w' w.heap.size p v' l ∧ Below w.heap.size w w' := by
  obtain ⟨A, cap, rfl, hcap, hh⟩ := id h
  cases A with
  | none =>
    have hn : l = [] := by
      rcases hh with h | ⟨b, off, hA, _⟩
      · exact h
      · cases hA
    subst hn
    have HN := Lib.hid (ElRow.nil valE w w.heap.size p)
    have q : ∀ (W : World) (n c : Nat), (binOp .eql 57 (.slice none n c) (.slice none 0 0)).run Tryz.prog W = .ok (.bool true) W := fun W n c => Lib.run_eql_slice_nil W _ _ _ n c 0 0 Tryz.underlying57
    clear h hh
    go_enter Tryz.func54, Tryz.ntmps54
    go_wp2
    go_ret
    exact ⟨_, rfl, HN.out, Below.refl _ _⟩
  | some ad =>
    have hF := ElRow.fresh valE w w.heap.size p (Nat.le_refl _)
    have hE := h.keep valE_ok (w' := w.alloc (.cells #[] valE.T)) (fun k hk => Below.heap_alloc _ _ _ (hp k hk)) (fun _ h => h)
    have HF := Lib.hid hF
    have HE := Lib.hid hE
    have hlen : ([] : List JV).length + l.length < 10000000000 := by simp; omega
    have HB : Hid (∀ j, p j → (Value.slice (some ⟨w.heap.size, 0, none⟩) 0 0).ownBlock ≠ some j) := fun j hj e => by
      have := hp j hj
      simp [Value.ownBlock] at e
      omega
    have HB2 : Hid (∀ j, p j → j < (w.alloc (.cells #[] valE.T)).heap.size) := fun j hj => by have := hp j hj; simp; omega
    have q : ∀ (W : World) (n c : Nat), (binOp .eql 57 (.slice (some ad) n c) (.slice none 0 0)).run Tryz.prog W = .ok (.bool false) W := fun W n c => Lib.run_eql_slice_nil W _ _ _ n c 0 0 Tryz.underlying57
    clear h hh hF hE
    go_enter Tryz.func54, Tryz.ntmps54
    go_wp2_with (with_reducible refine gate ?_; refine els_append_all valE_ok rfl _ _ rfl _ w.heap.size p (.slice (some ⟨w.heap.size, 0, none⟩) 0 0) [] rfl HF.out (some ad) l.length cap l rfl HE.out (by simp) hlen HB.out HB2.out ?_; intro v' w' hrow hgr hb hat)
    have HR := Lib.hid hrow
    have HBE := Lib.hid hb
    clear hrow hgr hb hat
    go_ret
    exact ⟨_, rfl, HR.out, ((Below.refl _ w).alloc (Nat.le_refl _) _).trans HBE.out⟩

set_option maxHeartbeats 1000000 in
theorem array13_any (l : List JV) (u : Value) (w : World) (p : Nat → Prop) (hp : ∀ k, p k → k < w.heap.size) (h : ElsP valE w p u l) (hl : l.length ≤ 1000000000) :
    Calls Tryz.prog 32 #[u] w fun e w' => ∃ v, e = .returned v ∧ ValV w' (fun k => p k ∨ (w.heap.size ≤ k ∧ k < w'.heap.size)) (jarr l) v ∧ Below w.heap.size w w' := by
  have hX := heap_alloc_new w (.cells zValA 60)
  have hc := cloneV_all l u (w.alloc (.cells zValA 60)) p (fun k hk => by have := hp k hk; simp; omega) (h.keep valE_ok (fun k hk => Below.heap_alloc _ _ _ (hp k hk)) (fun _ h => h)) hl
  have hz : (w.alloc (.cells zValA 60)).heap.size = w.heap.size + 1 := by simp
  rw [hz] at hc
  have HC := Lib.hid hc
  obtain ⟨A, cap, rfl, _⟩ := h.slice
  clear hc h
  go_enter Tryz.func32, Tryz.ntmps32
  go_wp2_with fail
  refine HC.out.mono ?_
  rintro e w1 ⟨v', rfl, hrow, hb1⟩
  obtain ⟨A', c', rfl, _⟩ := hrow.slice
  have X1 := (hb1.block w.heap.size (by omega)).trans hX
  have hz1 := hb1.size
  rw [hz] at hz1
  have HR := Lib.hid hrow
  clear hrow
  go_wp2_with (with_reducible refine gate ?_; refine wp_store_val rfl _ _ rfl w.heap.size _ _ _ _ _ _ _ _ _ _ _ _ rfl rfl X1 rfl ?_; intro w2 hw2 hu2)
  have hz2 := hu2.size
  refine bodyPost_ret (v := .agg _) (res_whole Tryz.results32 _ _ w.heap.size rfl _ _ hw2 Tryz.underlying60 rfl valSize) rfl ⟨_, rfl, ⟨_, rfl, ValP.of_open (n := .mk 4 false 0 [] l [] 0) ?_ (ElsP.nil _ _ _)⟩, ?_⟩
  · exact ((HR.out.heap valE_ok (fun k hk => hu2.block k (HR.out.lt k hk).2 (by have := HR.out.lt k hk; omega)) (fun k hk => hu2.block k (by have := hp k hk; omega) (by have := hp k hk; omega))).elsP valE_ok (fun k hk => .inl hk) (fun k hk => .inr (by have := HR.out.lt k hk; omega)))
  · exact (((Below.refl _ w).alloc (Nat.le_refl _) _).trans (hb1.mono (by omega))).trans (hu2.below (Nat.le_refl _) (by omega))
theorem jstr_val (s : Bytes) (W : World) (p : Nat → Prop) : valE.El W p (jstr s) [.int .i64 3, .bool false, .int .i64 0, .string (S s), .slice none 0 0, .slice none 0 0, .int .i64 0] :=
  ValP.of_open (n := jstr s) (ElsP.nil _ _ _) (ElsP.nil _ _ _)
theorem jint_val (n : Int) (W : World) (p : Nat → Prop) : valE.El W p (jint n) [.int .i64 2, .bool false, .int .i64 n, .string (S []), .slice none 0 0, .slice none 0 0, .int .i64 0] :=
  ValP.of_open (n := jint n) (ElsP.nil _ _ _) (ElsP.nil _ _ _)
set_option maxHeartbeats 2000000 in
set_option maxRecDepth 100000 in
theorem stringValues_any (l : List Bytes) (u : Value) (w : World) (p : Nat → Prop) (hp : ∀ k, p k → k < w.heap.size) (h : ElsP strE w p u l) (hl : l.length ≤ 1000000) :
    Calls Tryz.prog 33 #[u] w fun e w' => ∃ A c, e = .returned (.slice A l.length c) ∧ ElRow valE w' w.heap.size (fun _ => False) (.slice A l.length c) (l.map jstr) ∧ Below w.heap.size w w' := by
  obtain ⟨A0, c0, rfl, _⟩ := h.slice
  have HL := Lib.hid h
  have HP := Lib.hid hp
  clear h hp
  go_enter Tryz.func33, Tryz.ntmps33
  go_wp2_with fail
  go_loopw [3, 8] (fun s3 i8 wr => ∃ i : Nat, i ≤ l.length ∧ i8 = .int .i64 i ∧ ElRow valE wr w.heap.size (fun _ => False) s3 ((l.take i).map jstr) ∧ Below w.heap.size w wr) (fun _ i8 _ => l.length - (intOf i8).toNat)
  case atStart => exact ⟨0, Nat.zero_le _, rfl, ElRow.nil _ _ _ _, Below.refl _ _⟩
  case round =>
    obtain ⟨i, hi, rfl, hrow, hb⟩ := hrel
    obtain ⟨A, c, rfl, _⟩ := hrow.slice
    have hil : ((l.take i).map jstr).length = i := by simp; omega
    have HB := Lib.hid hb
    have hsz := hb.size
    by_cases hlt : i < l.length
    · have hlt' : (i : Int) < l.length := by omega
      obtain ⟨b, off, rfl, hpb, hc1⟩ := strs_cell (HL.out.keep strE_ok (fun k hk => hb.block k (HP.out k hk)) (fun _ h => h)) hlt
      have hacc : (l.take (i + 1)).map jstr = (l.take i).map jstr ++ [jstr l[i]] := by rw [List.take_succ_eq_append_getElem hlt, List.map_append]; rfl
      generalize l[i] = x at *
      have HROW := Lib.hid hrow
      have HACC := Lib.hid hacc
      clear hrow hacc hb
      generalize (l.take i).map jstr = acc at *
      have hal : acc.length < 10000000000 := by omega
      have HIL := Lib.hid hil
      clear hil
      go_wp2_with (first
        | (go_at_call 55; refine (string12_any x _).mono ?_; rintro e w3 ⟨rfl, hb3⟩; have hz3 := hb3.size; have HROW3 := Lib.hid (HROW.out.below valE_ok hb3 (fun _ h => h.elim)); have HB3 := Lib.hid hb3; clear hb3)
        | (with_reducible refine gate ?_; refine els_append valE_ok rfl _ _ rfl w3 w.heap.size (fun _ => False) (.slice A acc.length c) acc rfl HROW3.out (jstr x) [.int .i64 3, .bool false, .int .i64 0, .string (S x), .slice none 0 0, .slice none 0 0, .int .i64 0] w3.heap.size rfl rfl (jstr_val x _ _) (fun _ h => h.elim) (fun _ h => h.elim) (by omega) hal ?_; intro g8 c8 w8 hat8 hlt8 hrow8 hgr8 hb8; have HROW8 := Lib.hid hrow8; have HB8 := Lib.hid hb8; clear hat8 hrow8 hgr8 hb8))
      go_roundw
      case rel => exact ⟨i + 1, by omega, by go_num, by rw [HACC.out]; exact HROW8.out, HB.out.trans ((HB3.out.mono hsz).trans HB8.out)⟩
      case measure => simp [intOf]; omega
    · obtain rfl : i = l.length := by omega
      rw [List.take_length] at hrow hil
      have HROW := Lib.hid hrow
      have hlt' : ¬ (l.length : Int) < l.length := by omega
      rw [List.length_map] at HROW
      clear hrow hil hb hlt
      simp only [List.take_length, List.length_map]
      go_wp2_with fail
      go_ret
      exact ⟨_, _, rfl, HROW.out, HB.out⟩
end Go.Proofs.YtadkgjbidhfefaaGreatDoor
