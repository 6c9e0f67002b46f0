/-
  Walks of the library's strings.Replacer at two pairs of single bytes: the Replacer's block, NewReplacer, the table.
-/
import Derived.Test.YthbfahbjfioghaaGreatDoorElt
import Derived.Test.YthbfahbjfioghaaGreatDoorPl06
import Derived.Test.YthbfahbjfioghaaGreatDoorMem
import Derived.Deep.MidRow
set_option linter.unusedVariables false
namespace Go.Proofs.YthbfahbjfioghaaGreatDoor
open Go.RowKit

/-! Strings as elements. -/
abbrev str6E : Elt Bytes where
  T := 9
  TS := 152
  c := 1
  bytes := 16
  zero := .string ByteArray.empty
  El := fun _ _ s cs => cs = [.string (S s)]
theorem info6Str : (Tryz.prog.info? 9).map (fun i => (i.zero, i.size, i.bytes)) = some (some (.string ByteArray.empty), 1, 16) := by kernel_rfl
theorem str6E_ok : str6E.Ok where
  info := info6Str
  list := Tryz.underlying152
  zc := rfl
  pos := by decide
  small := by decide
  keep := fun h _ _ => h
  len := fun h => by rw [h]; rfl
  one := fun h => by rw [h]; intro u hu; simp at hu; subst hu; rfl
/-- The four strings. -/
def repS : List Bytes := [[10], [32], [9], [32]]
def RepS (w : World) (k : Nat) : Prop := w.cell? ⟨k, 0, none⟩ = some (.string (S [10])) ∧ w.cell? ⟨k, 1, none⟩ = some (.string (S [32])) ∧ w.cell? ⟨k, 2, none⟩ = some (.string (S [9])) ∧ w.cell? ⟨k, 3, none⟩ = some (.string (S [32]))
/-- The Replacer's block. -/
def Rep (w : World) (h : Nat) (done state : Int) (r s : Value) : Prop :=
  w.heap[h]? = some (.cells #[.int .u32 done, .int .i32 state, .int .u32 0, r, s] 167 (0, 0))

theorem rep_row {w : World} {base : Nat} {p : Nat → Prop} {v : Value} (h : ElRow str6E w base p v ([] ++ repS)) : ∃ k c, v = .slice (some ⟨k, 0, none⟩) 4 c ∧ base ≤ k ∧ k < w.heap.size ∧ RepS w k := by
  rw [List.nil_append] at h
  obtain ⟨A, c, rfl, hc⟩ := h.slice
  obtain ⟨k, rfl, hk, hk2⟩ := h.ptr (by decide)
  refine ⟨k, c, rfl, hk, hk2, ?_⟩
  have q : ∀ i (hi : i < repS.length), w.cell? ⟨k, i, none⟩ = some (.string (S repS[i])) := fun i hi => by
    obtain ⟨cs, h1, h2⟩ := h.at_ str6E_ok hi
    have h1' : cs = [.string (S repS[i])] := h1
    subst h1'
    have := h2 0 _ rfl
    simpa using this
  exact ⟨q 0 (by decide), q 1 (by decide), q 2 (by decide), q 3 (by decide)⟩
theorem RepS.below {w w' : World} {k : Nat} (h : RepS w k) (hk : k < w.heap.size) (hb : Below w.heap.size w w') : RepS w' k := by
  have q : ∀ i, w'.cell? ⟨k, i, none⟩ = w.cell? ⟨k, i, none⟩ := fun i => World.cell?_of_block (w := w) (hb.block _ hk)
  unfold RepS at *
  rw [q, q, q, q]; exact h

set_option maxHeartbeats 1000000 in
theorem newRepl_any (g : Nat) (w : World) (hg : w.heap[g]? = some (.cells #[.string ⟨#[10]⟩, .string ⟨#[32]⟩, .string ⟨#[9]⟩, .string ⟨#[32]⟩] 9 (0, 0))) :
    Calls Tryz.prog 106 #[.slice (some ⟨g, 0, none⟩) 4 4] w fun e w' =>
      ∃ h k c, e = .returned (.pointer (some ⟨h, 0, none⟩)) ∧ Rep w' h 0 0 .nilIface (.slice (some ⟨k, 0, none⟩) 4 c) ∧ RepS w' k ∧ w.heap.size ≤ h ∧ k ≠ h ∧ w.heap.size ≤ k ∧ k < w'.heap.size ∧ Below w.heap.size w w' := by
  have hP : ElsP str6E w (fun b => b < w.heap.size) (.slice (some ⟨g, 0, none⟩) repS.length 4) repS := by
    refine ⟨_, _, rfl, by decide, .inr ⟨g, 0, rfl, heap_lt hg, fun i a hi => ⟨[.string (S a)], rfl, ?_⟩⟩⟩
    intro j v hj
    cases j with
    | succ j => simp at hj
    | zero =>
      simp at hj
      subst hj
      rw [Lib.cell_of_heap hg]
      match i, hi with
      | 0, hi => cases hi; rfl
      | 1, hi => cases hi; rfl
      | 2, hi => cases hi; rfl
      | 3, hi => cases hi; rfl
  go_enter Tryz.func106, Tryz.ntmps106
  go_wp2_with (at_builtin; refine els_append_all str6E_ok rfl _ _ rfl w w.heap.size _ (.slice none 0 0) [] rfl (ElRow.nil str6E w _ _) _ _ _ repS rfl hP (Nat.le_refl _) (by decide) (by simp [Value.ownBlock]) (fun _ h => h) ?_; intro v' w' r1 r2 r3 r4; obtain ⟨k, c, rfl, hk1, hk2, hk3⟩ := rep_row r1)
  go_ret
  exact ⟨w'.heap.size, k, c, rfl, heap_alloc_new w' _, hk3.below hk2 ((Below.refl _ _).alloc (Nat.le_refl _) _), r3.size, by omega, hk1, by simp; omega, r3.alloc r3.size _⟩

/-! The table. -/
def tabL (f : Nat → UInt8) : List Value := (List.range 256).map fun i => .int .u8 (f i).toNat
def Tab8 (w : World) (t : Nat) (f : Nat → UInt8) : Prop := w.heap[t]? = some (.cells (tabL f).toArray 186 (0, 0))
def repT (i : Nat) : UInt8 := if i = 10 ∨ i = 9 then 32 else UInt8.ofNat i

theorem cell_lt {w : World} {b i : Nat} {v : Value} (h : w.cell? ⟨b, i, none⟩ = some v) : b < w.heap.size := by
  rcases Nat.lt_or_ge b w.heap.size with h' | h'
  · exact h'
  · unfold World.cell? at h; simp [Array.getElem?_eq_none h'] at h
theorem tabL_len (f : Nat → UInt8) : (tabL f).length = 256 := by unfold tabL; simp
theorem tabL_get {f : Nat → UInt8} {i : Nat} (h : i < 256) : (tabL f)[i]? = some (.int .u8 (f i).toNat) := by
  unfold tabL
  rw [List.getElem?_map, List.getElem?_range h]; rfl
theorem tabL_set {f : Nat → UInt8} {i : Nat} (h : i < 256) (c : UInt8) : (tabL f).set i (.int .u8 c.toNat) = tabL (fun j => if j = i then c else f j) := by
  refine List.ext_getElem? fun j => ?_
  by_cases hj : j < 256
  · rw [tabL_get hj]
    by_cases hij : i = j
    · subst hij
      rw [List.getElem?_set_self (by rw [tabL_len]; exact h), if_pos rfl]
    · rw [List.getElem?_set_ne hij, tabL_get hj, if_neg (fun e => hij e.symm)]
  · rw [List.getElem?_eq_none (by rw [List.length_set, tabL_len]; omega), List.getElem?_eq_none (by rw [tabL_len]; omega)]
section
variable {w w' : World} {t : Nat} {f : Nat → UInt8}
theorem Tab8.lt (h : Tab8 w t f) : t < w.heap.size := heap_lt h
theorem Tab8.cell (h : Tab8 w t f) {i : Nat} (hi : i < 256) : w.cell? ⟨t, i, none⟩ = some (.int .u8 (f i).toNat) := by
  rw [Lib.cell_of_heap h]
  have := tabL_get (f := f) hi
  simpa using this
theorem Tab8.free (h : Tab8 w t f) (i : Nat) : w.frozen? ⟨t, i, none⟩ = false := Lib.frozen_of_heap h i
theorem Tab8.set_ (h : Tab8 w t f) {i : Nat} (hi : i < 256) (c : UInt8) : Tab8 (w.setCell ⟨t, i, none⟩ (.int .u8 c.toNat)) t (fun j => if j = i then c else f j) := by
  have := heap_set (i := i) h (.int .u8 c.toNat)
  unfold Tab8
  rw [this, ← tabL_set hi]
  simp
theorem Tab8.below (h : Tab8 w t f) (hb : Below w.heap.size w w') : Tab8 w' t f := (hb.block _ h.lt).trans h
theorem Tab8.congr (h : Tab8 w t f) {g : Nat → UInt8} (e : ∀ i, i < 256 → f i = g i) : Tab8 w t g := by
  have : tabL f = tabL g := List.map_congr_left fun i hi => by rw [e i (List.mem_range.1 hi)]
  unfold Tab8 at *
  rw [← this]; exact h
end
theorem zero186 : Tryz.zeroCells186 = (tabL fun _ => 0).toArray := by kernel_rfl
theorem zero_store (w : World) : ∃ W, (storeCells ⟨w.heap.size, 0, none⟩ Tryz.zeroCells186.toList).run Tryz.prog (w.alloc (.cells Tryz.zeroCells186 186)) = .ok () W ∧ Tab8 W w.heap.size (fun _ => 0) ∧ Below w.heap.size w W ∧ W.heap.size = w.heap.size + 1 := by
  have h0 := heap_alloc_new w (.cells Tryz.zeroCells186 186)
  have hl : Tryz.zeroCells186.toList.length = 256 := by rw [zero186]; simp [tabL_len]
  have hs : Tryz.zeroCells186.size = 256 := by rw [zero186]; simp [tabL_len]
  have h1 := run_storeCells_at Tryz.prog w.heap.size 0 186 Tryz.zeroCells186.toList 0 _ _ h0 (by rw [hl, hs]; omega) (by
    rw [zero186]
    intro v hv
    simp [tabL] at hv
    rw [← hv.2]; rfl)
  refine ⟨_, h1, ?_, ?_, ?_⟩
  · have := setRow_heap (w.alloc (.cells Tryz.zeroCells186 186)) w.heap.size _ (Tryz.zeroCells186.toList.take (0 + 0) ++ Tryz.zeroCells186.toList ++ Tryz.zeroCells186.toList.drop (0 + 0 + Tryz.zeroCells186.toList.length)).toArray 186 (0, 0) h0
    unfold Tab8
    rw [this]
    simp [zero186]
  · exact ((Below.refl _ _).alloc (Nat.le_refl _) _).trans ((upd_setRow _ _ _).below (Nat.le_refl _) (by simp))
  · simp [World.setRow]
theorem byte_mod {i : Nat} (h : i < 256) : Value.int .u8 (i : Int) = .int .u8 (UInt8.ofNat i).toNat := by
  rw [UInt8.toNat_ofNat', Nat.mod_eq_of_lt (by omega)]
set_option maxHeartbeats 2000000 in
set_option maxRecDepth 100000 in
theorem build_any (h k c : Nat) (w : World) (hR : Rep w h 0 1 .nilIface (.slice (some ⟨k, 0, none⟩) 4 c)) (hS : RepS w k) :
    Calls Tryz.prog 136 #[.pointer (some ⟨h, 0, none⟩)] w fun e w' =>
      ∃ t, e = .returned (.iface 187 (.pointer (some ⟨t, 0, none⟩))) ∧ Tab8 w' t repT ∧ w.heap.size ≤ t ∧ t < w'.heap.size ∧ Below w.heap.size w w' := by
  have h2 : w.cell? ⟨h, 4, none⟩ = some (.slice (some ⟨k, 0, none⟩) 4 c) := by rw [Lib.cell_of_heap hR]; rfl
  have hk : k < w.heap.size := cell_lt hS.1
  have HS := Lib.hid hS
  obtain ⟨s0, s1, s2, s3⟩ := hS
  obtain ⟨W, hst, hT, hB, hsz⟩ := zero_store w
  have HT := Lib.hid hT
  have HB := Lib.hid hB
  have HZ := Lib.hid hsz
  clear hT hB hsz hR
  go_enter Tryz.func136, Tryz.ntmps136
  go_wp2_with fail
  go_loop [4, 5] (fun s4 s5 => ∃ i : Nat, (i = 0 ∨ i = 2 ∨ i = 4) ∧ s4 = .bool true ∧ s5 = .int .i64 i) (fun _ s5 => 4 - (intOf s5).toNat)
  case atStart => exact ⟨0, .inl rfl, rfl, rfl⟩
  case round =>
    obtain ⟨i, hi, rfl, rfl⟩ := hrel
    rcases hi with rfl | rfl | rfl
    · go_wp2_with fail
      go_round
      case rel => exact ⟨2, .inr (.inl rfl), rfl, rfl⟩
      case measure => simp [intOf]
    · go_wp2_with fail
      go_round
      case rel => exact ⟨4, .inr (.inr rfl), rfl, rfl⟩
      case measure => simp [intOf]
    · go_wp2_with fail
      go_loopw [61] (fun s61 wr => ∃ i : Nat, i ≤ 256 ∧ s61 = .int .i64 i ∧ Tab8 wr w.heap.size (fun j => if j < i then UInt8.ofNat j else 0) ∧ Below w.heap.size w wr) (fun s61 _ => 256 - (intOf s61).toNat)
      case atStart => exact ⟨0, by omega, rfl, HT.out.congr (by simp), HB.out⟩
      case round =>
        obtain ⟨i, hi, rfl, hT, hB⟩ := hrel
        have HT := Lib.hid hT
        have HB := Lib.hid hB
        by_cases hlt : i < 256
        · have hlt' : (i : Int) < 256 := by omega
          have hc := hT.cell hlt
          have hf := hT.free i
          clear hT hB
          go_wp2_with fail
          go_roundw
          case rel =>
            refine ⟨i + 1, by omega, by go_num, ?_, HB.out.setCell (p := ⟨w.heap.size, i, none⟩) (Nat.le_refl _) _⟩
            rw [byte_mod hlt]
            refine (HT.out.set_ hlt _).congr fun j hj => ?_
            by_cases h1 : j = i
            · subst h1; rw [if_pos rfl, if_pos (by omega)]
            · rw [if_neg h1]
              by_cases h2 : j < i
              · rw [if_pos h2, if_pos (by omega)]
              · rw [if_neg h2, if_neg (by omega)]
          case measure => simp [intOf]; omega
        · have hT1 : Hid (Tab8 wr w.heap.size UInt8.ofNat) := hT.congr fun j hj => by rw [if_pos (by omega)]
          have hlt' : ¬ (i : Int) < 256 := by omega
          have HB2 := Lib.hid hB
          clear hT hB hst HT HB HZ
          go_wp2_with fail
          go_loopw [8, 9, 10] (fun s8 s9 s10 wx => ∃ (i : Nat), (s8 = .int .i64 2 ∧ i = 0 ∨ s8 = .int .i64 0 ∧ i = 1 ∨ s8 = .int .i64 (-2) ∧ i = 2) ∧ Tab8 wx w.heap.size (fun j => if 1 ≤ i ∧ j = 9 ∨ 2 ≤ i ∧ j = 10 then 32 else UInt8.ofNat j) ∧ Below w.heap.size w wx) (fun s8 _ _ _ => (intOf s8 + 2).toNat)
          case atStart => exact ⟨0, .inl ⟨rfl, rfl⟩, hT1.out.congr (by intro j hj; rw [if_neg (by omega)]), HB2.out⟩
          case round =>
            clear HB2 hT1
            obtain ⟨i, hi, hT, hB⟩ := hrel
            have HT := Lib.hid hT
            have HB := Lib.hid hB
            have HS2 : RepS wr k := HS.out.below hk hB
            obtain ⟨s0, s1, s2, s3⟩ := HS2
            clear HS
            rcases hi with ⟨rfl, rfl⟩ | ⟨rfl, rfl⟩ | ⟨rfl, rfl⟩
            · have hc := hT.cell (i := 9) (by omega)
              have hf := hT.free 9
              clear hT hB
              go_wp2_with fail
              go_roundw
              case rel =>
                refine ⟨1, .inr (.inl ⟨rfl, rfl⟩), ?_, HB.out.setCell (p := ⟨w.heap.size, 9, none⟩) (Nat.le_refl _) _⟩
                refine (HT.out.set_ (i := 9) (by omega) 32).congr fun j hj => ?_
                by_cases h1 : j = 9
                · subst h1; simp
                · rw [if_neg h1]; simp [h1]
              case measure => simp [intOf]
            · have hc := hT.cell (i := 10) (by omega)
              have hf := hT.free 10
              clear hT hB
              go_wp2_with fail
              go_roundw
              case rel =>
                refine ⟨2, .inr (.inr ⟨rfl, rfl⟩), ?_, HB.out.setCell (p := ⟨w.heap.size, 10, none⟩) (Nat.le_refl _) _⟩
                refine (HT.out.set_ (i := 10) (by omega) 32).congr fun j hj => ?_
                by_cases h1 : j = 10
                · subst h1; simp
                · rw [if_neg h1]; simp [h1]
              case measure => simp [intOf]
            · have hlt := hT.lt
              clear hT hB
              go_wp2_with fail
              go_ret
              refine ⟨w.heap.size, rfl, HT.out.congr fun j hj => ?_, Nat.le_refl _, hlt, HB.out⟩
              unfold repT
              by_cases h1 : j = 10
              · subst h1; simp
              · by_cases h2 : j = 9
                · subst h2; simp
                · rw [if_neg (by omega), if_neg (by omega)]
end Go.Proofs.YthbfahbjfioghaaGreatDoor
