/-
  Walks of chapter 8: Children and Attr, of the program and of the reference.
-/
import Derived.Test.YtaghipnheomggaaDoorG1
import Derived.Test.YtaghipnheomggaaDoorLoad
set_option linter.unusedVariables false
namespace Go.Proofs.YtaghipnheomggaaDoor
open Go.RowKit

/-- The kids with a namespace and a name; the attribute with them. -/
def isKid (sp nm : Bytes) (k : Node) : Bool := k.kind == 0 && (k.space == sp && k.name == nm)
def pickK (sp nm : Bytes) (ks : List Node) : List Node := ks.filter (isKid sp nm)
def findA (sp nm : Bytes) : List Att → Option Bytes
  | [] => none
  | a :: l => if (a.space == sp && a.name == nm) = true then some a.value else findA sp nm l
def findStr : Option Bytes → Bytes | none => [] | some v => v
def findHas : Option Bytes → Bool | none => false | some _ => true

set_option maxHeartbeats 2000000 in
theorem attr8_any (n : Node) (v : Value) (sp nm : Bytes) (w : World) (hv : NodeV w w.heap.size n v) (hl : n.attrs.length ≤ 1000000000) :
    Calls Tryd.prog 19 #[v, .string (S sp), .string (S nm)] w fun e w' => e = .returned (.tuple #[.string (S (findStr (findA sp nm n.attrs))), .bool (findHas (findA sp nm n.attrs))]) ∧ Below w.heap.size w w' := by
  obtain ⟨A, c, K, d, rfl, ha, hk, hc, hd⟩ := hv.open_
  obtain ⟨R, hR⟩ : ∃ R, findA sp nm n.attrs = R := ⟨_, rfl⟩
  rw [hR]
  have HA := Lib.hid ha
  have HR := Lib.hid hR
  clear ha hk hv hR
  go_enter Tryd.func19, Tryd.ntmps19
  go_wp2_with fail
  go_loopw [13] (fun i13 wr => ∃ i : Nat, i ≤ n.attrs.length ∧ i13 = .int .i64 i ∧ findA sp nm (n.attrs.drop i) = R ∧ Below (w.heap.size + 1) (w.alloc (nodeBox n A c K d)) wr) (fun i13 _ => n.attrs.length - (intOf i13).toNat)
  case atStart => exact ⟨0, Nat.zero_le _, rfl, by simpa using HR.out, Below.refl _ _⟩
  case round =>
    obtain ⟨i, hi, rfl, hres, hb⟩ := hrel
    have hbw : Below w.heap.size w wr := ((Below.refl _ _).alloc (Nat.le_refl _) _).trans (hb.mono (by omega))
    have hsz := hb.size
    simp only [World.size_alloc] at hsz
    clear HR
    by_cases hlt : i < n.attrs.length
    · rw [List.drop_eq_getElem_cons hlt, findA] at hres
      obtain ⟨b, off, rfl, hbl, hr⟩ := HA.out.at_ hlt
      have HR1 := Lib.hid (show wr.rangeAt b (off + i * 4) (attCells n.attrs[i]) from rangeAt_keep hr (hbw.block b hbl))
      generalize n.attrs[i] = a at *
      have HBW := Lib.hid (hbw.alloc (by omega) (.cells #[.string (S a.space), .string (S a.name), .string (S a.value), .int .i64 a.pos] 41))
      have HB := Lib.hid (hb.alloc (by omega) (.cells #[.string (S a.space), .string (S a.name), .string (S a.value), .int .i64 a.pos] 41))
      clear hb hbw hr
      rcases xs : (a.space == sp) with _ | _
      · rw [xs] at hres
        simp only [Bool.false_and, Bool.false_eq_true, if_false] at hres
        have HRS := Lib.hid hres
        clear hres
        go_wp2_with (with_reducible refine gate ?_; refine wp_load_att rfl _ rfl b (off + i * 4) rfl a HR1.out ?_)
        go_roundw
        case rel => exact ⟨i + 1, by omega, by go_num, HRS.out, HB.out⟩
        case measure => simp [intOf]; omega
      · rcases xn : (a.name == nm) with _ | _
        · rw [xs, xn] at hres
          simp only [Bool.and_false, Bool.false_eq_true, if_false] at hres
          have HRS := Lib.hid hres
          clear hres
          go_wp2_with (with_reducible refine gate ?_; refine wp_load_att rfl _ rfl b (off + i * 4) rfl a HR1.out ?_)
          go_roundw
          case rel => exact ⟨i + 1, by omega, by go_num, HRS.out, HB.out⟩
          case measure => simp [intOf]; omega
        · rw [xs, xn] at hres
          simp only [Bool.and_self, if_true] at hres
          subst hres
          go_wp2_with (with_reducible refine gate ?_; refine wp_load_att rfl _ rfl b (off + i * 4) rfl a HR1.out ?_)
          go_ret2
          exact ⟨rfl, HBW.out⟩
    · have hil : i = n.attrs.length := by omega
      rw [hil, List.drop_length, findA] at hres
      subst hres hil
      have HBW := Lib.hid hbw
      have hlt' : ¬ ((n.attrs.length : Int) < n.attrs.length) := by omega
      clear hb hbw
      go_wp2_with fail
      go_ret2
      exact ⟨rfl, HBW.out⟩
set_option maxHeartbeats 2000000 in
theorem refAttr8_any (n : Node) (v : Value) (sp nm : Bytes) (w : World) (hv : NodeV w w.heap.size n v) (hl : n.attrs.length ≤ 1000000000) :
    Calls Tryd.prog 20 #[v, .string (S sp), .string (S nm)] w fun e w' => e = .returned (.tuple #[.string (S (findStr (findA sp nm n.attrs))), .bool (findHas (findA sp nm n.attrs))]) ∧ Below w.heap.size w w' := by
  obtain ⟨A, c, K, d, rfl, ha, hk, hc, hd⟩ := hv.open_
  obtain ⟨R, hR⟩ : ∃ R, findA sp nm n.attrs = R := ⟨_, rfl⟩
  rw [hR]
  have HA := Lib.hid ha
  have HR := Lib.hid hR
  clear ha hk hv hR
  go_enter Tryd.func20, Tryd.ntmps20
  go_wp2_with fail
  go_loopw [8] (fun i8 wr => ∃ i : Nat, i ≤ n.attrs.length ∧ i8 = .int .i64 i ∧ findA sp nm (n.attrs.drop i) = R ∧ Below (w.heap.size + 1) (w.alloc (nodeBox n A c K d)) wr) (fun i8 _ => n.attrs.length - (intOf i8).toNat)
  case atStart => exact ⟨0, Nat.zero_le _, rfl, by simpa using HR.out, Below.refl _ _⟩
  case round =>
    obtain ⟨i, hi, rfl, hres, hb⟩ := hrel
    have hbw : Below w.heap.size w wr := ((Below.refl _ _).alloc (Nat.le_refl _) _).trans (hb.mono (by omega))
    have hbx : wr.heap[w.heap.size]? = some (nodeBox n A c K d) := (hb.block _ (by omega)).trans (heap_alloc_new w _)
    obtain ⟨n0, n1, n2, n3, n4, n5, n6⟩ := box_cells hbx
    have hsz := hb.size
    simp only [World.size_alloc] at hsz
    clear HR n0 n1 n2 n4 n5 n6 hbx
    by_cases hlt : i < n.attrs.length
    · rw [List.drop_eq_getElem_cons hlt, findA] at hres
      obtain ⟨b, off, rfl, hbl, hr⟩ := HA.out.at_ hlt
      have hr1 := (show wr.rangeAt b (off + i * 4) (attCells n.attrs[i]) from rangeAt_keep hr (hbw.block b hbl))
      have hlt' : (i : Int) < n.attrs.length := by omega
      generalize n.attrs[i] = a at *
      have a0 : wr.cell? ⟨b, off + i * 4, none⟩ = some (.string (S a.space)) := hr1 0 _ rfl
      have a1 : wr.cell? ⟨b, off + i * 4 + 1, none⟩ = some (.string (S a.name)) := hr1 1 _ rfl
      have a2 : wr.cell? ⟨b, off + i * 4 + 2, none⟩ = some (.string (S a.value)) := hr1 2 _ rfl
      have HBW := Lib.hid hbw
      have HB := Lib.hid hb
      clear hb hbw hr hr1
      rcases xs : (a.space == sp) with _ | _
      · rw [xs] at hres
        simp only [Bool.false_and, Bool.false_eq_true, if_false] at hres
        have HRS := Lib.hid hres
        clear hres
        go_wp2
        go_roundw
        case rel => exact ⟨i + 1, by omega, by go_num, HRS.out, HB.out⟩
        case measure => simp [intOf]; omega
      · rcases xn : (a.name == nm) with _ | _
        · rw [xs, xn] at hres
          simp only [Bool.and_false, Bool.false_eq_true, if_false] at hres
          have HRS := Lib.hid hres
          clear hres
          go_wp2
          go_roundw
          case rel => exact ⟨i + 1, by omega, by go_num, HRS.out, HB.out⟩
          case measure => simp [intOf]; omega
        · rw [xs, xn] at hres
          simp only [Bool.and_self, if_true] at hres
          subst hres
          go_wp2
          go_ret2
          exact ⟨rfl, HBW.out⟩
    · have hil : i = n.attrs.length := by omega
      rw [hil, List.drop_length, findA] at hres
      subst hres hil
      have HBW := Lib.hid hbw
      have hlt' : ¬ ((n.attrs.length : Int) < n.attrs.length) := by omega
      clear hb hbw
      go_wp2_with fail
      go_ret2
      exact ⟨rfl, HBW.out⟩

theorem pickK_no {sp nm : Bytes} {k : Node} {ks : List Node} (h : isKid sp nm k = false) : pickK sp nm (k :: ks) = pickK sp nm ks := by unfold pickK; rw [List.filter_cons, h]; simp
theorem pickK_yes {sp nm : Bytes} {k : Node} {ks : List Node} (h : isKid sp nm k = true) : pickK sp nm (k :: ks) = k :: pickK sp nm ks := by unfold pickK; rw [List.filter_cons, h]; simp
/-- What Children returns. -/
def KidRes (w w' : World) (r : List Node) (e : Ending) : Prop := (∃ u, e = .returned u ∧ NodesIn w' w'.heap.size u r) ∧ Below w.heap.size w w'
set_option maxHeartbeats 4000000 in
set_option maxRecDepth 100000 in
theorem children8_any (n : Node) (v : Value) (sp nm : Bytes) (w : World) (hv : NodeV w w.heap.size n v) (hl : n.kids.length ≤ 1000000000) :
    Calls Tryd.prog 17 #[v, .string (S sp), .string (S nm)] w fun e w' => KidRes w w' (pickK sp nm n.kids) e := by
  obtain ⟨A, c, K, d, rfl, ha, hk, hc, hd⟩ := hv.open_
  obtain ⟨R, hR⟩ : ∃ R, pickK sp nm n.kids = R := ⟨_, rfl⟩
  rw [hR]
  have HK := Lib.hid hk
  have HR := Lib.hid hR
  clear ha hk hv hR
  go_enter Tryd.func17, Tryd.ntmps17
  go_wp2_with fail
  go_loopw [7, 13] (fun s7 i13 wr => ∃ (i : Nat) (acc : List Node) (KA : Option Addr) (kc : Nat), i ≤ n.kids.length ∧ i13 = .int .i64 i ∧ s7 = .slice KA acc.length kc ∧ acc.length ≤ i ∧ acc ++ pickK sp nm (n.kids.drop i) = R ∧ ElRow nodeE wr (w.heap.size + 1) (· < w.heap.size) (.slice KA acc.length kc) acc ∧ Below (w.heap.size + 1) (w.alloc (nodeBox n A c K d)) wr) (fun _ i13 _ => n.kids.length - (intOf i13).toNat)
  case atStart => exact ⟨0, [], none, 0, Nat.zero_le _, rfl, rfl, Nat.le_refl _, by simpa using HR.out, ElRow.nil _ _ _ _, Below.refl _ _⟩
  case round =>
    obtain ⟨i, acc, KA, kc, hi, rfl, rfl, hai, hres, hrow, hb⟩ := hrel
    have hbw : Below w.heap.size w wr := ((Below.refl _ _).alloc (Nat.le_refl _) _).trans (hb.mono (by omega))
    have hsz := hb.size
    simp only [World.size_alloc] at hsz
    clear HR
    by_cases hlt : i < n.kids.length
    · rw [List.drop_eq_getElem_cons hlt] at hres
      obtain ⟨b, off, cs, rfl, hbl, hr, hcs⟩ := HK.out.at_ hlt
      have HR1 := Lib.hid (show wr.rangeAt b (off + i * 7) cs from rangeAt_keep hr (hbw.block b hbl))
      have hkp := NodeIn.toP _ _ hcs
      generalize n.kids[i] = k at *
      obtain ⟨NA, nc, NK, nd, rfl, _, _, _, _⟩ := hcs.open_
      have HKN := Lib.hid (NodeP.keep (w' := wr.alloc (nodeBox k NA nc NK nd)) (fun b hb => (Below.heap_alloc _ _ _ (by omega)).trans (hbw.block b hb)) (fun _ h => h) _ _ hkp)
      have HBW := Lib.hid (hbw.alloc (by omega) (nodeBox k NA nc NK nd))
      have HB := Lib.hid (hb.alloc (by omega) (nodeBox k NA nc NK nd))
      have HROW := Lib.hid (hrow.below nodeE_ok ((Below.refl _ _).alloc (Nat.le_refl _) (nodeBox k NA nc NK nd)) (fun b (hb : b < w.heap.size) => by omega))
      have X4 := heap_alloc_new wr (nodeBox k NA nc NK nd)
      have hra4 := range_of_heap (cs := [.int .i64 k.kind, .string (S k.space), .string (S k.name), .slice NA k.attrs.length nc, .slice NK k.kids.length nd, .string (S k.text), .int .i64 k.pos]) X4
      have hz4 : (wr.alloc (nodeBox k NA nc NK nd)).heap.size = wr.heap.size + 1 := by simp
      obtain ⟨n0, n1, n2, n3, n4, n5, n6⟩ := box_cells X4
      clear n3 n4 n5 n6 hr hcs hkp hrow X4
      have hown : ∀ j, j < w.heap.size → (Value.slice KA acc.length kc).ownBlock ≠ some j := fun j hj e => by have := HROW.out.lt j e; omega
      have HOWN := Lib.hid hown
      clear hown hb hbw
      have tt : ((k.kind == 0) = false ∨ (k.kind == 0) = true ∧ ((k.space == sp) = false ∨ (k.space == sp) = true ∧ (k.name == nm) = false)) ∧ isKid sp nm k = false ∨ (((k.kind == 0) = true ∧ (k.space == sp) = true ∧ (k.name == nm) = true) ∧ isKid sp nm k = true) := by
        unfold isKid
        cases (k.kind == 0) <;> cases (k.space == sp) <;> cases (k.name == nm) <;> simp
      rcases tt with ⟨tt, ti⟩ | ⟨⟨t1, t2, t3⟩, ti⟩
      · rw [pickK_no ti] at hres
        have HRS := Lib.hid hres
        clear hres ti
        rcases tt with t1 | ⟨t1, t2 | ⟨t2, t3⟩⟩
        all_goals
          go_wp2_with (with_reducible refine gate ?_; refine wp_load_node rfl _ rfl b (off + i * 7) rfl _ rfl HR1.out ?_)
          go_roundw
          case rel => exact ⟨i + 1, acc, KA, kc, by omega, by go_num, rfl, by omega, HRS.out, HROW.out, HB.out⟩
          case measure => simp [intOf]; omega
      · rw [pickK_yes ti] at hres
        have HRS := Lib.hid hres
        clear hres ti
        go_wp2_with (first
          | (with_reducible refine gate ?_; refine wp_load_node rfl _ rfl b (off + i * 7) rfl _ rfl HR1.out ?_)
          | (with_reducible refine gate ?_; refine wp_load_node rfl _ rfl wr.heap.size 0 rfl _ rfl hra4 ?_)
          | (with_reducible refine gate ?_; refine els_append nodeE_ok rfl _ _ rfl (wr.alloc (nodeBox k NA nc NK nd)) (w.heap.size + 1) (· < w.heap.size) (.slice KA acc.length kc) acc rfl HROW.out k [.int .i64 k.kind, .string (S k.space), .string (S k.name), .slice NA k.attrs.length nc, .slice NK k.kids.length nd, .string (S k.text), .int .i64 k.pos] (wr.heap.size + 1) hz4 rfl HKN.out HOWN.out (fun j hj => by have h1 : j < w.heap.size := hj; omega) (by omega) (by omega) ?_; intro g8 c8 w8 hat8 hlt8 hrow8 hgr8 hb8))
        go_roundw
        case rel => exact ⟨i + 1, acc ++ [k], some ⟨g8, 0, none⟩, c8, by omega, by go_num, by simp, by simp; omega, by have := HRS.out; simpa using this, by simpa using hrow8, HB.out.trans hb8⟩
        case measure => simp [intOf]; omega
    · have hil : i = n.kids.length := by omega
      rw [hil, List.drop_length] at hres
      have hre : acc = R := by rw [← hres]; simp [pickK]
      subst hre hil
      have HBW := Lib.hid hbw
      have HROW := Lib.hid hrow
      have hlt' : ¬ ((n.kids.length : Int) < n.kids.length) := by omega
      clear hb hbw hres hrow
      go_wp2_with fail
      go_ret
      refine ⟨⟨_, rfl, ?_⟩, HBW.out⟩
      have hs := HBW.out.size
      exact ((HROW.out.elsP (p' := (· < wr.heap.size)) nodeE_ok (fun j hj => by have h1 : j < w.heap.size := hj; show j < wr.heap.size; omega) (fun j hj => (HROW.out.lt j hj).2)).nodesP).toIn (fun _ h => h)
set_option maxHeartbeats 4000000 in
set_option maxRecDepth 100000 in
theorem refChildren8_any (n : Node) (v : Value) (sp nm : Bytes) (w : World) (hv : NodeV w w.heap.size n v) (hl : n.kids.length ≤ 1000000000) :
    Calls Tryd.prog 18 #[v, .string (S sp), .string (S nm)] w fun e w' => KidRes w w' (pickK sp nm n.kids) e := by
  obtain ⟨A, c, K, d, rfl, ha, hk, hc, hd⟩ := hv.open_
  obtain ⟨R, hR⟩ : ∃ R, pickK sp nm n.kids = R := ⟨_, rfl⟩
  rw [hR]
  have HK := Lib.hid hk
  have HR := Lib.hid hR
  clear ha hk hv hR
  go_enter Tryd.func18, Tryd.ntmps18
  go_wp2_with fail
  go_loopw [7, 8] (fun s7 i8 wr => ∃ (i : Nat) (acc : List Node) (KA : Option Addr) (kc : Nat), i ≤ n.kids.length ∧ i8 = .int .i64 i ∧ s7 = .slice KA acc.length kc ∧ acc.length ≤ i ∧ acc ++ pickK sp nm (n.kids.drop i) = R ∧ ElRow nodeE wr (w.heap.size + 1) (· < w.heap.size) (.slice KA acc.length kc) acc ∧ Below (w.heap.size + 1) (w.alloc (nodeBox n A c K d)) wr) (fun _ i8 _ => n.kids.length - (intOf i8).toNat)
  case atStart => exact ⟨0, [], none, 0, Nat.zero_le _, rfl, rfl, Nat.le_refl _, by simpa using HR.out, ElRow.nil _ _ _ _, Below.refl _ _⟩
  case round =>
    obtain ⟨i, acc, KA, kc, hi, rfl, rfl, hai, hres, hrow, hb⟩ := hrel
    have hbw : Below w.heap.size w wr := ((Below.refl _ _).alloc (Nat.le_refl _) _).trans (hb.mono (by omega))
    have hbx : wr.heap[w.heap.size]? = some (nodeBox n A c K d) := (hb.block _ (by omega)).trans (heap_alloc_new w _)
    obtain ⟨m0, m1, m2, m3, m4, m5, m6⟩ := box_cells hbx
    have hsz := hb.size
    simp only [World.size_alloc] at hsz
    clear HR m0 m1 m2 m3 m5 m6 hbx
    by_cases hlt : i < n.kids.length
    · have hlt' : (i : Int) < n.kids.length := by omega
      rw [List.drop_eq_getElem_cons hlt] at hres
      obtain ⟨b, off, cs, rfl, hbl, hr, hcs⟩ := HK.out.at_ hlt
      have hr1 := (show wr.rangeAt b (off + i * 7) cs from rangeAt_keep hr (hbw.block b hbl))
      have hkp := NodeIn.toP _ _ hcs
      generalize n.kids[i] = k at *
      obtain ⟨NA, nc, NK, nd, rfl, _, _, _, _⟩ := hcs.open_
      have n0 : wr.cell? ⟨b, off + i * 7, none⟩ = some (.int .i64 k.kind) := hr1 0 _ rfl
      have n1 : wr.cell? ⟨b, off + i * 7 + 1, none⟩ = some (.string (S k.space)) := hr1 1 _ rfl
      have n2 : wr.cell? ⟨b, off + i * 7 + 2, none⟩ = some (.string (S k.name)) := hr1 2 _ rfl
      have HR1 := Lib.hid hr1
      have HKN := Lib.hid (NodeP.keep (w' := wr) (fun b hb => hbw.block b hb) (fun _ h => h) _ _ hkp)
      have HBW := Lib.hid hbw
      have HB := Lib.hid hb
      have HROW := Lib.hid hrow
      clear hr hcs hkp hrow hr1
      have hown : ∀ j, j < w.heap.size → (Value.slice KA acc.length kc).ownBlock ≠ some j := fun j hj e => by have := HROW.out.lt j e; omega
      have HOWN := Lib.hid hown
      clear hown hb hbw
      have tt : ((k.kind == 0) = false ∨ (k.kind == 0) = true ∧ ((k.space == sp) = false ∨ (k.space == sp) = true ∧ (k.name == nm) = false)) ∧ isKid sp nm k = false ∨ (((k.kind == 0) = true ∧ (k.space == sp) = true ∧ (k.name == nm) = true) ∧ isKid sp nm k = true) := by
        unfold isKid
        cases (k.kind == 0) <;> cases (k.space == sp) <;> cases (k.name == nm) <;> simp
      rcases tt with ⟨tt, ti⟩ | ⟨⟨t1, t2, t3⟩, ti⟩
      · rw [pickK_no ti] at hres
        have HRS := Lib.hid hres
        clear hres ti
        rcases tt with t1 | ⟨t1, t2 | ⟨t2, t3⟩⟩
        all_goals
          go_wp2
          go_roundw
          case rel => exact ⟨i + 1, acc, KA, kc, by omega, by go_num, rfl, by omega, HRS.out, HROW.out, HB.out⟩
          case measure => simp [intOf]; omega
      · rw [pickK_yes ti] at hres
        have HRS := Lib.hid hres
        clear hres ti
        go_wp2_with (first
          | (with_reducible refine gate ?_; refine wp_load_node rfl _ rfl b (off + i * 7) rfl _ rfl HR1.out ?_)
          | (with_reducible refine gate ?_; refine els_append nodeE_ok rfl _ _ rfl wr (w.heap.size + 1) (· < w.heap.size) (.slice KA acc.length kc) acc rfl HROW.out k [.int .i64 k.kind, .string (S k.space), .string (S k.name), .slice NA k.attrs.length nc, .slice NK k.kids.length nd, .string (S k.text), .int .i64 k.pos] wr.heap.size rfl rfl HKN.out HOWN.out (fun j hj => by have h1 : j < w.heap.size := hj; omega) (by omega) (by omega) ?_; intro g8 c8 w8 hat8 hlt8 hrow8 hgr8 hb8))
        go_roundw
        case rel => exact ⟨i + 1, acc ++ [k], some ⟨g8, 0, none⟩, c8, by omega, by go_num, by simp, by simp; omega, by have := HRS.out; simpa using this, by simpa using hrow8, HB.out.trans hb8⟩
        case measure => simp [intOf]; omega
    · have hil : i = n.kids.length := by omega
      rw [hil, List.drop_length] at hres
      have hre : acc = R := by rw [← hres]; simp [pickK]
      subst hre hil
      have HBW := Lib.hid hbw
      have HROW := Lib.hid hrow
      have hlt' : ¬ ((n.kids.length : Int) < n.kids.length) := by omega
      clear hb hbw hres hrow
      go_wp2_with fail
      go_ret
      refine ⟨⟨_, rfl, ?_⟩, HBW.out⟩
      have hs := HBW.out.size
      exact ((HROW.out.elsP (p' := (· < wr.heap.size)) nodeE_ok (fun j hj => by have h1 : j < w.heap.size := hj; show j < wr.heap.size; omega) (fun j hj => (HROW.out.lt j hj).2)).nodesP).toIn (fun _ h => h)
end Go.Proofs.YtaghipnheomggaaDoor
