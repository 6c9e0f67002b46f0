/-
  Several texts in one file, in build order:
  - Chapter 8, reference: bindings in memory; lookup.
  - Walk of chapter 8: the reference's head.
  - Walk of chapter 8: the reference's resolve, Resolve.
-/
import Derived.Test.YtaghipnheomggaaDoorG1
import Derived.Test.YtaghipnheomggaaDoorMap
import Derived.Test.YtaghipnheomggaaDoorPar1
import Derived.Test.YtaghipnheomggaaDoorTokR5
import Derived.Test.YtaghipnheomggaaDoorPar5
set_option linter.unusedVariables false
namespace Go.Proofs.YtaghipnheomggaaDoor
open Go.RowKit

/-! The scope that a list of bindings stands for. -/
def scopeB (bs : List (Bytes × Bytes)) : Scope := bs.foldl (fun g b => g.put b.1 b.2) scope0
theorem scopeB_append (bs : List (Bytes × Bytes)) (b : Bytes × Bytes) : scopeB (bs ++ [b]) = (scopeB bs).put b.1 b.2 := by
  unfold scopeB; rw [List.foldl_append]; rfl
theorem foldl_xml : ∀ (bs : List (Bytes × Bytes)) (g : Scope), g bXml = some xmlSpace → (∀ b ∈ bs, b.1 ≠ bXml) → bs.foldl (fun g b => g.put b.1 b.2) g bXml = some xmlSpace
  | [], g, h, _ => h
  | b :: bs, g, h, hb => by
    rw [List.foldl_cons]
    refine foldl_xml bs _ ?_ (fun x hx => hb x (by simp [hx]))
    unfold Scope.put
    rw [if_neg (fun e => hb b (by simp) e.symm)]
    exact h
theorem scopeB_xml (bs : List (Bytes × Bytes)) (h : ∀ b ∈ bs, b.1 ≠ bXml) : scopeB bs bXml = some xmlSpace := foldl_xml bs scope0 rfl h
/-- What lookup returns. -/
def lookR (o : Option Bytes) : Bytes × Bool := match o with | some s => (s, true) | none => ([], false)

abbrev bindE : Elt (Bytes × Bytes) where
  T := 118
  TS := 90
  c := 2
  bytes := 32
  zero := .agg #[.string ByteArray.empty, .string ByteArray.empty]
  El := fun _ _ b cs => cs = [.string (S b.1), .string (S b.2)]
theorem bindE_ok : bindE.Ok where
  info := by kernel_rfl
  list := Tryd.underlying90
  zc := rfl
  pos := by decide
  small := by decide
  keep := fun h _ _ => h
  len := fun h => by rw [h]; rfl
  one := fun h => by rw [h]; simp [Value.oneCell']
theorem ElsP.bind {w : World} {p : Nat → Prop} {A : Option Addr} {n cap i : Nat} {bs : List (Bytes × Bytes)} (h : ElsP bindE w p (.slice A n cap) bs) (hi : i < bs.length) :
    ∃ b off, A = some ⟨b, off, none⟩ ∧ p b ∧ w.cell? ⟨b, off + i * 2, none⟩ = some (.string (S bs[i].1)) ∧ w.cell? ⟨b, off + i * 2 + 1, none⟩ = some (.string (S bs[i].2)) := by
  obtain ⟨b, off, cs, hA, hp, hr, rfl⟩ := h.at_ hi
  exact ⟨b, off, hA, hp, hr 0 _ rfl, hr 1 _ rfl⟩

set_option maxHeartbeats 1000000 in
theorem lookup_any (bs : List (Bytes × Bytes)) (hx : ∀ b ∈ bs, b.1 ≠ bXml) (k : Bytes) (v : Value) (p : Nat → Prop) (w : World) (hl : bs.length ≤ 1000000000000) (hv : ElsP bindE w p v bs) :
    Calls Tryd.prog 65 #[v, .string (S k)] w fun e w' => e = .returned (.tuple #[.string (S (lookR (scopeB bs k)).1), .bool (lookR (scopeB bs k)).2]) ∧ w = w' := by
  obtain ⟨R, hR⟩ : ∃ R, scopeB bs k = R := ⟨_, rfl⟩
  rw [hR]
  obtain ⟨A, cap, rfl, hcap⟩ := hv.slice
  by_cases hk : k = bXml
  · have hR2 := scopeB_xml bs hx
    rw [← hk, hR] at hR2
    subst hR2
    have t1 : (k == [120, 109, 108]) = true := by rw [hk]; rfl
    clear hR hx hv hk
    go_enter Tryd.func65, Tryd.ntmps65
    go_wp2
    go_ret2
    exact ⟨rfl, rfl⟩
  · have t1 : (k == [120, 109, 108]) = false := by rw [beq_eq_false_iff_ne]; exact hk
    have HR := Lib.hid hR
    have HV := Lib.hid hv
    have HX := Lib.hid hx
    clear hR hv hx
    go_enter Tryd.func65, Tryd.ntmps65
    go_wp2
    go_loop [6] (fun i6 => ∃ i : Nat, i ≤ bs.length ∧ i6 = .int .i64 ((i : Int) - 1) ∧ scopeB (bs.take i) k = R) (fun i6 => (intOf i6 + 1).toNat)
    case atStart => exact ⟨bs.length, Nat.le_refl _, by go_num, by rw [List.take_length]; exact HR.out⟩
    case round =>
      obtain ⟨i, hi, rfl, hs⟩ := hrel
      cases i with
      | zero =>
        have hs2 : (if k = [] then some [] else none) = R := by
          rw [← hs]
          show _ = scope0 k
          unfold scope0
          rw [if_neg hk]
        have e0 : ((0 : Nat) : Int) - 1 = -1 := rfl
        by_cases hk0 : k = []
        · have t2 : (k == []) = true := by rw [hk0]; rfl
          rw [if_pos hk0] at hs2
          clear hs hk hk0
          subst hs2
          go_wp2
          go_ret2
          exact ⟨rfl, rfl⟩
        · have t2 : (k == []) = false := by rw [beq_eq_false_iff_ne]; exact hk0
          rw [if_neg hk0] at hs2
          clear hs hk hk0
          subst hs2
          go_wp2
          go_ret2
          exact ⟨rfl, rfl⟩
      | succ i =>
        have hlt : i < bs.length := by omega
        obtain ⟨b, off, rfl, hp, c0, c1⟩ := HV.out.bind hlt
        have e1 : ((i + 1 : Nat) : Int) - 1 = i := by omega
        have l1 : (i : Int) < bs.length := by omega
        have l2 : (0 : Int) ≤ i := by omega
        rw [e1]
        rw [List.take_succ_eq_append_getElem hlt, scopeB_append] at hs
        unfold Scope.put at hs
        by_cases hb : k = bs[i].1
        · rw [if_pos hb] at hs
          have t2 : (bs[i].1 == k) = true := by rw [hb, beq_self_eq_true]
          have HS := Lib.hid hs
          clear hs hb hk e1
          generalize bs[i] = q at *
          go_wp2
          go_ret2
          exact ⟨by rw [← HS.out]; rfl, rfl⟩
        · rw [if_neg hb] at hs
          have t2 : (bs[i].1 == k) = false := by rw [beq_eq_false_iff_ne]; exact fun e => hb e.symm
          have HS := Lib.hid hs
          clear hs hb hk e1
          generalize bs[i] = q at *
          go_wp2
          go_round
          case rel => exact ⟨i, by omega, by go_num, HS.out⟩
          case measure => simp [intOf]
end Go.Proofs.YtaghipnheomggaaDoor
set_option linter.unusedVariables false
namespace Go.Proofs.YtaghipnheomggaaDoor
open Go.RowKit

theorem res_whole4 {P : Program} {fn : Func} {p q r s : Tmp} {ty : TypeId} (h : fn.results = #[.cell p ty, .tmp q, .tmp r, .tmp s]) (tmps : Array Value) (w : World) (g : Nat) (ht : tmps.getD p undef = .pointer (some ⟨g, 0, none⟩)) (t : TypeId) (cells : Array Value) (hg : w.heap[g]? = some (.cells cells t (0, 0)))
    {d : TypeDesc} (hu : P.underlying ty = some d) (hd : d.isRow = true) (hi : (P.info? ty).map (·.size) = some cells.size) (x y z : Value) (hx : tmps.getD q undef = x) (hy : tmps.getD r undef = y) (hz : tmps.getD s undef = z) : (results fn tmps).run P w = .ok (.tuple #[.agg cells, x, y, z]) w := by
  have hc : w.rangeAt g 0 cells.toList := fun j v hv => by rw [Nat.zero_add, Lib.cell_of_heap hg]; simpa using hv
  have hl := run_loadVar_mid (P := P) w g 0 ty cells.toList d hc hu hd (by simpa using hi)
  rw [Array.toArray_toList] at hl
  subst hx hy hz
  have ht' : tmps[p]?.getD undef = .pointer (some ⟨g, 0, none⟩) := by simpa using ht
  simp only [results, h]
  simp [ht', asAddr, hl]
theorem splR_none {l : Bytes} (h : splitF l = none) : splR l = ([], [], false) := by unfold splR; rw [h]
theorem splR_some {l p q : Bytes} (h : splitF l = some (p, q)) : splR l = (p, q, true) := by unfold splR; rw [h]

/-- Where head stands: the box of its argument, its result, the node that it builds. -/
structure HLo (w0 : World) (n : Node) (A : Option Addr) (c : Nat) (K : Option Addr) (d : Nat) (sp nm : ByteArray) (MA : Option Addr) (mn mc : Nat) (wr : World) : Prop where
  box : wr.heap[w0.heap.size]? = some (nodeBox n A c K d)
  res : wr.heap[w0.heap.size + 1]? = some (.cells zNodC 29 (0, 0))
  m : wr.heap[w0.heap.size + 2]? = some (.cells #[.int .i64 0, .string sp, .string nm, .slice MA mn mc, .slice none 0 0, .string ⟨#[]⟩, .int .i64 n.pos] 29 (0, 0))
  below : Below w0.heap.size w0 wr
theorem HLo.new (w : World) (n : Node) (A : Option Addr) (c : Nat) (K : Option Addr) (d : Nat) :
    HLo w n A c K d ⟨#[]⟩ ⟨#[]⟩ none 0 0 (((w.alloc (nodeBox n A c K d)).alloc (.cells zNodC 29)).alloc (.cells #[.int .i64 0, .string ⟨#[]⟩, .string ⟨#[]⟩, .slice none 0 0, .slice none 0 0, .string ⟨#[]⟩, .int .i64 n.pos] 29)) := by
  refine ⟨?_, ?_, ?_, (((Below.refl _ _).alloc (Nat.le_refl _) _).alloc (by simp) _).alloc (by simp; omega) _⟩
  · exact alloc_old (alloc_old (heap_alloc_new w _))
  · exact alloc_old (alloc_at (by simp))
  · exact alloc_at (by simp)
theorem HLo.next {w0 : World} {n : Node} {A : Option Addr} {c : Nat} {K : Option Addr} {d : Nat} {sp nm : ByteArray} {MA : Option Addr} {mn mc : Nat} {wr w' : World} (h : HLo w0 n A c K d sp nm MA mn mc wr) (hb : Below wr.heap.size wr w') : HLo w0 n A c K d sp nm MA mn mc w' :=
  ⟨(hb.block _ (heap_lt h.box)).trans h.box, (hb.block _ (heap_lt h.res)).trans h.res, (hb.block _ (heap_lt h.m)).trans h.m, h.below.trans (hb.mono h.below.size)⟩
theorem HLo.from3 {w0 : World} {n : Node} {A : Option Addr} {c : Nat} {K : Option Addr} {d : Nat} {sp nm : ByteArray} {MA : Option Addr} {mn mc : Nat} {wr w' : World} (h : HLo w0 n A c K d sp nm MA mn mc wr) (hb : Below (w0.heap.size + 3) wr w') : HLo w0 n A c K d sp nm MA mn mc w' :=
  ⟨(hb.block _ (by omega)).trans h.box, (hb.block _ (by omega)).trans h.res, (hb.block _ (by omega)).trans h.m, ⟨hb.os.trans h.below.os, hb.tape.trans h.below.tape, hb.output.trans h.below.output, Nat.le_trans h.below.size hb.size, fun k hk => (hb.block k (by omega)).trans (h.below.block k hk)⟩⟩
/-- What head returns. -/
def HeadRes (w w' : World) (n : Node) (nb : Nat) (r : Except (Int × Nat) (Bytes × Bytes × List Att × Scope)) (e : Ending) : Prop :=
  match r with
  | .error q => ∃ sp nm A m c, e = .returned (.tuple #[.agg #[.int .i64 0, .string sp, .string nm, .slice A m c, .slice none 0 0, .string ⟨#[]⟩, .int .i64 n.pos], .slice none 0 0, .int .i64 q.1, .int .i64 q.2])
  | .ok (sp, q, ats, g) => ∃ A c I ic bs, e = .returned (.tuple #[.agg #[.int .i64 0, .string (S sp), .string (S q), .slice A ats.length c, .slice none 0 0, .string ⟨#[]⟩, .int .i64 n.pos], .slice I bs.length ic, .int .i64 0, .int .i64 0]) ∧
      AttsP w' (fun b => w.heap.size ≤ b ∧ b < w'.heap.size) (.slice A ats.length c) ats ∧ ElsP bindE w' (fun b => w.heap.size ≤ b ∧ b < w'.heap.size) (.slice I bs.length ic) bs ∧ scopeB bs = g ∧ (∀ b ∈ bs, b.1 ≠ bXml) ∧ bs.length ≤ nb + n.attrs.length

theorem below_seven {B b : Nat} {w W : World} (h : Below B w W) (hb : B ≤ b) (v0 v1 v2 v3 v4 v5 v6 : Value) :
    Below B w (((((((W.setCell ⟨b, 0, none⟩ v0).setCell ⟨b, 1, none⟩ v1).setCell ⟨b, 2, none⟩ v2).setCell ⟨b, 3, none⟩ v3).setCell ⟨b, 4, none⟩ v4).setCell ⟨b, 5, none⟩ v5).setCell ⟨b, 6, none⟩ v6).drew :=
  (((((((h.setCell (p := ⟨b, 0, none⟩) hb _).setCell (p := ⟨b, 1, none⟩) hb _).setCell (p := ⟨b, 2, none⟩) hb _).setCell (p := ⟨b, 3, none⟩) hb _).setCell (p := ⟨b, 4, none⟩) hb _).setCell (p := ⟨b, 5, none⟩) hb _).setCell (p := ⟨b, 6, none⟩) hb _).drew
theorem ElRow.bind_any {w : World} {base : Nat} {p p' : Nat → Prop} {v : Value} {bs : List (Bytes × Bytes)} (h : ElRow bindE w base p v bs) : ElRow bindE w base p' v bs := h
theorem dclR_none {l : Bytes} (h : splitF l = none) : dclR l = ([], false) := by
  unfold dclR; rw [splR_none h]; rfl
theorem dclR_decl {l : Bytes} {r : Bytes × Bytes} (h : splitF l = some r) : declF l = if (dclR l).2 = true then some (dclR l).1 else none := by
  obtain ⟨p, q⟩ := r
  unfold dclR declF
  rw [splR_some h, h]
  simp only
  split
  · rfl
  · simp only [beq_iff_eq]
theorem attF_in {ats : List Att} {i : Nat} (h : i < ats.length) : attF ats[i] ≤ attsF ats := by
  induction ats generalizing i with
  | nil => simp at h
  | cons x l ih =>
    rw [attsF]
    cases i with
    | zero => simp
    | succ i => have := ih (i := i) (by simpa using h); simp only [List.getElem_cons_succ]; omega
theorem atts_append0 {ops : Array Oper} {rest : List Oper} {o : Oper} {a : Act} {Q : Exit → Act → World → Prop} (hgd : o.guard = none) (s x : Operand)
    (ho : o.op = .call { callee := .builtin .append, args := #[s, x], argTypes := #[26, 26] })
    (w : World) (base : Nat) (v : Value) (ats : List Att) (hs : a.eval s = v) (h : AttRow w base v ats) (nm vl : Bytes) (ps : Int) (H : Nat) (hH : w.heap.size = H) (hx : a.eval x = .slice (some ⟨H, 0, none⟩) 1 1) (hbase : base ≤ w.heap.size) (hlen : ats.length < 1000000000000)
    (hK : ∀ g cap w', AttRow w' base (.slice (some ⟨g, 0, none⟩) (ats.length + 1) cap) (ats ++ [⟨[], nm, vl, ps⟩]) → Grew w v (.slice (some ⟨g, 0, none⟩) (ats.length + 1) cap) w' → Below base w w' → wpList Tryd.prog ops Q rest (a.put o.dst (.slice (some ⟨g, 0, none⟩) (ats.length + 1) cap)) w') :
    wpList Tryd.prog ops Q (o :: rest) a (w.alloc (.cells #[.string ⟨#[]⟩, .string (S nm), .string (S vl), .int .i64 ps] 41)) :=
  atts_append hgd s x ho w base v ats hs h ⟨[], nm, vl, ps⟩ H hH hx hbase hlen hK
theorem HLo.set1 {w0 : World} {n : Node} {A : Option Addr} {c : Nat} {K : Option Addr} {d : Nat} {sp nm : ByteArray} {MA : Option Addr} {mn mc : Nat} {wr : World} (h : HLo w0 n A c K d sp nm MA mn mc wr) (x : ByteArray) : HLo w0 n A c K d x nm MA mn mc (wr.setCell ⟨w0.heap.size + 1 + 1, 1, none⟩ (.string x)) :=
  ⟨(Below.heap_setCell _ _ _ _ (by simp <;> omega)).trans h.box, (Below.heap_setCell _ _ _ _ (by simp <;> omega)).trans h.res, heap_set (i := 1) h.m _, h.below.setCell (p := ⟨w0.heap.size + 2, 1, none⟩) (by simp) _⟩
theorem HLo.set2 {w0 : World} {n : Node} {A : Option Addr} {c : Nat} {K : Option Addr} {d : Nat} {sp nm : ByteArray} {MA : Option Addr} {mn mc : Nat} {wr : World} (h : HLo w0 n A c K d sp nm MA mn mc wr) (x : ByteArray) : HLo w0 n A c K d sp x MA mn mc (wr.setCell ⟨w0.heap.size + 1 + 1, 2, none⟩ (.string x)) :=
  ⟨(Below.heap_setCell _ _ _ _ (by simp <;> omega)).trans h.box, (Below.heap_setCell _ _ _ _ (by simp <;> omega)).trans h.res, heap_set (i := 2) h.m _, h.below.setCell (p := ⟨w0.heap.size + 2, 2, none⟩) (by simp) _⟩
theorem HLo.set3 {w0 : World} {n : Node} {A : Option Addr} {c : Nat} {K : Option Addr} {d : Nat} {sp nm : ByteArray} {MA : Option Addr} {mn mc : Nat} {wr : World} (h : HLo w0 n A c K d sp nm MA mn mc wr) (MA' : Option Addr) (mn' mc' : Nat) : HLo w0 n A c K d sp nm MA' mn' mc' (wr.setCell ⟨w0.heap.size + 1 + 1, 3, none⟩ (.slice MA' mn' mc')) :=
  ⟨(Below.heap_setCell _ _ _ _ (by simp <;> omega)).trans h.box, (Below.heap_setCell _ _ _ _ (by simp <;> omega)).trans h.res, heap_set (i := 3) h.m _, h.below.setCell (p := ⟨w0.heap.size + 2, 3, none⟩) (by simp) _⟩
theorem HLo.free {w0 : World} {n : Node} {A : Option Addr} {c : Nat} {K : Option Addr} {d : Nat} {sp nm : ByteArray} {MA : Option Addr} {mn mc : Nat} {wr : World} (h : HLo w0 n A c K d sp nm MA mn mc wr) (i : Nat) : wr.frozen? ⟨w0.heap.size + 2, i, none⟩ = false := Lib.frozen_of_heap h.m i
theorem dclR_flag (l : Bytes) : (declF l).isSome = (dclR l).2 := by
  cases h : splitF l with
  | none => rw [dclR_none h]; unfold declF; rw [h]; rfl
  | some r =>
    rw [dclR_decl h]
    cases (dclR l).2 <;> rfl
theorem getB_drop {ats : List Att} {i : Nat} (h : i < ats.length) : ats.drop i = ats[i] :: ats.drop (i + 1) := List.drop_eq_getElem_cons h

set_option maxHeartbeats 4000000 in
set_option maxRecDepth 100000 in
theorem refHead_any (n : Node) (v vs : Value) (bs0 : List (Bytes × Bytes)) (w : World) (hs : bs0.length + full n ≤ 1000000000) (hx0 : ∀ b ∈ bs0, b.1 ≠ bXml) (hv : NodeV w w.heap.size n v) (hb : ElsP bindE w (· < w.heap.size) vs bs0) :
    Calls Tryd.prog 48 #[v, vs] w fun e w' => HeadRes w w' n bs0.length (headF (scopeB bs0) n) e ∧ Below w.heap.size w w' := by
  obtain ⟨R, hR⟩ : ∃ R, headF (scopeB bs0) n = R := ⟨_, rfl⟩
  rw [hR]
  unfold headF at hR
  obtain ⟨A, c, K, d, rfl, ha, hk, hc, hd⟩ := hv.open_
  obtain ⟨SA, sc, rfl, hsc⟩ := hb.slice
  have hsz := full_form n
  have hal := attsF_len n.attrs
  have csp := fun w => refSplit_any n.name w (by omega)
  have H0 := Lib.hid (HLo.new w n A c K d)
  clear hv hk
  cases hsp : splitF n.name with
  | none =>
    rw [hsp] at hR
    rw [splR_none hsp] at csp
    have HR : Hid (R = .error (n.pos, 13)) := hR.symm
    have CSP := Lib.hid csp
    clear hR csp hsp ha hb
    go_enter Tryd.func48, Tryd.ntmps48
    go_wp2_with fail
    refine (CSP.out _).mono ?_
    rintro e w1 ⟨rfl, hb1⟩
    have L1 := Lib.hid (H0.out.next hb1)
    clear hb1 H0
    obtain ⟨p0, p1, p2, p3, p4, p5, p6⟩ := cells7 L1.out.m
    obtain ⟨s0, s1, s2, s3, s4, s5, s6⟩ := cells7 L1.out.res
    obtain ⟨b0, b1, b2, b3, b4, b5, b6⟩ := cells7 L1.out.box
    have hfr : ∀ i, w1.frozen? ⟨w.heap.size + 1, i, none⟩ = false := Lib.frozen_of_heap L1.out.res
    go_wp2_with fail
    go_region
    all_goals
      go_wp2_with fail
      refine bodyPost_ret (v := .tuple #[.agg _, _, _, _]) (res_whole4 Tryd.results48 _ _ (w.heap.size + 1) rfl 29 _ (seven_set L1.out.res _ _ _ _ _ _ _) Tryd.underlying29 rfl nodeSize _ _ _ rfl rfl rfl) rfl ⟨?_, ?_⟩
      · rw [HR.out]; exact ⟨_, _, _, _, _, rfl⟩
      · exact below_seven L1.out.below (by omega) _ _ _ _ _ _ _
  | some pq =>
    obtain ⟨p, q⟩ := pq
    rw [hsp] at hR
    rw [splR_some hsp] at csp
    simp only at hR
    have CSP := Lib.hid csp
    clear csp hsp
    by_cases hp : p = bXmlns
    · rw [if_pos hp] at hR
      have HR : Hid (R = .error (n.pos, 13)) := hR.symm
      have t1 : (p == [120, 109, 108, 110, 115]) = true := by rw [hp]; rfl
      clear hR hp ha hb
      go_enter Tryd.func48, Tryd.ntmps48
      go_wp2_with fail
      refine (CSP.out _).mono ?_
      rintro e w1 ⟨rfl, hb1⟩
      have L1 := Lib.hid (H0.out.next hb1)
      clear hb1 H0
      obtain ⟨p0, p1, p2, p3, p4, p5, p6⟩ := cells7 L1.out.m
      obtain ⟨s0, s1, s2, s3, s4, s5, s6⟩ := cells7 L1.out.res
      obtain ⟨b0, b1, b2, b3, b4, b5, b6⟩ := cells7 L1.out.box
      have hfr : ∀ i, w1.frozen? ⟨w.heap.size + 1, i, none⟩ = false := Lib.frozen_of_heap L1.out.res
      go_wp2_with fail
      go_region
      all_goals
        go_wp2_with fail
        refine bodyPost_ret (v := .tuple #[.agg _, _, _, _]) (res_whole4 Tryd.results48 _ _ (w.heap.size + 1) rfl 29 _ (seven_set L1.out.res _ _ _ _ _ _ _) Tryd.underlying29 rfl nodeSize _ _ _ rfl rfl rfl) rfl ⟨?_, ?_⟩
        · rw [HR.out]; exact ⟨_, _, _, _, _, rfl⟩
        · exact below_seven L1.out.below (by omega) _ _ _ _ _ _ _
    · rw [if_neg hp] at hR
      have t1 : (p == [120, 109, 108, 110, 115]) = false := by rw [beq_eq_false_iff_ne]; exact hp
      obtain ⟨E, hE⟩ : ∃ E, enterL (scopeB bs0) n.attrs = E := ⟨_, rfl⟩
      rw [hE] at hR
      have HE := Lib.hid hE
      have HR := Lib.hid hR
      have HA := Lib.hid ha
      have HBS := Lib.hid hb
      have HX0 := Lib.hid hx0
      clear hR hp hE ha hb hx0
      go_enter Tryd.func48, Tryd.ntmps48
      go_wp2_with fail
      refine (CSP.out _).mono ?_
      rintro e w1 ⟨rfl, hb1⟩
      have L1 := Lib.hid (H0.out.next hb1)
      have hz1 : w.heap.size + 3 ≤ w1.heap.size := heap_lt L1.out.m
      clear hb1 H0 CSP
      have hrow0 := ElRow.fresh bindE w1 (w.heap.size + 3) (· < w.heap.size) hz1
      have hbs1 : ElsP bindE (w1.alloc (.cells #[] 118)) (· < w.heap.size) (.slice SA bs0.length sc) bs0 := HBS.out.keep bindE_ok (fun k hk => (L1.out.below.alloc (by omega) _).block k hk) (fun _ h => h)
      have hz2 : w.heap.size + 3 ≤ (w1.alloc (.cells #[] 118)).heap.size := by simp; omega
      have hz3 : ([] : List (Bytes × Bytes)).length + bs0.length < 10000000000 := by simp; omega
      have hz4 : ∀ j, j < w.heap.size → (Value.slice (some ⟨w1.heap.size, 0, none⟩) 0 0).ownBlock ≠ some j := fun j hj => by simp [Value.ownBlock]; omega
      have hz5 : ∀ j, j < w.heap.size → j < (w1.alloc (.cells #[] 118)).heap.size := fun j hj => by simp; omega
      have HRW := Lib.hid hrow0
      have HB1 := Lib.hid hbs1
      clear hrow0 hbs1
      go_wp2_with (with_reducible refine gate ?_; refine els_append_all bindE_ok rfl _ _ rfl _ (w.heap.size + 3) (· < w.heap.size) (.slice (some ⟨w1.heap.size, 0, none⟩) 0 0) [] rfl HRW.out SA bs0.length sc bs0 rfl HB1.out hz2 hz3 hz4 hz5 ?_; intro v12 w2 hrow hgr hb2 hob)
      have L2 := Lib.hid (L1.out.from3 ((((Below.refl _ w1).alloc hz1 _).trans hb2)))
      have HRW2 : Hid (ElRow bindE w2 (w.heap.size + 3) (fun _ => False) v12 bs0) := hrow
      obtain ⟨IA, ic, rfl, hic⟩ := hrow.slice
      clear hrow hgr hb2 hob HRW HB1 L1 hz1 hz2 hz3 hz4 hz5
      simp only [List.nil_append] at *
      go_loopw [12, 13] (fun v12 i13 wr => ∃ (i : Nat) (bs : List (Bytes × Bytes)) (IA : Option Addr) (ic : Nat), i ≤ n.attrs.length ∧ i13 = .int .i64 i ∧ v12 = .slice IA bs.length ic ∧ enterL (scopeB bs) (n.attrs.drop i) = E ∧ (∀ b ∈ bs, b.1 ≠ bXml) ∧ bs.length ≤ bs0.length + i ∧ ElRow bindE wr (w.heap.size + 3) (fun _ => False) (.slice IA bs.length ic) bs ∧ HLo w n A c K d ⟨#[]⟩ ⟨#[]⟩ none 0 0 wr) (fun _ i13 _ => n.attrs.length - (intOf i13).toNat)
      case atStart => exact ⟨0, bs0, IA, ic, Nat.zero_le _, rfl, rfl, HE.out, HX0.out, by omega, HRW2.out, L2.out⟩
      case round =>
        obtain ⟨i, bs, IA, ic, hi, rfl, rfl, hent, hxml, hbl, hrow, hlo⟩ := hrel
        clear HE HX0 HRW2 L2 HBS hic
        have HROW := Lib.hid hrow
        have HLO := Lib.hid hlo
        have HXM := Lib.hid hxml
        have hzr := heap_lt hlo.m
        clear hrow hxml hlo
        obtain ⟨b0, b1, b2, b3, b4, b5, b6⟩ := box_cells HLO.out.box
        by_cases hlt : i < n.attrs.length
        · have hlt' : (i : Int) < n.attrs.length := by omega
          obtain ⟨ab, off, rfl, hab, hra⟩ := HA.out.at_ hlt
          have hra := rangeAt_keep hra (HLO.out.below.block ab hab)
          have haf := attF_in hlt
          rw [List.drop_eq_getElem_cons hlt, enterL] at hent
          unfold attF at haf
          generalize n.attrs[i] = a at *
          obtain ⟨asp, anm, avl, apos⟩ := a
          simp only at hent haf
          have csp := fun w => refSplit_any anm w (by omega)
          have cdc := fun w => declares_any ⟨asp, anm, avl, apos⟩ w (show anm.length ≤ _ by omega)
          simp only at cdc
          have L4 := Lib.hid (HLO.out.next ((Below.refl _ wr).alloc (Nat.le_refl _) (.cells #[.string (S asp), .string (S anm), .string (S avl), .int .i64 apos] 41)))
          have X4 := Lib.hid (heap_alloc_new wr (.cells #[.string (S asp), .string (S anm), .string (S avl), .int .i64 apos] 41))
          have Z4 : Hid ((wr.alloc (.cells #[.string (S asp), .string (S anm), .string (S avl), .int .i64 apos] 41)).heap.size = wr.heap.size + 1) := Lib.hid (by simp)
          have HRA := Lib.hid hra
          cases hsp : splitF anm with
          | none =>
            rw [hsp, if_pos rfl] at hent
            rw [splR_none hsp] at csp
            rw [dclR_none hsp] at cdc
            have hr := HR.out
            rw [← hent] at hr
            have HRR : Hid (R = .error (apos, 13)) := hr.symm
            have CSA := Lib.hid csp
            have CDC := Lib.hid cdc
            clear hent csp cdc hsp hr HR
            go_wp2_with (with_reducible refine gate ?_; refine wp_load_att rfl _ rfl ab (off + i * 4) rfl ⟨asp, anm, avl, apos⟩ HRA.out ?_)
            refine (CSA.out _).mono ?_
            rintro e w3 ⟨rfl, hb3⟩
            have X3 := Lib.hid ((hb3.block _ (by have := Z4.out; omega)).trans X4.out)
            have hr3 : w3.rangeAt wr.heap.size 0 (attCells ⟨asp, anm, avl, apos⟩) := range_of_heap X3.out
            have L3 := Lib.hid (L4.out.next hb3)
            have hz3 : wr.heap.size < w3.heap.size := heap_lt X3.out
            clear hb3 hra
            go_wp2_with (with_reducible refine gate ?_; refine wp_load_att rfl _ rfl wr.heap.size 0 rfl ⟨asp, anm, avl, apos⟩ hr3 ?_)
            refine (CDC.out _).mono ?_
            rintro e w5 ⟨rfl, hb5⟩
            have X5 := Lib.hid ((hb5.block _ hz3).trans X3.out)
            have L5 := Lib.hid (L3.out.next hb5)
            clear hb5 hr3
            obtain ⟨p0, p1, p2, p3, p4, p5, p6⟩ := cells7 L5.out.m
            obtain ⟨s0, s1, s2, s3, s4, s5, s6⟩ := cells7 L5.out.res
            obtain ⟨q0, q1, q2, q3⟩ := cells4 X5.out
            have hfr : ∀ i, w5.frozen? ⟨w.heap.size + 1, i, none⟩ = false := Lib.frozen_of_heap L5.out.res
            clear b0 b1 b2 b3 b4 b5 b6
            generalize wr.heap.size = g at *
            go_wp2_with fail
            go_region
            all_goals
              go_wp2_with fail
              refine bodyPost_ret (v := .tuple #[.agg _, _, _, _]) (res_whole4 Tryd.results48 _ _ (w.heap.size + 1) rfl 29 _ (seven_set L5.out.res _ _ _ _ _ _ _) Tryd.underlying29 rfl nodeSize _ _ _ rfl rfl rfl) rfl ⟨?_, ?_⟩
              · rw [HRR.out]; exact ⟨_, _, _, _, _, rfl⟩
              · exact below_seven L5.out.below (by omega) _ _ _ _ _ _ _
          | some pq2 =>
            rw [hsp, if_neg (by simp), dclR_decl hsp] at hent
            obtain ⟨pa, qa⟩ := pq2
            rw [splR_some hsp] at csp
            generalize dclR anm = D at *
            obtain ⟨dn, dd⟩ := D
            simp only at hent cdc
            have CSA := Lib.hid csp
            have CDC := Lib.hid cdc
            have R4 : Hid (ElRow bindE (wr.alloc (.cells #[.string (S asp), .string (S anm), .string (S avl), .int .i64 apos] 41)) (w.heap.size + 3) (fun _ => False) (.slice IA bs.length ic) bs) := HROW.out.below bindE_ok ((Below.refl _ wr).alloc (Nat.le_refl _) _) (fun _ h => h.elim)
            clear csp cdc hsp
            cases dd
            case false =>
              have HENT : Hid (enterL (scopeB bs) (n.attrs.drop (i + 1)) = E) := hent
              clear hent
              go_wp2_with (with_reducible refine gate ?_; refine wp_load_att rfl _ rfl ab (off + i * 4) rfl ⟨asp, anm, avl, apos⟩ HRA.out ?_)
              refine (CSA.out _).mono ?_
              rintro e w3 ⟨rfl, hb3⟩
              have X3 := Lib.hid ((hb3.block _ (by have := Z4.out; omega)).trans X4.out)
              have hr3 : w3.rangeAt wr.heap.size 0 (attCells ⟨asp, anm, avl, apos⟩) := range_of_heap X3.out
              have L3 := Lib.hid (L4.out.next hb3)
              have R3 := Lib.hid (R4.out.below bindE_ok hb3 (fun _ h => h.elim))
              have hz3 : wr.heap.size < w3.heap.size := heap_lt X3.out
              clear hb3 hra
              go_wp2_with (with_reducible refine gate ?_; refine wp_load_att rfl _ rfl wr.heap.size 0 rfl ⟨asp, anm, avl, apos⟩ hr3 ?_)
              refine (CDC.out _).mono ?_
              rintro e w5 ⟨rfl, hb5⟩
              have X5 := Lib.hid ((hb5.block _ hz3).trans X3.out)
              have L5 := Lib.hid (L3.out.next hb5)
              have R5 := Lib.hid (R3.out.below bindE_ok hb5 (fun _ h => h.elim))
              clear hb5 hr3
              obtain ⟨q0, q1, q2, q3⟩ := cells4 X5.out
              go_wp2_with fail
              go_roundw
              case rel => exact ⟨i + 1, bs, IA, ic, by omega, by go_num, rfl, HENT.out, HXM.out, by omega, R5.out, L5.out⟩
              case measure => simp [intOf]; omega
            case true =>
              simp only [if_true] at hent
              by_cases hbad : dn = bXml ∨ dn = bXmlns ∨ (dn ≠ [] ∧ avl = [])
              · rw [if_pos hbad] at hent
                have hr := HR.out
                rw [← hent] at hr
                have HRR : Hid (R = .error (apos, 13)) := hr.symm
                have ht : (dn == [120, 109, 108]) = true ∨ ((dn == [120, 109, 108]) = false ∧ (dn == [120, 109, 108, 110, 115]) = true) ∨ ((dn == [120, 109, 108]) = false ∧ (dn == [120, 109, 108, 110, 115]) = false ∧ (dn == []) = false ∧ (avl == []) = true) := by
                  by_cases h1 : dn = bXml
                  · exact .inl (by rw [h1]; rfl)
                  · by_cases h2 : dn = bXmlns
                    · exact .inr (.inl ⟨by rw [h2]; rfl, by rw [h2]; rfl⟩)
                    · obtain ⟨h3, h4⟩ := (hbad.resolve_left h1).resolve_left h2
                      exact .inr (.inr ⟨by rw [beq_eq_false_iff_ne]; exact h1, by rw [beq_eq_false_iff_ne]; exact h2, by rw [beq_eq_false_iff_ne]; exact h3, by rw [h4]; rfl⟩)
                clear hent hr HR hbad
                rcases ht with u1 | ⟨u1, u2⟩ | ⟨u1, u2, u3, u4⟩
                all_goals
                  try have u5 : (dn != []) = true := by rw [bne, u3]; rfl
                  go_wp2_with (with_reducible refine gate ?_; refine wp_load_att rfl _ rfl ab (off + i * 4) rfl ⟨asp, anm, avl, apos⟩ HRA.out ?_)
                  refine (CSA.out _).mono ?_
                  rintro e w3 ⟨rfl, hb3⟩
                  have X3 := Lib.hid ((hb3.block _ (by have := Z4.out; omega)).trans X4.out)
                  have hr3 : w3.rangeAt wr.heap.size 0 (attCells ⟨asp, anm, avl, apos⟩) := range_of_heap X3.out
                  have L3 := Lib.hid (L4.out.next hb3)
                  have R3 := Lib.hid (R4.out.below bindE_ok hb3 (fun _ h => h.elim))
                  have hz3 : wr.heap.size < w3.heap.size := heap_lt X3.out
                  clear hb3 hra
                  go_wp2_with (with_reducible refine gate ?_; refine wp_load_att rfl _ rfl wr.heap.size 0 rfl ⟨asp, anm, avl, apos⟩ hr3 ?_)
                  refine (CDC.out _).mono ?_
                  rintro e w5 ⟨rfl, hb5⟩
                  have X5 := Lib.hid ((hb5.block _ hz3).trans X3.out)
                  have L5 := Lib.hid (L3.out.next hb5)
                  have R5 := Lib.hid (R3.out.below bindE_ok hb5 (fun _ h => h.elim))
                  clear hb5 hr3
                  obtain ⟨q0, q1, q2, q3⟩ := cells4 X5.out
                  obtain ⟨p0, p1, p2, p3, p4, p5, p6⟩ := cells7 L5.out.m
                  obtain ⟨s0, s1, s2, s3, s4, s5, s6⟩ := cells7 L5.out.res
                  have hfr : ∀ i, w5.frozen? ⟨w.heap.size + 1, i, none⟩ = false := Lib.frozen_of_heap L5.out.res
                  clear b0 b1 b2 b3 b4 b5 b6
                  generalize wr.heap.size = g at *
                  go_wp2_with fail
                  go_region
                  all_goals
                    go_wp2_with fail
                    refine bodyPost_ret (v := .tuple #[.agg _, _, _, _]) (res_whole4 Tryd.results48 _ _ (w.heap.size + 1) rfl 29 _ (seven_set L5.out.res _ _ _ _ _ _ _) Tryd.underlying29 rfl nodeSize _ _ _ rfl rfl rfl) rfl ⟨?_, ?_⟩
                    · rw [HRR.out]; exact ⟨_, _, _, _, _, rfl⟩
                    · exact below_seven L5.out.below (by omega) _ _ _ _ _ _ _
              · rw [if_neg hbad] at hent
                have hn1 : dn ≠ bXml := fun e => hbad (.inl e)
                have ht : ((dn == []) = true ∧ (dn != []) = false) ∨ ((dn == []) = false ∧ (dn != []) = true ∧ (avl == []) = false) := by
                  by_cases h1 : dn = []
                  · exact .inl ⟨by rw [h1]; rfl, by rw [h1]; rfl⟩
                  · have h2 : (dn == []) = false := by rw [beq_eq_false_iff_ne]; exact h1
                    refine .inr ⟨h2, by rw [bne, h2]; rfl, ?_⟩
                    rw [beq_eq_false_iff_ne]; exact fun e => hbad (.inr (.inr ⟨h1, e⟩))
                have u1 : (dn == [120, 109, 108]) = false := by rw [beq_eq_false_iff_ne]; exact hn1
                have u2 : (dn == [120, 109, 108, 110, 115]) = false := by rw [beq_eq_false_iff_ne]; exact fun e => hbad (.inr (.inl e))
                rw [← scopeB_append bs (dn, avl)] at hent
                have HENT := Lib.hid hent
                have HX2 : Hid (∀ b ∈ bs ++ [(dn, avl)], b.1 ≠ bXml) := fun b hb => by
                  rcases List.mem_append.1 hb with hb | hb
                  · exact HXM.out b hb
                  · obtain rfl : b = (dn, avl) := by simpa using hb
                    exact hn1
                clear hent hbad hn1
                rcases ht with ⟨u3, u4⟩ | ⟨u3, u4, u5⟩
                all_goals
                  go_wp2_with (with_reducible refine gate ?_; refine wp_load_att rfl _ rfl ab (off + i * 4) rfl ⟨asp, anm, avl, apos⟩ HRA.out ?_)
                  refine (CSA.out _).mono ?_
                  rintro e w3 ⟨rfl, hb3⟩
                  have X3 := Lib.hid ((hb3.block _ (by have := Z4.out; omega)).trans X4.out)
                  have hr3 : w3.rangeAt wr.heap.size 0 (attCells ⟨asp, anm, avl, apos⟩) := range_of_heap X3.out
                  have L3 := Lib.hid (L4.out.next hb3)
                  have R3 := Lib.hid (R4.out.below bindE_ok hb3 (fun _ h => h.elim))
                  have hz3 : wr.heap.size < w3.heap.size := heap_lt X3.out
                  clear hb3 hra
                  go_wp2_with (with_reducible refine gate ?_; refine wp_load_att rfl _ rfl wr.heap.size 0 rfl ⟨asp, anm, avl, apos⟩ hr3 ?_)
                  refine (CDC.out _).mono ?_
                  rintro e w5 ⟨rfl, hb5⟩
                  have X5 := Lib.hid ((hb5.block _ hz3).trans X3.out)
                  have L5 := Lib.hid (L3.out.next hb5)
                  have R5 := Lib.hid (R3.out.below bindE_ok hb5 (fun _ h => h.elim))
                  clear hb5 hr3
                  obtain ⟨q0, q1, q2, q3⟩ := cells4 X5.out
                  have hz5 : w.heap.size + 3 ≤ w5.heap.size := heap_lt L5.out.m
                  have hz6 : bs.length < 10000000000 := by omega
                  clear b0 b1 b2 b3 b4 b5 b6
                  go_wp2_with (with_reducible refine gate ?_; refine els_append bindE_ok rfl _ _ rfl _ (w.heap.size + 3) (fun _ => False) (.slice IA bs.length ic) bs rfl R5.out (dn, avl) [.string (S dn), .string (S avl)] w5.heap.size rfl rfl rfl (fun _ h => h.elim) (fun _ h => h.elim) hz5 hz6 ?_; intro g8 c8 w8 hat hlt8 hrow8 hgr8 hb8)
                  go_roundw
                  case rel => exact ⟨i + 1, bs ++ [(dn, avl)], some ⟨g8, 0, none⟩, c8, by omega, by go_num, by rw [List.length_append]; rfl, HENT.out, HX2.out, by rw [List.length_append]; simp; omega, by rw [List.length_append]; exact hrow8, L5.out.from3 hb8⟩
                  case measure => simp [intOf]; omega
        · have hil : i = n.attrs.length := by omega
          rw [hil, List.drop_length, enterL] at hent
          have hr := HR.out
          rw [← hent] at hr
          simp only at hr
          have hlt' : ¬ (i : Int) < n.attrs.length := by omega
          clear hent HR hil hlt
          obtain ⟨p0, p1, p2, p3, p4, p5, p6⟩ := cells7 HLO.out.m
          have hfm := HLO.out.free
          have L2 := Lib.hid (HLO.out.set2 (S q))
          have R2 : Hid (ElRow bindE (wr.setCell ⟨w.heap.size + 1 + 1, 2, none⟩ (.string (S q))) (w.heap.size + 3) (fun _ => False) (.slice IA bs.length ic) bs) := HROW.out.heap bindE_ok (fun k hk => Below.heap_setCell _ _ _ _ (by have := HROW.out.lt k hk; show k ≠ w.heap.size + 2; omega)) (fun _ h => h.elim)
          have hbl2 : bs.length ≤ bs0.length + n.attrs.length := by omega
          go_wp2_with fail
          generalize wr.setCell ⟨w.heap.size + 1 + 1, 2, none⟩ (.string (S q)) = W2 at *
          have hels := R2.out.elsP (p' := fun b => w.heap.size + 3 ≤ b ∧ b < W2.heap.size) bindE_ok (fun _ h => h.elim) (fun k hk => R2.out.lt k hk)
          have EL2 := Lib.hid hels
          refine (lookup_any bs HXM.out p _ _ W2 (by omega) hels).mono ?_
          clear hels HROW HLO p0 p1 p2 p3 p4 p5 p6 hfm b0 b1 b2 b3 b4 b5 b6 R2
          rintro e w3 ⟨rfl, rfl⟩
          obtain ⟨p0, p1, p2, p3, p4, p5, p6⟩ := cells7 L2.out.m
          have hfm := L2.out.free
          have hz2 := heap_lt L2.out.m
          cases hg : scopeB bs p with
          | none =>
            rw [hg] at hr
            have HRR : Hid (R = .error (n.pos, 13)) := hr.symm
            have L5 := Lib.hid (L2.out.set1 (S []))
            clear hr hg
            simp only [lookR]
            go_wp2_with fail
            generalize W2.setCell ⟨w.heap.size + 1 + 1, 1, none⟩ (.string (S [])) = W5 at *
            clear p0 p1 p2 p3 p4 p5 p6 hfm
            obtain ⟨p0, p1, p2, p3, p4, p5, p6⟩ := cells7 L5.out.m
            obtain ⟨s0, s1, s2, s3, s4, s5, s6⟩ := cells7 L5.out.res
            obtain ⟨b0, b1, b2, b3, b4, b5, b6⟩ := box_cells L5.out.box
            have hfr : ∀ i, W5.frozen? ⟨w.heap.size + 1, i, none⟩ = false := Lib.frozen_of_heap L5.out.res
            go_region
            all_goals
              go_wp2_with fail
              refine bodyPost_ret (v := .tuple #[.agg _, _, _, _]) (res_whole4 Tryd.results48 _ _ (w.heap.size + 1) rfl 29 _ (seven_set L5.out.res _ _ _ _ _ _ _) Tryd.underlying29 rfl nodeSize _ _ _ rfl rfl rfl) rfl ⟨?_, ?_⟩
              · rw [HRR.out]; exact ⟨_, _, _, _, _, rfl⟩
              · exact below_seven L5.out.below (by omega) _ _ _ _ _ _ _
          | some sp =>
            rw [hg] at hr
            simp only at hr
            obtain ⟨F, hF⟩ : ∃ F, attrsL (scopeB bs) [] n.attrs = F := ⟨_, rfl⟩
            rw [hF] at hr
            have HF := Lib.hid hF
            have HRF := Lib.hid hr
            have L5 := Lib.hid (L2.out.set1 (S sp))
            have hk5 : ∀ b, b ≠ w.heap.size + 2 → (W2.setCell ⟨w.heap.size + 1 + 1, 1, none⟩ (.string (S sp))).heap[b]? = W2.heap[b]? := fun b hb => Below.heap_setCell _ _ _ _ hb
            have hz5 : (W2.setCell ⟨w.heap.size + 1 + 1, 1, none⟩ (.string (S sp))).heap.size = W2.heap.size := by simp [World.setCell]
            have EL5 : Hid (ElsP bindE (W2.setCell ⟨w.heap.size + 1 + 1, 1, none⟩ (.string (S sp))) (fun b => w.heap.size + 3 ≤ b ∧ b < (W2.setCell ⟨w.heap.size + 1 + 1, 1, none⟩ (.string (S sp))).heap.size) (.slice IA bs.length ic) bs) := EL2.out.keep bindE_ok (fun k hk => hk5 k (by omega)) (fun k hk => by rw [hz5]; exact hk)
            clear hr hg hF hk5 hz5 EL2
            simp only [lookR]
            go_wp2_with fail
            generalize W2.setCell ⟨w.heap.size + 1 + 1, 1, none⟩ (.string (S sp)) = W5 at *
            clear p0 p1 p2 p3 p4 p5 p6 hfm L2
            have hz5 : w.heap.size + 3 ≤ W5.heap.size := heap_lt L5.out.m
            go_loopw [20] (fun i20 wr => ∃ (i : Nat) (ats : List Att) (MA : Option Addr) (mc : Nat), i ≤ n.attrs.length ∧ i20 = .int .i64 i ∧ attrsL (scopeB bs) ats (n.attrs.drop i) = F ∧ ats.length ≤ i ∧ AttRow wr W5.heap.size (.slice MA ats.length mc) ats ∧ HLo w n A c K d (S sp) (S q) MA ats.length mc wr ∧ W5.heap.size ≤ wr.heap.size ∧ ElsP bindE wr (fun b => w.heap.size + 3 ≤ b ∧ b < W5.heap.size) (.slice IA bs.length ic) bs) (fun i20 _ => n.attrs.length - (intOf i20).toNat)
            case atStart => exact ⟨0, [], none, 0, Nat.zero_le _, rfl, HF.out, by simp, AttRow.nil _ _, L5.out, Nat.le_refl _, EL5.out⟩
            case round =>
              obtain ⟨i, ats, MA, mc, hi, rfl, hat, hal2, hrow, hlo, hzr, hels⟩ := hrel
              clear HF L5 EL5
              have HROW := Lib.hid hrow
              have HLO := Lib.hid hlo
              have HELS := Lib.hid hels
              have hzm := heap_lt hlo.m
              clear hrow hlo hels
              obtain ⟨b0, b1, b2, b3, b4, b5, b6⟩ := box_cells HLO.out.box
              by_cases hlt : i < n.attrs.length
              · have hlt' : (i : Int) < n.attrs.length := by omega
                obtain ⟨ab, off, rfl, hab, hra⟩ := HA.out.at_ hlt
                have hra := rangeAt_keep hra (HLO.out.below.block ab hab)
                have haf := attF_in hlt
                rw [List.drop_eq_getElem_cons hlt, attrsL] at hat
                unfold attF at haf
                generalize n.attrs[i] = a at *
                obtain ⟨asp, anm, avl, apos⟩ := a
                simp only at hat haf
                have csp := fun w => refSplit_any anm w (by omega)
                have cdc := fun w => declares_any ⟨asp, anm, avl, apos⟩ w (show anm.length ≤ _ by omega)
                simp only at cdc
                have L4 := Lib.hid (HLO.out.next ((Below.refl _ wr).alloc (Nat.le_refl _) (.cells #[.string (S asp), .string (S anm), .string (S avl), .int .i64 apos] 41)))
                have R4 := Lib.hid (HROW.out.below ((Below.refl _ wr).alloc (Nat.le_refl _) (.cells #[.string (S asp), .string (S anm), .string (S avl), .int .i64 apos] 41)))
                have E4 := Lib.hid (HELS.out.keep bindE_ok (w' := wr.alloc (.cells #[.string (S asp), .string (S anm), .string (S avl), .int .i64 apos] 41)) (fun k hk => Below.heap_alloc _ _ _ (by omega)) (fun _ h => h))
                have X4 := Lib.hid (heap_alloc_new wr (.cells #[.string (S asp), .string (S anm), .string (S avl), .int .i64 apos] 41))
                have hr4 : (wr.alloc (.cells #[.string (S asp), .string (S anm), .string (S avl), .int .i64 apos] 41)).rangeAt wr.heap.size 0 (attCells ⟨asp, anm, avl, apos⟩) := range_of_heap X4.out
                have Z4 : Hid ((wr.alloc (.cells #[.string (S asp), .string (S anm), .string (S avl), .int .i64 apos] 41)).heap.size = wr.heap.size + 1) := Lib.hid (by simp)
                have HRA := Lib.hid hra
                have HR4 := Lib.hid hr4
                have hfl := dclR_flag anm
                clear hra hr4
                cases hdf : declF anm with
                | some d0 =>
                  rw [hdf] at hat hfl
                  generalize dclR anm = D at *
                  obtain ⟨dn, dd⟩ := D
                  simp only [Option.isSome_some] at hfl hat
                  subst hfl
                  simp only at cdc
                  have CDC := Lib.hid cdc
                  have HAT := Lib.hid hat
                  clear hat csp cdc hdf
                  go_wp2_with (first | (with_reducible refine gate ?_; refine wp_load_att rfl _ rfl ab (off + i * 4) rfl ⟨asp, anm, avl, apos⟩ HRA.out ?_) | (with_reducible refine gate ?_; refine wp_load_att rfl _ rfl wr.heap.size 0 rfl ⟨asp, anm, avl, apos⟩ HR4.out ?_))
                  refine (CDC.out _).mono ?_
                  rintro e w5 ⟨rfl, hb5⟩
                  have L6 := Lib.hid (L4.out.next hb5)
                  have R6 := Lib.hid (R4.out.below hb5)
                  have hz4 := Z4.out
                  have hz6 := hb5.size
                  have E6 := Lib.hid (E4.out.keep bindE_ok (fun k hk => hb5.block k (by omega)) (fun _ h => h))
                  clear hb5 b0 b1 b2 b3 b4 b5 b6
                  go_wp2_with fail
                  go_roundw
                  case rel => exact ⟨i + 1, ats, MA, mc, by omega, by go_num, HAT.out, by omega, R6.out, L6.out, by omega, E6.out⟩
                  case measure => simp [intOf]; omega
                | none =>
                  rw [hdf] at hat hfl
                  generalize dclR anm = D at *
                  obtain ⟨dn, dd⟩ := D
                  simp only [Option.isSome_none] at hfl hat
                  subst hfl
                  simp only at cdc
                  generalize splR anm = T at *
                  obtain ⟨q2, loc, ok2⟩ := T
                  simp only at csp hat
                  have CDC := Lib.hid cdc
                  have CSA := Lib.hid csp
                  clear csp cdc hdf
                  have hz4 := Z4.out
                  by_cases hq : q2 = []
                  · rw [if_pos hq] at hat
                    have t1 : (q2 == []) = true := by rw [hq]; rfl
                    have t2 : (q2 != []) = false := by rw [hq]; rfl
                    simp only at hat
                    have TA := Lib.hid hat
                    clear hat hq
                    go_wp2_with (first | (with_reducible refine gate ?_; refine wp_load_att rfl _ rfl ab (off + i * 4) rfl ⟨asp, anm, avl, apos⟩ HRA.out ?_) | (with_reducible refine gate ?_; refine wp_load_att rfl _ rfl wr.heap.size 0 rfl ⟨asp, anm, avl, apos⟩ HR4.out ?_))
                    refine (CDC.out _).mono ?_
                    rintro e w5 ⟨rfl, hb5⟩
                    have L5 := Lib.hid (L4.out.next hb5)
                    have R5 := Lib.hid (R4.out.below hb5)
                    have hz6 := hb5.size
                    have E5 := Lib.hid (E4.out.keep bindE_ok (fun k hk => hb5.block k (by omega)) (fun _ h => h))
                    have X5 := Lib.hid ((hb5.block _ (by omega)).trans X4.out)
                    obtain ⟨q0, q1, q2', q3⟩ := cells4 X5.out
                    clear hb5
                    go_wp2_with fail
                    refine (CSA.out _).mono ?_
                    rintro e w6 ⟨rfl, hb6⟩
                    clear q0 q1 q2' q3
                    have L6 := Lib.hid (L5.out.next hb6)
                    have R6 := Lib.hid (R5.out.below hb6)
                    have hz7 := hb6.size
                    have E6 := Lib.hid (E5.out.keep bindE_ok (fun k hk => hb6.block k (by omega)) (fun _ h => h))
                    have X6 := Lib.hid ((hb6.block _ (by omega)).trans X5.out)
                    clear hb6 L5 R5 E5 X5
                    have L7 := L6
                    have R7 := R6
                    have E7 := E6
                    have X7 := X6
                    have hat7 := R7.out.attsIn
                    have HAT7 := Lib.hid hat7
                    have hz7 := heap_lt L7.out.m
                    clear hat7 b0 b1 b2 b3 b4 b5 b6
                    obtain ⟨p0, p1, p2, p3, p4, p5, p6⟩ := cells7 L7.out.m
                    obtain ⟨q0, q1, q2, q3⟩ := cells4 X7.out
                    go_wp2_with fail
                    go_loopw [28] (fun j28 wx => ∃ j : Nat, j ≤ ats.length ∧ j28 = .int .i64 j ∧ (ats.take j).any (fun b => b.space == [] && b.name == loc) = false ∧ w6 = wx) (fun j28 _ => ats.length - (intOf j28).toNat)
                    case atStart => exact ⟨0, Nat.zero_le _, rfl, by simp, rfl⟩
                    case round =>
                      obtain ⟨j, hj, rfl, hany, rfl⟩ := hrel
                      by_cases hjl : j < ats.length
                      · have hjl' : (j : Int) < ats.length := by omega
                        obtain ⟨mb, moff, rfl, hmb, hmr⟩ := HAT7.out.at_ hjl
                        have m0 := hmr 0 _ rfl
                        have m1 := hmr 1 _ rfl
                        rw [Nat.add_zero] at m0
                        have hany2 := any_take (p := fun b => b.space == [] && b.name == loc) hjl
                        have hhit := fun h => any_hit (p := fun b => b.space == [] && b.name == loc) hjl h
                        rw [hany, Bool.false_or] at hany2
                        have HAN := Lib.hid hany2
                        have HHIT := Lib.hid hhit
                        clear hany hmr hany2 hhit
                        generalize ats[j] = z at *
                        obtain ⟨zs, zn, zv, zp⟩ := z
                        simp only at *
                        cases h1 : (zs == [])
                        · go_wp2_with fail
                          go_round
                          case rel => exact ⟨j + 1, by omega, by go_num, by rw [HAN.out, h1]; rfl, by first | rfl | trivial⟩
                          case measure => simp [intOf]; omega
                        · cases h2 : (zn == loc)
                          · go_wp2_with fail
                            go_round
                            case rel => exact ⟨j + 1, by omega, by go_num, by rw [HAN.out, h1, h2]; rfl, by first | rfl | trivial⟩
                            case measure => simp [intOf]; omega
                          · have hf := TA.out
                            rw [if_pos (HHIT.out (by rw [h1, h2]; rfl))] at hf
                            have hr := HRF.out
                            rw [← hf] at hr
                            have HRR : Hid (R = .error (apos, 10)) := hr.symm
                            have L5 := L7
                            obtain ⟨s0, s1, s2, s3, s4, s5, s6⟩ := cells7 L5.out.res
                            have hfr : ∀ i, w6.frozen? ⟨w.heap.size + 1, i, none⟩ = false := Lib.frozen_of_heap L5.out.res
                            clear hf hr
                            generalize wr.heap.size = g at *
                            go_wp2_with fail
                            go_region
                            all_goals
                              go_wp2_with fail
                              refine bodyPost_ret (v := .tuple #[.agg _, _, _, _]) (res_whole4 Tryd.results48 _ _ (w.heap.size + 1) rfl 29 _ (seven_set L5.out.res _ _ _ _ _ _ _) Tryd.underlying29 rfl nodeSize _ _ _ rfl rfl rfl) rfl ⟨?_, ?_⟩
                              · rw [HRR.out]; exact ⟨_, _, _, _, _, rfl⟩
                              · exact below_seven L5.out.below (by omega) _ _ _ _ _ _ _
                      · have hjn : j = ats.length := by omega
                        have hjl' : ¬ (j : Int) < ats.length := by omega
                        rw [hjn, List.take_length] at hany
                        have hf := TA.out
                        rw [if_neg (by rw [hany]; decide)] at hf
                        have HF2 := Lib.hid hf
                        have hzb : W5.heap.size ≤ w6.heap.size := by omega
                        have hzl : ats.length < 1000000000000 := by omega
                        clear hany hf hjn hjl TA
                        go_wp2_with (with_reducible refine gate ?_; refine atts_append0 rfl _ _ rfl w6 W5.heap.size (.slice MA ats.length mc) ats rfl R7.out loc avl apos w6.heap.size rfl rfl hzb hzl ?_; intro g8 c8 w8 hrow8 hgr8 hb8; have L8 := Lib.hid (L7.out.from3 (hb8.mono hz5)); have hfm8 := L8.out.free; have hz8 := heap_lt L8.out.m; obtain ⟨d0, d1, d2, d3, d4, d5, d6⟩ := cells7 L8.out.m)
                        go_roundw
                        case rel =>
                          refine ⟨i + 1, ats ++ [⟨[], loc, avl, apos⟩], some ⟨g8, 0, none⟩, c8, by omega, by go_num, HF2.out, by rw [List.length_append]; simp; omega, ?_, ?_, ?_, ?_⟩
                          · rw [List.length_append]
                            exact hrow8.heap fun k hk => Below.heap_setCell _ _ _ _ (by have := hrow8.lt k hk; show k ≠ w.heap.size + 2; omega)
                          · rw [List.length_append]; exact L8.out.set3 _ _ _
                          · have := hb8.size; simp [World.setCell]; omega
                          · exact E7.out.keep bindE_ok (fun k hk => (Below.heap_setCell _ _ _ _ (by show k ≠ w.heap.size + 2; omega)).trans (hb8.block k hk.2)) (fun _ h => h)
                        case measure => simp [intOf]; omega
                  · rw [if_neg hq] at hat
                    have t1 : (q2 == []) = false := by rw [beq_eq_false_iff_ne]; exact hq
                    have t2 : (q2 != []) = true := by rw [bne, t1]; rfl
                    clear hq
                    obtain ⟨H0, hH0⟩ : ∃ H, H = w.heap.size + 3 := ⟨_, rfl⟩
                    have clk := fun w (h : ElsP bindE w (fun b => H0 ≤ b ∧ b < W5.heap.size) (.slice IA bs.length ic) bs) => lookup_any bs HXM.out q2 (.slice IA bs.length ic) _ w (by omega) h
                    cases hg : scopeB bs q2 with
                    | none =>
                      rw [hg] at hat clk
                      simp only [lookR] at hat clk
                      have CLK := Lib.hid clk
                      have hr := HRF.out
                      rw [← hat] at hr
                      have HRR : Hid (R = .error (apos, 13)) := hr.symm
                      clear hat hr hg clk
                      go_wp2_with (first | (with_reducible refine gate ?_; refine wp_load_att rfl _ rfl ab (off + i * 4) rfl ⟨asp, anm, avl, apos⟩ HRA.out ?_) | (with_reducible refine gate ?_; refine wp_load_att rfl _ rfl wr.heap.size 0 rfl ⟨asp, anm, avl, apos⟩ HR4.out ?_))
                      refine (CDC.out _).mono ?_
                      rintro e w5 ⟨rfl, hb5⟩
                      have L5 := Lib.hid (L4.out.next hb5)
                      have R5 := Lib.hid (R4.out.below hb5)
                      have hz6 := hb5.size
                      have E5 := Lib.hid (E4.out.keep bindE_ok (fun k hk => hb5.block k (by omega)) (fun _ h => h))
                      have X5 := Lib.hid ((hb5.block _ (by omega)).trans X4.out)
                      obtain ⟨q0, q1, q2', q3⟩ := cells4 X5.out
                      clear hb5
                      go_wp2_with fail
                      refine (CSA.out _).mono ?_
                      rintro e w6 ⟨rfl, hb6⟩
                      clear q0 q1 q2' q3
                      have L6 := Lib.hid (L5.out.next hb6)
                      have R6 := Lib.hid (R5.out.below hb6)
                      have hz7 := hb6.size
                      have E6 := Lib.hid (E5.out.keep bindE_ok (fun k hk => hb6.block k (by omega)) (fun _ h => h))
                      have X6 := Lib.hid ((hb6.block _ (by omega)).trans X5.out)
                      clear hb6 L5 R5 E5 X5
                      go_wp2_with fail
                      refine (CLK.out _ (by rw [hH0]; exact E6.out)).mono ?_
                      rintro e w7 ⟨rfl, rfl⟩
                      have L5 := L6
                      obtain ⟨q0, q1, q2, q3⟩ := cells4 X6.out
                      obtain ⟨p0, p1, p2, p3, p4, p5, p6⟩ := cells7 L5.out.m
                      obtain ⟨s0, s1, s2, s3, s4, s5, s6⟩ := cells7 L5.out.res
                      have hfr : ∀ i, w6.frozen? ⟨w.heap.size + 1, i, none⟩ = false := Lib.frozen_of_heap L5.out.res
                      clear b0 b1 b2 b3 b4 b5 b6
                      generalize wr.heap.size = g at *
                      go_wp2_with fail
                      go_region
                      all_goals
                        go_wp2_with fail
                        refine bodyPost_ret (v := .tuple #[.agg _, _, _, _]) (res_whole4 Tryd.results48 _ _ (w.heap.size + 1) rfl 29 _ (seven_set L5.out.res _ _ _ _ _ _ _) Tryd.underlying29 rfl nodeSize _ _ _ rfl rfl rfl) rfl ⟨?_, ?_⟩
                        · rw [HRR.out]; exact ⟨_, _, _, _, _, rfl⟩
                        · exact below_seven L5.out.below (by omega) _ _ _ _ _ _ _
                    | some sp2 =>
                      rw [hg] at hat clk
                      simp only [lookR] at hat clk
                      have CLK := Lib.hid clk
                      have TA := Lib.hid hat
                      clear hat hg clk
                      go_wp2_with (first | (with_reducible refine gate ?_; refine wp_load_att rfl _ rfl ab (off + i * 4) rfl ⟨asp, anm, avl, apos⟩ HRA.out ?_) | (with_reducible refine gate ?_; refine wp_load_att rfl _ rfl wr.heap.size 0 rfl ⟨asp, anm, avl, apos⟩ HR4.out ?_))
                      refine (CDC.out _).mono ?_
                      rintro e w5 ⟨rfl, hb5⟩
                      have L5 := Lib.hid (L4.out.next hb5)
                      have R5 := Lib.hid (R4.out.below hb5)
                      have hz6 := hb5.size
                      have E5 := Lib.hid (E4.out.keep bindE_ok (fun k hk => hb5.block k (by omega)) (fun _ h => h))
                      have X5 := Lib.hid ((hb5.block _ (by omega)).trans X4.out)
                      obtain ⟨q0, q1, q2', q3⟩ := cells4 X5.out
                      clear hb5
                      go_wp2_with fail
                      refine (CSA.out _).mono ?_
                      rintro e w6 ⟨rfl, hb6⟩
                      clear q0 q1 q2' q3
                      have L6 := Lib.hid (L5.out.next hb6)
                      have R6 := Lib.hid (R5.out.below hb6)
                      have hz7 := hb6.size
                      have E6 := Lib.hid (E5.out.keep bindE_ok (fun k hk => hb6.block k (by omega)) (fun _ h => h))
                      have X6 := Lib.hid ((hb6.block _ (by omega)).trans X5.out)
                      clear hb6 L5 R5 E5 X5
                      go_wp2_with fail
                      refine (CLK.out _ (by rw [hH0]; exact E6.out)).mono ?_
                      rintro e w7 ⟨rfl, rfl⟩
                      have L7 := L6
                      have R7 := R6
                      have E7 := E6
                      have X7 := X6
                      have hat7 := R7.out.attsIn
                      have HAT7 := Lib.hid hat7
                      have hz7 := heap_lt L7.out.m
                      clear hat7 b0 b1 b2 b3 b4 b5 b6
                      obtain ⟨p0, p1, p2, p3, p4, p5, p6⟩ := cells7 L7.out.m
                      obtain ⟨q0, q1, q2, q3⟩ := cells4 X7.out
                      go_wp2_with fail
                      go_loopw [28] (fun j28 wx => ∃ j : Nat, j ≤ ats.length ∧ j28 = .int .i64 j ∧ (ats.take j).any (fun b => b.space == sp2 && b.name == loc) = false ∧ w6 = wx) (fun j28 _ => ats.length - (intOf j28).toNat)
                      case atStart => exact ⟨0, Nat.zero_le _, rfl, by simp, rfl⟩
                      case round =>
                        obtain ⟨j, hj, rfl, hany, rfl⟩ := hrel
                        by_cases hjl : j < ats.length
                        · have hjl' : (j : Int) < ats.length := by omega
                          obtain ⟨mb, moff, rfl, hmb, hmr⟩ := HAT7.out.at_ hjl
                          have m0 := hmr 0 _ rfl
                          have m1 := hmr 1 _ rfl
                          rw [Nat.add_zero] at m0
                          have hany2 := any_take (p := fun b => b.space == sp2 && b.name == loc) hjl
                          have hhit := fun h => any_hit (p := fun b => b.space == sp2 && b.name == loc) hjl h
                          rw [hany, Bool.false_or] at hany2
                          have HAN := Lib.hid hany2
                          have HHIT := Lib.hid hhit
                          clear hany hmr hany2 hhit
                          generalize ats[j] = z at *
                          obtain ⟨zs, zn, zv, zp⟩ := z
                          simp only at *
                          cases h1 : (zs == sp2)
                          · go_wp2_with fail
                            go_round
                            case rel => exact ⟨j + 1, by omega, by go_num, by rw [HAN.out, h1]; rfl, by first | rfl | trivial⟩
                            case measure => simp [intOf]; omega
                          · cases h2 : (zn == loc)
                            · go_wp2_with fail
                              go_round
                              case rel => exact ⟨j + 1, by omega, by go_num, by rw [HAN.out, h1, h2]; rfl, by first | rfl | trivial⟩
                              case measure => simp [intOf]; omega
                            · have hf := TA.out
                              rw [if_pos (HHIT.out (by rw [h1, h2]; rfl))] at hf
                              have hr := HRF.out
                              rw [← hf] at hr
                              have HRR : Hid (R = .error (apos, 10)) := hr.symm
                              have L5 := L7
                              obtain ⟨s0, s1, s2, s3, s4, s5, s6⟩ := cells7 L5.out.res
                              have hfr : ∀ i, w6.frozen? ⟨w.heap.size + 1, i, none⟩ = false := Lib.frozen_of_heap L5.out.res
                              clear hf hr
                              generalize wr.heap.size = g at *
                              go_wp2_with fail
                              go_region
                              all_goals
                                go_wp2_with fail
                                refine bodyPost_ret (v := .tuple #[.agg _, _, _, _]) (res_whole4 Tryd.results48 _ _ (w.heap.size + 1) rfl 29 _ (seven_set L5.out.res _ _ _ _ _ _ _) Tryd.underlying29 rfl nodeSize _ _ _ rfl rfl rfl) rfl ⟨?_, ?_⟩
                                · rw [HRR.out]; exact ⟨_, _, _, _, _, rfl⟩
                                · exact below_seven L5.out.below (by omega) _ _ _ _ _ _ _
                        · have hjn : j = ats.length := by omega
                          have hjl' : ¬ (j : Int) < ats.length := by omega
                          rw [hjn, List.take_length] at hany
                          have hf := TA.out
                          rw [if_neg (by rw [hany]; decide)] at hf
                          have HF2 := Lib.hid hf
                          have hzb : W5.heap.size ≤ w6.heap.size := by omega
                          have hzl : ats.length < 1000000000000 := by omega
                          clear hany hf hjn hjl TA
                          go_wp2_with (with_reducible refine gate ?_; refine atts_append rfl _ _ rfl w6 W5.heap.size (.slice MA ats.length mc) ats rfl R7.out ⟨sp2, loc, avl, apos⟩ w6.heap.size rfl rfl hzb hzl ?_; intro g8 c8 w8 hrow8 hgr8 hb8; have L8 := Lib.hid (L7.out.from3 (hb8.mono hz5)); have hfm8 := L8.out.free; have hz8 := heap_lt L8.out.m; obtain ⟨d0, d1, d2, d3, d4, d5, d6⟩ := cells7 L8.out.m)
                          go_roundw
                          case rel =>
                            refine ⟨i + 1, ats ++ [⟨sp2, loc, avl, apos⟩], some ⟨g8, 0, none⟩, c8, by omega, by go_num, HF2.out, by rw [List.length_append]; simp; omega, ?_, ?_, ?_, ?_⟩
                            · rw [List.length_append]
                              exact hrow8.heap fun k hk => Below.heap_setCell _ _ _ _ (by have := hrow8.lt k hk; show k ≠ w.heap.size + 2; omega)
                            · rw [List.length_append]; exact L8.out.set3 _ _ _
                            · have := hb8.size; simp [World.setCell]; omega
                            · exact E7.out.keep bindE_ok (fun k hk => (Below.heap_setCell _ _ _ _ (by show k ≠ w.heap.size + 2; omega)).trans (hb8.block k hk.2)) (fun _ h => h)
                          case measure => simp [intOf]; omega
              · have hil : i = n.attrs.length := by omega
                rw [hil, List.drop_length, attrsL] at hat
                have hr := HRF.out
                rw [← hat] at hr
                have HRR : Hid (R = .ok (sp, q, ats, scopeB bs)) := hr.symm
                have hlt' : ¬ (i : Int) < n.attrs.length := by omega
                have hra := range_of_heap (cs := [_, _, _, _, _, _, _]) HLO.out.m
                have hres := HLO.out.res
                clear hat hr hil hlt
                go_wp2_with (first
                  | (with_reducible refine gate ?_; refine wp_load_node rfl _ rfl (w.heap.size + 2) 0 rfl _ rfl hra ?_)
                  | (with_reducible refine gate ?_; refine wp_store_node rfl _ _ rfl (w.heap.size + 1) _ _ _ _ _ _ _ _ _ _ _ _ rfl rfl hres rfl ?_; intro w9 hw9 hu9))
                refine bodyPost_ret (v := .tuple #[.agg _, _, _, _]) (res_whole4 Tryd.results48 _ _ (w.heap.size + 1) rfl _ _ hw9 Tryd.underlying29 rfl nodeSize _ _ _ rfl rfl rfl) rfl ⟨?_, ?_⟩
                · rw [HRR.out]
                  have hz9 := hu9.size
                  refine ⟨_, _, _, _, bs, rfl, ?_, ?_, rfl, HXM.out, hbl2⟩
                  · refine (HROW.out.heap fun k hk => hu9.block k (HROW.out.lt k hk).2 (by have := HROW.out.lt k hk; omega)).attsP fun k hk => ?_
                    have := HROW.out.lt k hk
                    exact ⟨by omega, by omega⟩
                  · exact HELS.out.keep bindE_ok (fun k hk => hu9.block k (by omega) (by omega)) (fun k hk => ⟨by omega, by omega⟩)
                · exact HLO.out.below.trans (hu9.below (by omega) HLO.out.below.size)
end Go.Proofs.YtaghipnheomggaaDoor
set_option linter.unusedVariables false
namespace Go.Proofs.YtaghipnheomggaaDoor
open Go.RowKit

/-- What resolve of the reference returns. -/
def ResR (w w' : World) (r : Except (Int × Nat) Node) (e : Ending) : Prop :=
  match r with
  | .error q => e = .returned (.tuple #[zNodeV, .int .i64 q.1, .int .i64 q.2])
  | .ok n => ∃ v, e = .returned (.tuple #[v, .int .i64 0, .int .i64 0]) ∧ NodePV w' (fun b => w.heap.size ≤ b ∧ b < w'.heap.size) n v

/-- Where resolve stands in its loop: g the block of the node that it builds. -/
structure RLo (w0 : World) (n : Node) (A : Option Addr) (c : Nat) (K : Option Addr) (d : Nat) (g : Nat) (sp q : Bytes) (MA : Option Addr) (mc : Nat) (ats : List Att) (I : Option Addr) (ic : Nat) (bs : List (Bytes × Bytes)) (KA : Option Addr) (kc : Nat) (ks : List Node) (wr : World) : Prop where
  box : wr.heap[w0.heap.size]? = some (nodeBox n A c K d)
  res : wr.heap[w0.heap.size + 1]? = some (.cells zNodC 29 (0, 0))
  m : wr.heap[g]? = some (.cells #[.int .i64 0, .string (S sp), .string (S q), .slice MA ats.length mc, .slice KA ks.length kc, .string ⟨#[]⟩, .int .i64 n.pos] 29 (0, 0))
  atts : AttsP wr (fun b => w0.heap.size + 2 ≤ b ∧ b < g) (.slice MA ats.length mc) ats
  binds : ElsP bindE wr (fun b => w0.heap.size + 2 ≤ b ∧ b < g) (.slice I bs.length ic) bs
  row : ElRow nodeE wr (g + 1) (fun b => (g + 1 ≤ b ∧ b < wr.heap.size) ∧ (Value.slice KA ks.length kc).ownBlock ≠ some b) (.slice KA ks.length kc) ks
  below : Below w0.heap.size w0 wr
  lt : w0.heap.size + 2 ≤ g
section
variable {w0 : World} {n : Node} {A : Option Addr} {c : Nat} {K : Option Addr} {d : Nat} {g : Nat} {sp q : Bytes} {MA : Option Addr} {mc : Nat} {ats : List Att} {I : Option Addr} {ic : Nat} {bs : List (Bytes × Bytes)} {KA : Option Addr} {kc : Nat} {ks : List Node} {wr w' : World}
theorem RLo.next (h : RLo w0 n A c K d g sp q MA mc ats I ic bs KA kc ks wr) (hb : Below wr.heap.size wr w') : RLo w0 n A c K d g sp q MA mc ats I ic bs KA kc ks w' :=
  have hg := heap_lt h.m
  ⟨(hb.block _ (heap_lt h.box)).trans h.box, (hb.block _ (heap_lt h.res)).trans h.res, (hb.block _ hg).trans h.m, h.atts.keep (fun k hk => hb.block k (by omega)) (fun _ h => h), h.binds.keep bindE_ok (fun k hk => hb.block k (by omega)) (fun _ h => h),
    (h.row.below nodeE_ok hb (fun k hk => hk.1.2)).more nodeE_ok (fun k hk => ⟨⟨hk.1.1, Nat.lt_of_lt_of_le hk.1.2 hb.size⟩, hk.2⟩), h.below.trans (hb.mono h.below.size), h.lt⟩
/-- A kid has been appended and stored. -/
theorem RLo.put {w6 w8 : World} {g8 c8 : Nat} {k' : Node} (h : RLo w0 n A c K d g sp q MA mc ats I ic bs KA kc ks w6) (hat : (Value.slice KA ks.length kc).ownBlock = some g8 ∨ w6.heap.size ≤ g8)
    (hr : ElRow nodeE w8 (g + 1) (fun b => (g + 1 ≤ b ∧ b < w6.heap.size) ∧ (Value.slice KA ks.length kc).ownBlock ≠ some b) (.slice (some ⟨g8, 0, none⟩) (ks.length + 1) c8) (ks ++ [k'])) (hb : Below (g + 1) w6 w8) :
    RLo w0 n A c K d g sp q MA mc ats I ic bs (some ⟨g8, 0, none⟩) c8 (ks ++ [k']) (w8.setCell ⟨g, 4, none⟩ (.slice (some ⟨g8, 0, none⟩) (ks.length + 1) c8)) := by
  have hlt := h.lt
  have hsz : (w8.setCell ⟨g, 4, none⟩ (.slice (some ⟨g8, 0, none⟩) (ks.length + 1) c8)).heap.size = w8.heap.size := by simp [World.setCell]
  have hset : ∀ b, b ≠ g → (w8.setCell ⟨g, 4, none⟩ (.slice (some ⟨g8, 0, none⟩) (ks.length + 1) c8)).heap[b]? = w8.heap[b]? := fun b hb => Below.heap_setCell _ _ _ _ hb
  have hk : ∀ b, b < g → (w8.setCell ⟨g, 4, none⟩ (.slice (some ⟨g8, 0, none⟩) (ks.length + 1) c8)).heap[b]? = w6.heap[b]? := fun b hb' => (hset b (by omega)).trans (hb.block b (by omega))
  have hlen : (ks ++ [k']).length = ks.length + 1 := by simp
  refine ⟨(hk _ (by omega)).trans h.box, (hk _ (by omega)).trans h.res, ?_, h.atts.keep (fun b hb' => hk b (by omega)) (fun _ h => h), h.binds.keep bindE_ok (fun b hb' => hk b (by omega)) (fun _ h => h), ?_, ?_, h.lt⟩
  · have := heap_set (i := 4) ((hb.block g (by omega)).trans h.m) (.slice (some ⟨g8, 0, none⟩) (ks.length + 1) c8)
    rw [hlen]
    exact this
  · rw [hlen, hsz]
    have h8 := hr.lt g8 rfl
    have hne : ∀ b, (Value.slice (some ⟨g8, 0, none⟩) (ks.length + 1) c8).ownBlock = some b → b ≠ g := fun b hb' => by
      have e2 : g8 = b := by simpa [Value.ownBlock] using hb'
      omega
    refine (hr.heap nodeE_ok (fun b hb' => hset b (hne b hb')) (fun b hb' => hset b (by omega))).more nodeE_ok (fun b hb' => ?_)
    have := hb.size
    refine ⟨⟨hb'.1.1, by omega⟩, fun e => ?_⟩
    have e2 : g8 = b := by simpa [Value.ownBlock] using e
    rcases hat with h9 | h9
    · exact hb'.2 (by rw [h9, e2])
    · omega
  · exact (h.below.trans (hb.mono (by omega))).setCell (p := ⟨g, 4, none⟩) (by show w0.heap.size ≤ g; omega) _
end

theorem res_whole3' {P : Program} {fn : Func} {p q r : Tmp} {ty : TypeId} (h : fn.results = #[.cell p ty, .tmp q, .tmp r]) (tmps : Array Value) (w : World) (g : Nat) (ht : tmps.getD p undef = .pointer (some ⟨g, 0, none⟩)) (t : TypeId) (cells : Array Value) (hg : w.heap[g]? = some (.cells cells t (0, 0)))
    {d : TypeDesc} (hu : P.underlying ty = some d) (hd : d.isRow = true) (hi : (P.info? ty).map (·.size) = some cells.size) (x y : Value) (hx : tmps.getD q undef = x) (hy : tmps.getD r undef = y) : (results fn tmps).run P w = .ok (.tuple #[.agg cells, x, y]) w :=
  res_whole3 h tmps w g ht t cells hg hu hd hi x y hx hy

set_option maxHeartbeats 4000000 in
set_option maxRecDepth 100000 in
theorem refResolve_any (m : Nat) : ∀ (n : Node) (v vs : Value) (bs0 : List (Bytes × Bytes)) (w : World), nsz n ≤ m → Clean n → bs0.length + full n ≤ 1000000000 → (∀ b ∈ bs0, b.1 ≠ bXml) → NodeV w w.heap.size n v → ElsP bindE w (· < w.heap.size) vs bs0 →
    Calls Tryd.prog 27 #[v, vs] w fun e w' => ResR w w' (resN (scopeB bs0) n) e ∧ Below w.heap.size w w' := by
  induction m with
  | zero => intro n v vs bs0 w h; cases n; rw [nsz] at h; omega
  | succ m ih =>
    intro n v vs bs0 w hm hcl hs hx0 hv hb
    obtain ⟨R, hR⟩ : ∃ R, resN (scopeB bs0) n = R := ⟨_, rfl⟩
    rw [hR]
    rw [resN_eq] at hR
    have hbx := fun (W : World) (hW : Below w.heap.size w W) => refHead_any n v vs bs0 W hs hx0 (hv.keep hW.block hW.size) (hb.keep bindE_ok (fun k hk => hW.block k hk) (fun k hk => Nat.lt_of_lt_of_le hk hW.size))
    obtain ⟨A, c, K, d, rfl, ha, hk, hc, hd⟩ := hv.open_
    obtain ⟨SA, sc, rfl, hsc⟩ := hb.slice
    have hsz := full_form n
    have hal := attsF_len n.attrs
    have hkl := fullL_len n.kids
    have B0 := Lib.hid (show Below w.heap.size w ((w.alloc (nodeBox n A c K d)).alloc (.cells zNodC 29)) from ((Below.refl _ _).alloc (Nat.le_refl _) _).alloc (by simp) _)
    have X0 := Lib.hid (show ((w.alloc (nodeBox n A c K d)).alloc (.cells zNodC 29)).heap[w.heap.size]? = some (nodeBox n A c K d) from alloc_old (heap_alloc_new w _))
    have X1 := Lib.hid (show ((w.alloc (nodeBox n A c K d)).alloc (.cells zNodC 29)).heap[w.heap.size + 1]? = some (.cells zNodC 29 (0, 0)) from alloc_at (by simp))
    have hr0 := range_of_heap (cs := [_, _, _, _, _, _, _]) X0.out
    have HC := Lib.hid (hbx _ B0.out)
    clear hv hb hbx hx0
    cases hh : headF (scopeB bs0) n with
    | error e1 =>
      have he := headF_err hh
      rw [hh] at hR
      have HC2 := Lib.hid (hh ▸ HC.out)
      simp only at hR
      have HR : Hid (R = .error e1) := hR.symm
      have t1 : ((e1.2 : Int) == 0) = false := by rw [beq_eq_false_iff_ne]; omega
      have t2 : ((e1.2 : Int) != 0) = true := by rw [bne, t1]; rfl
      clear hR hh he HC ha hk ih
      go_enter Tryd.func27, Tryd.ntmps27
      go_wp2_with (with_reducible refine gate ?_; refine wp_load_node rfl _ rfl w.heap.size 0 rfl _ rfl hr0 ?_)
      refine (HC2.out).mono ?_
      rintro e w1 ⟨⟨sp, nm, MA, mm, mc, rfl⟩, hb1⟩
      have Y1 := Lib.hid ((hb1.block _ (heap_lt X1.out)).trans X1.out)
      have B1 := Lib.hid (B0.out.trans (hb1.mono B0.out.size))
      clear hb1 hr0
      have hres := alloc_old (o := .cells #[.int .i64 0, .string sp, .string nm, .slice MA mm mc, .slice none 0 0, .string ⟨#[]⟩, .int .i64 n.pos] 29) Y1.out
      go_wp2_with (with_reducible refine gate ?_; refine wp_store_node rfl _ _ rfl (w.heap.size + 1) _ _ _ _ _ _ _ _ _ _ _ _ rfl rfl hres rfl ?_; intro w2 hw2 hu2)
      refine bodyPost_ret (v := .tuple #[.agg _, _, _]) (res_whole3' Tryd.results27 _ _ (w.heap.size + 1) rfl _ _ hw2 Tryd.underlying29 rfl nodeSize _ _ rfl rfl) rfl ⟨?_, ?_⟩
      · rw [HR.out]; rfl
      · exact (B1.out.alloc B1.out.size _).trans (hu2.below (by omega) (by have := B1.out.size; simp; omega))
    | ok p1 =>
      obtain ⟨sp, q, ats, g'⟩ := p1
      rw [hh] at hR
      have HC2 := Lib.hid (hh ▸ HC.out)
      simp only at hR
      obtain ⟨F, hF⟩ : ∃ F, resL g' n.kids = F := ⟨_, rfl⟩
      rw [hF] at hR
      have HR := Lib.hid hR
      have HF := Lib.hid hF
      clear hR hh HC hF
      go_enter Tryd.func27, Tryd.ntmps27
      go_wp2_with (with_reducible refine gate ?_; refine wp_load_node rfl _ rfl w.heap.size 0 rfl _ rfl hr0 ?_)
      refine (HC2.out).mono ?_
      rintro e w1 ⟨⟨MA, mc, I, ic, bs, rfl, hats, hbs, rfl, hxm, hbl⟩, hb1⟩
      have B1 := Lib.hid (B0.out.trans (hb1.mono B0.out.size))
      have hz1 : w.heap.size + 2 ≤ w1.heap.size := by have := hb1.size; simpa using this
      have hkk : ∀ b, b < w1.heap.size → (w1.alloc (.cells #[.int .i64 0, .string (S sp), .string (S q), .slice MA ats.length mc, .slice none 0 0, .string ⟨#[]⟩, .int .i64 n.pos] 29)).heap[b]? = w1.heap[b]? := fun b hb => Below.heap_alloc _ _ _ hb
      have L1 : Hid (RLo w n A c K d w1.heap.size sp q MA mc ats I ic bs none 0 [] (w1.alloc (.cells #[.int .i64 0, .string (S sp), .string (S q), .slice MA ats.length mc, .slice none 0 0, .string ⟨#[]⟩, .int .i64 n.pos] 29))) := by
        refine ⟨alloc_old ((hb1.block _ (heap_lt X0.out)).trans X0.out), alloc_old ((hb1.block _ (heap_lt X1.out)).trans X1.out), heap_alloc_new w1 _, hats.keep (fun k hk => hkk k hk.2) (fun k hk => ?_), hbs.keep bindE_ok (fun k hk => hkk k hk.2) (fun k hk => ?_), ElRow.nil _ _ _ _, B1.out.alloc B1.out.size _, hz1⟩
        · simpa using hk
        · simpa using hk
      have HXM := Lib.hid hxm
      clear hkk hb1 hats hbs hxm hr0 HC2 B0 X0 X1 B1
      go_wp2_with fail
      generalize w1.alloc (.cells #[.int .i64 0, .string (S sp), .string (S q), .slice MA ats.length mc, .slice none 0 0, .string ⟨#[]⟩, .int .i64 n.pos] 29) = W1 at *
      generalize w1.heap.size = g at *
      have HA := Lib.hid hk
      clear ha hk
      go_loopw [11] (fun i11 wr => ∃ (i : Nat) (ks : List Node) (KA : Option Addr) (kc : Nat), i ≤ n.kids.length ∧ i11 = .int .i64 i ∧ ks.length = i ∧ (resL (scopeB bs) (n.kids.drop i)).map (ks ++ ·) = F ∧ RLo w n A c K d g sp q MA mc ats I ic bs KA kc ks wr) (fun i11 _ => n.kids.length - (intOf i11).toNat)
      case atStart => exact ⟨0, [], none, 0, Nat.zero_le _, rfl, rfl, by rw [List.drop_zero, ← HF.out]; cases resL (scopeB bs) n.kids <;> rfl, L1.out⟩
      case round =>
        obtain ⟨i, ks, KA, kc, hi, rfl, hki, hres, hlo⟩ := hrel
        have hzl : ks.length < 10000000000 := by omega
        have HKI := Lib.hid hki
        clear hki
        clear L1 HF
        have HLO := Lib.hid hlo
        have hgz := heap_lt hlo.m
        have hlt0 := hlo.lt
        clear hlo
        obtain ⟨b0, b1, b2, b3, b4, b5, b6⟩ := box_cells HLO.out.box
        by_cases hlt : i < n.kids.length
        · have hlt' : (i : Int) < n.kids.length := by omega
          obtain ⟨kb, off, cs, rfl, hkb, hkr, hkn⟩ := HA.out.at_ hlt
          have hkr := rangeAt_keep hkr (HLO.out.below.block kb hkb)
          have hkn := NodeIn.keep HLO.out.below.block (Nat.le_refl _) _ _ hkn
          have hck := hcl.kid (List.getElem_mem hlt)
          have hfk := fullL_mem (List.getElem_mem hlt)
          have hnk := nsz_get n hlt
          rw [List.drop_eq_getElem_cons hlt] at hres
          generalize n.kids[i] = k at *
          have HKN0 := Lib.hid hkn
          obtain ⟨NA, nc, NK, nd, rfl, _, _, _, _⟩ := hkn.open_
          have L4 := Lib.hid (HLO.out.next ((Below.refl _ wr).alloc (Nat.le_refl _) (nodeBox k NA nc NK nd)))
          have X4 := Lib.hid (heap_alloc_new wr (nodeBox k NA nc NK nd))
          have hz4 : (wr.alloc (nodeBox k NA nc NK nd)).heap.size = wr.heap.size + 1 := by simp
          have hra4 := range_of_heap (cs := [_, _, _, _, _, _, _]) X4.out
          have hcell4 := Lib.cell_of_heap X4.out (j := 0)
          have HKR := Lib.hid hkr
          have HCK := Lib.hid hck
          clear hkn hkr hck
          by_cases hk0 : k.kind = 0
          · have t1 : (k.kind == 0) = true := by rw [hk0]; rfl
            have hnv : NodeV (wr.alloc (nodeBox k NA nc NK nd)) (wr.alloc (nodeBox k NA nc NK nd)).heap.size k _ := ⟨_, rfl, NodeIn.keep (fun b hb => Below.heap_alloc _ _ _ (by omega)) (by omega) _ _ HKN0.out⟩
            have hcall := ih k _ (.slice I bs.length ic) bs (wr.alloc (nodeBox k NA nc NK nd)) (by omega) HCK.out (by omega) HXM.out hnv (L4.out.binds.keep bindE_ok (fun _ _ => rfl) (fun b hb => by omega))
            cases hrk : resN (scopeB bs) k with
            | error e2 =>
              have he := resN_err hrk
              rw [hrk] at hcall
              rw [resL_fail hk0 hrk] at hres
              have hr := HR.out
              rw [← hres] at hr
              have HRR : Hid (R = .error e2) := hr.symm
              have t3 : ((e2.2 : Int) == 0) = false := by rw [beq_eq_false_iff_ne]; omega
              have t4 : ((e2.2 : Int) != 0) = true := by rw [bne, t3]; rfl
              have HCL := Lib.hid hcall
              clear hcall hnv hrk hres hr he hk0 ih
              have hb4 : (wr.alloc (nodeBox k NA nc NK nd)).cell? ⟨wr.heap.size, 0, none⟩ = some (.int .i64 k.kind) := by rw [hcell4]; rfl
              go_wp2_with (first
                | (with_reducible refine gate ?_; refine wp_load_node rfl _ rfl kb (off + i * 7) rfl _ rfl HKR.out ?_)
                | (with_reducible refine gate ?_; refine wp_load_node rfl _ rfl wr.heap.size 0 rfl _ rfl hra4 ?_))
              refine HCL.out.mono ?_
              rintro e w5 ⟨rfl, hb5⟩
              have X5 := (hb5.block _ (by omega)).trans X4.out
              have L5 := Lib.hid (L4.out.next hb5)
              have hz5 := hb5.size
              clear hb5 b0 b1 b2 b3 b4 b5 b6 hcell4 hb4 hra4
              go_wp2_with (first
                | (with_reducible refine gate ?_; refine wp_store_node rfl _ _ rfl wr.heap.size _ _ _ _ _ _ _ _ _ _ _ _ rfl rfl X5 rfl ?_; intro w6 hw6 hu6; have hres6 := (hu6.block (w.heap.size + 1) (by omega) (by omega)).trans L5.out.res)
                | (with_reducible refine gate ?_; refine wp_store_node rfl _ _ rfl (w.heap.size + 1) _ _ _ _ _ _ _ _ _ _ _ _ rfl rfl hres6 rfl ?_; intro w7 hw7 hu7))
              refine bodyPost_ret (v := .tuple #[.agg _, _, _]) (res_whole3' Tryd.results27 _ _ (w.heap.size + 1) rfl _ _ hw7 Tryd.underlying29 rfl nodeSize _ _ rfl rfl) rfl ⟨?_, ?_⟩
              · rw [HRR.out]; rfl
              · exact (L5.out.below.trans (hu6.below (by omega) L5.out.below.size)).trans (hu7.below (by omega) (by have := L5.out.below.size; have := hu6.size; omega))
            | ok k2 =>
              rw [hrk] at hcall
              rw [resL_elem hk0 hrk, map_map_app] at hres
              have HRS := Lib.hid hres
              have HCL := Lib.hid hcall
              clear hcall hnv hrk hres hk0
              have hb4 : (wr.alloc (nodeBox k NA nc NK nd)).cell? ⟨wr.heap.size, 0, none⟩ = some (.int .i64 k.kind) := by rw [hcell4]; rfl
              go_wp2_with (first
                | (with_reducible refine gate ?_; refine wp_load_node rfl _ rfl kb (off + i * 7) rfl _ rfl HKR.out ?_)
                | (with_reducible refine gate ?_; refine wp_load_node rfl _ rfl wr.heap.size 0 rfl _ rfl hra4 ?_))
              refine HCL.out.mono ?_
              rintro e w5 ⟨⟨v, rfl, hnv5⟩, hb5⟩
              obtain ⟨cs5, rfl, hn5⟩ := hnv5
              obtain ⟨QA, qc, QK, qd, rfl, _, _, _, _⟩ := hn5.open_
              have X5 := (hb5.block _ (by omega)).trans X4.out
              have L5 := Lib.hid (L4.out.next hb5)
              have hz5 := hb5.size
              have HN5 := Lib.hid hn5
              have HB5 := Lib.hid (((Below.refl _ wr).alloc (Nat.le_refl _) (nodeBox k NA nc NK nd)).trans (hb5.mono (by omega)))
              clear hb5 b0 b1 b2 b3 b4 b5 b6 hcell4 hb4 hra4 hn5
              have HKN5 : ∀ w6, Upd wr.heap.size w5 w6 → NodeP w6 (fun b => (g + 1 ≤ b ∧ b < w6.heap.size) ∧ (Value.slice KA ks.length kc).ownBlock ≠ some b) k2 [.int .i64 k2.kind, .string (S k2.space), .string (S k2.name), .slice QA k2.attrs.length qc, .slice QK k2.kids.length qd, .string (S k2.text), .int .i64 k2.pos] := fun w6 hu6 => NodeP.keep (fun b hb => hu6.block b (by omega) (by omega)) (fun b hb => ⟨⟨by omega, by have := hu6.size; omega⟩, fun e => by have := HLO.out.row.lt b e; omega⟩) _ _ HN5.out
              have hzw : wr.heap.size ≤ w5.heap.size := by omega
              have HS : Hid (∀ w6 : World, w6.heap[wr.heap.size]? = some (.cells #[.int .i64 k2.kind, .string (S k2.space), .string (S k2.name), .slice QA k2.attrs.length qc, .slice QK k2.kids.length qd, .string (S k2.text), .int .i64 k2.pos] 29 (0, 0)) → Upd wr.heap.size w5 w6 → Hid (NodeP w6 (fun b => (g + 1 ≤ b ∧ b < w6.heap.size) ∧ (Value.slice KA ks.length kc).ownBlock ≠ some b) k2 [.int .i64 k2.kind, .string (S k2.space), .string (S k2.name), .slice QA k2.attrs.length qc, .slice QK k2.kids.length qd, .string (S k2.text), .int .i64 k2.pos]) ∧ Hid (RLo w n A c (some ⟨kb, off, none⟩) d g sp q MA mc ats I ic bs KA kc ks w6) ∧ w6.rangeAt wr.heap.size 0 [.int .i64 k2.kind, .string (S k2.space), .string (S k2.name), .slice QA k2.attrs.length qc, .slice QK k2.kids.length qd, .string (S k2.text), .int .i64 k2.pos] ∧
                  w6.cell? ⟨g, 4, none⟩ = some (.slice KA ks.length kc) ∧ g + 1 ≤ w6.heap.size) := fun w6 hw6 hu6 => by
                have L7 := HLO.out.next (HB5.out.trans (hu6.below (Nat.le_refl _) hzw))
                obtain ⟨p0, p1, p2, p3, p4, p5, p6⟩ := cells7 L7.m
                exact ⟨HKN5 w6 hu6, L7, range_of_heap (cs := [.int .i64 k2.kind, .string (S k2.space), .string (S k2.name), .slice QA k2.attrs.length qc, .slice QK k2.kids.length qd, .string (S k2.text), .int .i64 k2.pos]) hw6, p4, heap_lt L7.m⟩
              clear HKN5
              go_wp2_with (first
                | (with_reducible refine gate ?_; refine wp_store_node rfl _ _ rfl wr.heap.size _ _ _ _ _ _ _ _ _ _ _ _ rfl rfl X5 rfl ?_; intro w6 hw6 hu6; obtain ⟨HKN, L7, hra6, p4, hzg⟩ := HS.out w6 hw6 hu6)
                | (with_reducible refine gate ?_; refine wp_load_node rfl _ rfl wr.heap.size 0 rfl _ rfl hra6 ?_)
                | (with_reducible refine gate ?_; refine els_append nodeE_ok rfl _ _ rfl w6 (g + 1) _ (.slice KA ks.length kc) ks rfl L7.out.row k2 [.int .i64 k2.kind, .string (S k2.space), .string (S k2.name), .slice QA k2.attrs.length qc, .slice QK k2.kids.length qd, .string (S k2.text), .int .i64 k2.pos] w6.heap.size rfl rfl HKN.out (fun _ h => h.2) (fun _ h => h.1.2) hzg hzl ?_; intro g8 c8 w8 hat8 hlt8 hrow8 hgr8 hb8; have hm8 := (hb8.block g (by omega)).trans L7.out.m; obtain ⟨d0, d1, d2, d3, d4, d5, d6⟩ := cells7 hm8; have hfm8 : ∀ i, w8.frozen? ⟨g, i, none⟩ = false := Lib.frozen_of_heap hm8))
              go_roundw
              case rel => exact ⟨i + 1, ks ++ [k2], some ⟨g8, 0, none⟩, c8, by omega, by go_num, by have := HKI.out; simp; omega, HRS.out, by have := L7.out.put hat8 hrow8 hb8; simpa using this⟩
              case measure => simp [intOf]; omega
          · have t1 : (k.kind == 0) = false := by rw [beq_eq_false_iff_ne]; exact hk0
            have hbr := HCK.out.bare hk0
            rw [resL_other hk0, map_map_app] at hres
            have HRS := Lib.hid hres
            have hb4 : (wr.alloc (nodeBox k NA nc NK nd)).cell? ⟨wr.heap.size, 0, none⟩ = some (.int .i64 k.kind) := by rw [hcell4]; rfl
            have HKN : Hid (NodeP (wr.alloc (nodeBox k NA nc NK nd)) (fun b => (g + 1 ≤ b ∧ b < (wr.alloc (nodeBox k NA nc NK nd)).heap.size) ∧ (Value.slice KA ks.length kc).ownBlock ≠ some b) k [.int .i64 k.kind, .string (S k.space), .string (S k.name), .slice NA k.attrs.length nc, .slice NK k.kids.length nd, .string (S k.text), .int .i64 k.pos]) := (NodeIn.toP _ _ HKN0.out).bare hbr.1 hbr.2
            clear hres hk0 hbr ih hcell4
            have hrow6 : ElRow nodeE (wr.alloc (nodeBox k NA nc NK nd)) (g + 1) (fun b => (g + 1 ≤ b ∧ b < (wr.alloc (nodeBox k NA nc NK nd)).heap.size) ∧ (Value.slice KA ks.length kc).ownBlock ≠ some b) (.slice KA ks.length kc) ks := L4.out.row
            obtain ⟨p0, p1, p2, p3, p4, p5, p6⟩ := cells7 L4.out.m
            have hfm : ∀ i, (wr.alloc (nodeBox k NA nc NK nd)).frozen? ⟨g, i, none⟩ = false := Lib.frozen_of_heap L4.out.m
            have HRW := Lib.hid hrow6
            have hzg : g + 1 ≤ (wr.alloc (nodeBox k NA nc NK nd)).heap.size := heap_lt L4.out.m
            clear hrow6
            go_wp2_with (first
              | (with_reducible refine gate ?_; refine wp_load_node rfl _ rfl kb (off + i * 7) rfl _ rfl HKR.out ?_)
              | (with_reducible refine gate ?_; refine wp_load_node rfl _ rfl wr.heap.size 0 rfl _ rfl hra4 ?_)
              | (with_reducible refine gate ?_; refine els_append nodeE_ok rfl _ _ rfl (wr.alloc (nodeBox k NA nc NK nd)) (g + 1) _ (.slice KA ks.length kc) ks rfl HRW.out k [.int .i64 k.kind, .string (S k.space), .string (S k.name), .slice NA k.attrs.length nc, .slice NK k.kids.length nd, .string (S k.text), .int .i64 k.pos] (wr.heap.size + 1) hz4 rfl HKN.out (fun _ h => h.2) (fun _ h => h.1.2) hzg hzl ?_; intro g8 c8 w8 hat8 hlt8 hrow8 hgr8 hb8; have hm8 := (hb8.block g (by omega)).trans L4.out.m; obtain ⟨d0, d1, d2, d3, d4, d5, d6⟩ := cells7 hm8; have hfm8 : ∀ i, w8.frozen? ⟨g, i, none⟩ = false := Lib.frozen_of_heap hm8))
            go_roundw
            case rel => exact ⟨i + 1, ks ++ [k], some ⟨g8, 0, none⟩, c8, by omega, by go_num, by have := HKI.out; simp; omega, HRS.out, by have := L4.out.put hat8 hrow8 hb8; simpa using this⟩
            case measure => simp [intOf]; omega
        · have hil : i = n.kids.length := by omega
          rw [hil, List.drop_length, resL] at hres
          have hr := HR.out
          rw [← hres] at hr
          have HRR : Hid (R = .ok (.mk 0 sp q ats (ks ++ []) [] n.pos)) := hr.symm
          have hlt' : ¬ (i : Int) < n.kids.length := by omega
          have hra := range_of_heap (cs := [_, _, _, _, _, _, _]) HLO.out.m
          have hres1 := HLO.out.res
          clear hres hr hil hlt ih
          go_wp2_with (first
            | (with_reducible refine gate ?_; refine wp_load_node rfl _ rfl g 0 rfl _ rfl hra ?_)
            | (with_reducible refine gate ?_; refine wp_store_node rfl _ _ rfl (w.heap.size + 1) _ _ _ _ _ _ _ _ _ _ _ _ rfl rfl hres1 rfl ?_; intro w9 hw9 hu9))
          refine bodyPost_ret (v := .tuple #[.agg _, _, _]) (res_whole3' Tryd.results27 _ _ (w.heap.size + 1) rfl _ _ hw9 Tryd.underlying29 rfl nodeSize _ _ rfl rfl) rfl ⟨?_, ?_⟩
          · rw [HRR.out, List.append_nil]
            have hz9 := hu9.size
            refine ⟨_, rfl, NodePV.of_form (n := .mk 0 sp q ats ks [] n.pos) ?_ ?_⟩
            · exact HLO.out.atts.keep (fun k hk => hu9.block k (by omega) (by omega)) (fun k hk => ⟨by omega, by omega⟩)
            · have hrw := HLO.out.row
              refine ((hrw.heap nodeE_ok (fun k hk => hu9.block k (hrw.lt k hk).2 (by have := hrw.lt k hk; omega)) (fun k hk => hu9.block k (by omega) (by omega))).elsP (p' := fun b => w.heap.size ≤ b ∧ b < w9.heap.size) nodeE_ok (fun k hk => ⟨by omega, by omega⟩) (fun k hk => by have := hrw.lt k hk; exact ⟨by omega, by omega⟩)).nodesP
          · exact HLO.out.below.trans (hu9.below (by omega) HLO.out.below.size)

set_option maxHeartbeats 1000000 in
theorem refResolveTop_any (n : Node) (v : Value) (w : World) (hcl : Clean n) (hs : full n ≤ 1000000000) (hv : NodeV w w.heap.size n v) :
    Calls Tryd.prog 14 #[v] w fun e w' => ResR w w' (resolveF n) e ∧ Below w.heap.size w w' := by
  have hcall := fun (W : World) (hW : Below w.heap.size w W) => refResolve_any (nsz n) n v (.slice none 0 0) [] W (Nat.le_refl _) hcl (by simpa using hs) (by simp) (hv.keep hW.block hW.size) (ElsP.nil _ _ _)
  rw [show scopeB [] = scope0 from rfl, show resN scope0 n = resolveF n from rfl] at hcall
  obtain ⟨A, c, K, d, rfl, ha, hk, hc, hd⟩ := hv.open_
  have B0 := Lib.hid (show Below w.heap.size w ((w.alloc (nodeBox n A c K d)).alloc (.cells zNodC 29)) from ((Below.refl _ _).alloc (Nat.le_refl _) _).alloc (by simp) _)
  have X0 := Lib.hid (show ((w.alloc (nodeBox n A c K d)).alloc (.cells zNodC 29)).heap[w.heap.size]? = some (nodeBox n A c K d) from alloc_old (heap_alloc_new w _))
  have X1 := Lib.hid (show ((w.alloc (nodeBox n A c K d)).alloc (.cells zNodC 29)).heap[w.heap.size + 1]? = some (.cells zNodC 29 (0, 0)) from alloc_at (by simp))
  have hr0 := range_of_heap (cs := [_, _, _, _, _, _, _]) X0.out
  have HC := Lib.hid (hcall _ B0.out)
  obtain ⟨R, hR⟩ : ∃ R, resolveF n = R := ⟨_, rfl⟩
  rw [hR] at HC ⊢
  clear hv hcall ha hk hR
  go_enter Tryd.func14, Tryd.ntmps14
  cases R with
  | error e1 =>
    go_wp2_with (with_reducible refine gate ?_; refine wp_load_node rfl _ rfl w.heap.size 0 rfl _ rfl hr0 ?_)
    refine (HC.out).mono ?_
    rintro e w1 ⟨rfl, hb1⟩
    have hres := (hb1.block _ (heap_lt X1.out)).trans X1.out
    have B1 := Lib.hid (B0.out.trans (hb1.mono B0.out.size))
    clear hb1 hr0
    go_wp2_with (with_reducible refine gate ?_; refine wp_store_node rfl _ _ rfl (w.heap.size + 1) _ _ _ _ _ _ _ _ _ _ _ _ rfl rfl hres rfl ?_; intro w2 hw2 hu2)
    refine bodyPost_ret (v := .tuple #[.agg _, _, _]) (res_whole3' Tryd.results14 _ _ (w.heap.size + 1) rfl _ _ hw2 Tryd.underlying29 rfl nodeSize _ _ rfl rfl) rfl ⟨rfl, ?_⟩
    exact B1.out.trans (hu2.below (by omega) B1.out.size)
  | ok n2 =>
    go_wp2_with (with_reducible refine gate ?_; refine wp_load_node rfl _ rfl w.heap.size 0 rfl _ rfl hr0 ?_)
    refine (HC.out).mono ?_
    rintro e w1 ⟨⟨v1, rfl, hv1⟩, hb1⟩
    obtain ⟨cs, rfl, hn1⟩ := hv1
    obtain ⟨QA, qc, QK, qd, rfl, _, _, _, _⟩ := hn1.open_
    have hres := (hb1.block _ (heap_lt X1.out)).trans X1.out
    have B1 := Lib.hid (B0.out.trans (hb1.mono B0.out.size))
    have hz0 : ((w.alloc (nodeBox n A c K d)).alloc (.cells zNodC 29)).heap.size = w.heap.size + 2 := by simp
    have HN := Lib.hid hn1
    clear hb1 hr0 hn1
    go_wp2_with (with_reducible refine gate ?_; refine wp_store_node rfl _ _ rfl (w.heap.size + 1) _ _ _ _ _ _ _ _ _ _ _ _ rfl rfl hres rfl ?_; intro w2 hw2 hu2)
    refine bodyPost_ret (v := .tuple #[.agg _, _, _]) (res_whole3' Tryd.results14 _ _ (w.heap.size + 1) rfl _ _ hw2 Tryd.underlying29 rfl nodeSize _ _ rfl rfl) rfl ⟨⟨_, rfl, _, rfl, ?_⟩, ?_⟩
    · have hz2 := hu2.size
      exact NodeP.keep (fun b hb => hu2.block b (by omega) (by omega)) (fun b hb => ⟨by omega, by omega⟩) _ _ HN.out
    · exact B1.out.trans (hu2.below (by omega) B1.out.size)
end Go.Proofs.YtaghipnheomggaaDoor
