/-
  Several texts in one file, in build order:
  - Walk of chapter 7 (reference): element.
-/
import Derived.Test.YtclhdppppgjgfaaGreatDoorH15
import Derived.Test.YtclhdppppgjgfaaGreatDoorH9
import Derived.Deep.LoopGhost
set_option linter.unusedVariables false
namespace Go.Proofs.YtclhdppppgjgfaaGreatDoor
open Go.RowKit

/-- The cells of an element that has no kids yet. -/
abbrev nodC (t : Tok) (TA : Option Addr) (tc : Nat) : Array Value := #[.int .i64 0, .string ⟨#[]⟩, .string (S t.name), .slice TA t.attrs.length tc, .slice none 0 0, .string ⟨#[]⟩, .int .i64 t.pos]
theorem Upd.drewN (w : World) (n b : Nat) : Upd b w (w.drewN n) := ⟨rfl, rfl, rfl, Nat.le_refl _, fun _ _ _ => rfl⟩
/-- What becomes of the kids. -/
def elR (t : Tok) : Except (Int × Nat) (List Node × Nat) → Except (Int × Nat) (Node × Nat)
  | .error e => .error e
  | .ok (ks, j) => .ok (.mk 0 [] t.name t.attrs ks [] t.pos, j)
theorem elemF_eq {ts : List Tok} {en f d i : Nat} {t : Tok} (h : ts[i]? = some t) : elemF ts en (f + 1) d i = if 100 < d then .error (t.pos, 9) else if t.empty = true then .ok (.mk 0 [] t.name t.attrs [] [] t.pos, i + 1) else elR t (kidsF ts en f d t.name (i + 1) []) := by
  rw [elemF, h]
  simp only
  split
  · rfl
  · split
    · rfl
    · unfold elR
      cases kidsF ts en f d t.name (i + 1) [] <;> rfl
/-- Where element stands in its loop. -/
structure ELo (ts : List Tok) (en : Nat) (A : Option Addr) (c pb : Nat) (p : Nat → Prop) (w : World) (t : Tok) (TA : Option Addr) (tc d : Nat) (K : Except (Int × Nat) (List Node × Nat)) (j f : Nat) (ks : List Node) (KA : Option Addr) (kc : Nat) (wr : World) : Prop where
  kid : kidsF ts en f d t.name j ks = K
  row : NodeRow wr (w.heap.size + 3) (fun b => p b ∨ (w.heap.size + 3 ≤ b ∧ b < wr.heap.size ∧ (Value.slice KA ks.length kc).ownBlock ≠ some b)) (.slice KA ks.length kc) ks
  res : wr.heap[w.heap.size]? = some (.cells zNodC 26 (0, 0))
  tok : wr.heap[w.heap.size + 1]? = some (.cells (tokCells t TA tc) 62 (0, 0))
  nod : wr.heap[w.heap.size + 2]? = some (.cells #[.int .i64 0, .string ⟨#[]⟩, .string (S t.name), .slice TA t.attrs.length tc, .slice KA ks.length kc, .string ⟨#[]⟩, .int .i64 t.pos] 26 (0, 0))
  par : PB wr pb A ts.length c j 0 0
  upd : Upd pb w wr
  len : ks.length ≤ j
  txt : ∀ n, ks.getLast? = some n → n.text.length ≤ j * 1000000000
/-- What element returns. -/
def ElemRes (w w' : World) (p : Nat → Prop) (pb : Nat) (A : Option Addr) (n c : Nat) (r : Except (Int × Nat) (Node × Nat)) (e : Ending) : Prop :=
  match r with
  | .error q => e = .returned zNodeV ∧ ∃ i, PB w' pb A n c i q.1 q.2
  | .ok (nd, j) => ∃ v, e = .returned v ∧ NodePV w' (fun b => p b ∨ (w.heap.size ≤ b ∧ b < w'.heap.size)) nd v ∧ PB w' pb A n c j 0 0

theorem ELo.drewN {ts : List Tok} {en : Nat} {A : Option Addr} {c pb : Nat} {p : Nat → Prop} {w : World} {t : Tok} {TA : Option Addr} {tc d : Nat} {K : Except (Int × Nat) (List Node × Nat)} {j f : Nat} {ks : List Node} {KA : Option Addr} {kc : Nat} {wr : World} (h : ELo ts en A c pb p w t TA tc d K j f ks KA kc wr) (n : Nat) : ELo ts en A c pb p w t TA tc d K j f ks KA kc (wr.drewN n) :=
  ⟨h.kid, h.row.heap (fun _ _ => rfl) (fun _ _ => rfl), h.res, h.tok, h.nod, h.par, ⟨h.upd.os, h.upd.tape, h.upd.output, h.upd.size, h.upd.block⟩, h.len, h.txt⟩
theorem ELo.below {ts : List Tok} {en : Nat} {A : Option Addr} {c pb : Nat} {p : Nat → Prop} {w : World} {t : Tok} {TA : Option Addr} {tc d : Nat} {K : Except (Int × Nat) (List Node × Nat)} {j f : Nat} {ks : List Node} {KA : Option Addr} {kc : Nat} {wr w' : World} (h : ELo ts en A c pb p w t TA tc d K j f ks KA kc wr) (hp : ∀ b, p b → b < w.heap.size) (hb : Below wr.heap.size wr w') : ELo ts en A c pb p w t TA tc d K j f ks KA kc w' :=
  ⟨h.kid, (h.row.below hb (fun b hb' => hb'.elim (fun x => Nat.lt_of_lt_of_le (hp b x) h.upd.size) (fun x => x.2.1))).more (fun b hb' => hb'.elim .inl (fun x => .inr ⟨x.1, Nat.lt_of_lt_of_le x.2.1 hb.size, x.2.2⟩)), (hb.block _ (heap_lt h.res)).trans h.res, (hb.block _ (heap_lt h.tok)).trans h.tok, (hb.block _ (heap_lt h.nod)).trans h.nod, h.par.below hb, h.upd.next hb, h.len, h.txt⟩
theorem Upd.next2 {b c : Nat} {w w1 w2 : World} (h : Upd b w w1) (k : Upd c w1 w2) (hc : w.heap.size ≤ c) : Upd b w w2 :=
  ⟨k.os.trans h.os, k.tape.trans h.tape, k.output.trans h.output, Nat.le_trans h.size k.size, fun i hi hb => (k.block i (Nat.lt_of_lt_of_le hi h.size) (by omega)).trans (h.block i hi hb)⟩

theorem elemF_text {ts : List Tok} {en : Nat} : ∀ {f d i : Nat} {n : Node} {j : Nat}, elemF ts en f d i = .ok (n, j) → n.text = []
  | 0, _, _, _, _, h => by rw [elemF] at h; cases h
  | f + 1, d, i, n, j, h => by
    rw [elemF] at h
    cases ht : ts[i]? with
    | none => rw [ht] at h; cases h
    | some t =>
      rw [ht] at h
      simp only at h
      split at h
      · cases h
      · split at h
        · cases h; rfl
        · cases hk : kidsF ts en f d t.name (i + 1) [] with
          | error e => rw [hk] at h; cases h
          | ok q => rw [hk] at h; cases h; rfl
theorem ELo.push {ts : List Tok} {en : Nat} {A : Option Addr} {c pb : Nat} {p : Nat → Prop} {w : World} {t : Tok} {TA : Option Addr} {tc d : Nat} {K : Except (Int × Nat) (List Node × Nat)} {f : Nat} {ks : List Node} {KA : Option Addr} {kc : Nat} {V w2 : World} {B g' c' j' : Nat} {k : Node}
    (hp : ∀ b, p b → b < w.heap.size ∧ b ≠ pb) (hlt : pb < w.heap.size) (hkid : kidsF ts en f d t.name j' (ks ++ [k]) = K) (hlen : ks.length + 1 ≤ j') (htxt : k.text.length ≤ j' * 1000000000)
    (hres : V.heap[w.heap.size]? = some (.cells zNodC 26 (0, 0))) (htok : V.heap[w.heap.size + 1]? = some (.cells (tokCells t TA tc) 62 (0, 0))) (hpar : PB V pb A ts.length c j' 0 0) (hupd : Upd pb w V)
    (hB : Below B V w2) (hBV : B ≤ V.heap.size) (hkb : w.heap.size + 2 < B)
    (hnod : w2.heap[w.heap.size + 2]? = some (.cells #[.int .i64 0, .string ⟨#[]⟩, .string (S t.name), .slice TA t.attrs.length tc, .slice KA ks.length kc, .string ⟨#[]⟩, .int .i64 t.pos] 26 (0, 0)))
    (P7 : Nat → Prop) (hP : ∀ b, P7 b → p b ∨ (w.heap.size + 3 ≤ b ∧ b < B)) (hg : B ≤ g')
    (hrow : NodeRow w2 (w.heap.size + 3) P7 (.slice (some ⟨g', 0, none⟩) (ks.length + 1) c') (ks ++ [k])) :
    ELo ts en A c pb p w t TA tc d K j' f (ks ++ [k]) (some ⟨g', 0, none⟩) c' (w2.setCell ⟨w.heap.size + 2, 4, none⟩ (.slice (some ⟨g', 0, none⟩) (ks.length + 1) c')) := by
  have hsz := hB.size
  have hu := hupd.size
  have hset : ∀ b, b ≠ w.heap.size + 2 → (w2.setCell ⟨w.heap.size + 2, 4, none⟩ (.slice (some ⟨g', 0, none⟩) (ks.length + 1) c')).heap[b]? = w2.heap[b]? := fun b hb => Below.heap_setCell _ _ _ _ hb
  have hss : (w2.setCell ⟨w.heap.size + 2, 4, none⟩ (.slice (some ⟨g', 0, none⟩) (ks.length + 1) c')).heap.size = w2.heap.size := by simp [World.setCell]
  have hlt' := hrow.lt
  refine ⟨hkid, ?_, ((hset _ (by omega)).trans (hB.block _ (by omega))).trans hres, ((hset _ (by omega)).trans (hB.block _ (by omega))).trans htok, ?_, ?_, ?_, by simpa using hlen, ?_⟩
  · rw [show (ks ++ [k]).length = ks.length + 1 by simp]
    refine (hrow.heap (fun b hb => hset b (by have := hlt' b hb; omega)) (fun b hb => hset b (by rcases hP b hb with h | h; have := (hp b h).1; omega; omega))).more (fun b hb => ?_)
    rcases hP b hb with h | h
    · exact .inl h
    · exact .inr ⟨h.1, by rw [hss]; omega, by simp [Value.ownBlock]; omega⟩
  · rw [show (ks ++ [k]).length = ks.length + 1 by simp]
    exact heap_set hnod _
  · exact (hset pb (by omega)).trans ((hB.block pb (by omega)).trans hpar)
  · exact ⟨hB.os.trans hupd.os, hB.tape.trans hupd.tape, hB.output.trans hupd.output, by rw [hss]; omega, fun b hb hne => (hset b (by omega)).trans ((hB.block b (by omega)).trans (hupd.block b hb hne))⟩
  · intro n hn
    simp at hn
    subst hn
    exact htxt
theorem ELo.join {ts : List Tok} {en : Nat} {A : Option Addr} {c pb : Nat} {p : Nat → Prop} {w : World} {t : Tok} {TA : Option Addr} {tc d : Nat} {K : Except (Int × Nat) (List Node × Nat)} {f : Nat} {kc : Nat} {V : World} {g0 j : Nat} {xs : List Node} {m : Node} {u : Tok}
    (hp : ∀ b, p b → b < w.heap.size ∧ b ≠ pb) (hlt : pb < w.heap.size) (hm : m.kind = 1) (hkid : kidsF ts en f d t.name (j + 1) (addText (xs ++ [m]) u) = K) (hlen : xs.length + 1 ≤ j) (htm : m.text.length ≤ j * 1000000000) (htu : u.text.length ≤ 1000000000)
    (hres : V.heap[w.heap.size]? = some (.cells zNodC 26 (0, 0))) (htok : V.heap[w.heap.size + 1]? = some (.cells (tokCells t TA tc) 62 (0, 0)))
    (hnod : V.heap[w.heap.size + 2]? = some (.cells #[.int .i64 0, .string ⟨#[]⟩, .string (S t.name), .slice TA t.attrs.length tc, .slice (some ⟨g0, 0, none⟩) (xs ++ [m]).length kc, .string ⟨#[]⟩, .int .i64 t.pos] 26 (0, 0)))
    (hpar : PB V pb A ts.length c ((j : Int) + 1) 0 0) (hupd : Upd pb w V) (hg0 : w.heap.size + 3 ≤ g0)
    (P7 : Nat → Prop) (hP : ∀ b, P7 b → p b ∨ (w.heap.size + 3 ≤ b ∧ b < V.heap.size)) (hPg : ¬ P7 g0)
    (hrow : NodeRow V (w.heap.size + 3) P7 (.slice (some ⟨g0, 0, none⟩) (xs ++ [m]).length kc) (xs ++ [m])) :
    ∃ ks', ELo ts en A c pb p w t TA tc d K (j + 1) f ks' (some ⟨g0, 0, none⟩) kc ((V.setCell ⟨g0, xs.length * 7 + 5, none⟩ (.string (S (m.text ++ u.text)))).drew) := by
  cases m with
  | mk k s n ats kk tx q =>
  have hk1 : k = 1 := hm
  subst hk1
  show ∃ ks', ELo ts en A c pb p w t TA tc d K (j + 1) f ks' (some ⟨g0, 0, none⟩) kc ((V.setCell ⟨g0, xs.length * 7 + 5, none⟩ (.string (S (tx ++ u.text)))).drew)
  have hj := hrow.joinText (by simp) hPg (tx ++ u.text)
  have hset : ∀ b, b ≠ g0 → (V.setCell ⟨g0, xs.length * 7 + 5, none⟩ (.string (S (tx ++ u.text)))).drew.heap[b]? = V.heap[b]? := fun b hb => Below.heap_setCell _ _ _ _ hb
  have hss : (V.setCell ⟨g0, xs.length * 7 + 5, none⟩ (.string (S (tx ++ u.text)))).drew.heap.size = V.heap.size := by simp [World.setCell]
  have hadd : addText (xs ++ [.mk 1 s n ats kk tx q]) u = xs ++ [.mk 1 s n ats kk (tx ++ u.text) q] := by
    unfold addText
    rw [List.getLast?_concat]
    simp
  rw [hadd] at hkid
  have hul := hupd.size
  have hll : (xs ++ [Node.mk 1 s n ats kk (tx ++ u.text) q]).length = (xs ++ [Node.mk 1 s n ats kk tx q]).length := by simp
  refine ⟨xs ++ [.mk 1 s n ats kk (tx ++ u.text) q], hkid, ?_, (hset _ (by omega)).trans hres, (hset _ (by omega)).trans htok, ?_, ?_, ?_, by simp; omega, ?_⟩
  · rw [hll]
    refine NodeRow.more (NodeRow.heap (w' := (V.setCell ⟨g0, xs.length * 7 + 5, none⟩ (.string (S (tx ++ u.text)))).drew) hj (fun _ _ => rfl) (fun _ _ => rfl)) (fun b hb => ?_)
    rcases hP b hb with h | h
    · exact .inl h
    · exact .inr ⟨h.1, by show b < (World.drew _).heap.size; rw [hss]; exact h.2, fun e => by simp [Value.ownBlock] at e; exact hPg (by rw [e]; exact hb)⟩
  · rw [hll]; exact (hset _ (by omega)).trans hnod
  · have : PB (V.setCell ⟨g0, xs.length * 7 + 5, none⟩ (.string (S (tx ++ u.text)))).drew pb A ts.length c ((j : Int) + 1) 0 0 := (hset pb (by omega)).trans hpar
    rw [Int.natCast_add]; exact this
  · exact ⟨hupd.os, hupd.tape, hupd.output, by show _ ≤ (World.drew _).heap.size; rw [hss]; exact hul, fun b hb hne => (hset b (by omega)).trans (hupd.block b hb hne)⟩
  · intro y hy
    simp at hy
    subst hy
    have htm' : tx.length ≤ j * 1000000000 := htm
    show (tx ++ u.text).length ≤ _
    rw [List.length_append]
    omega

set_option maxHeartbeats 4000000 in
set_option maxRecDepth 100000 in
theorem refElement_any (ts : List Tok) (en : Nat) (A : Option Addr) (c : Nat) (pb : Nat) (p : Nat → Prop) (htl : ts.length ≤ 100000) (htx : ∀ t ∈ ts, t.text.length ≤ 1000000000) (f : Nat) : ∀ (d i : Nat) (w : World), i < ts.length → 2 * (ts.length - i) ≤ f → d ≤ 101 → PB w pb A ts.length c i 0 0 → ToksP w p (.slice A ts.length c) ts → (∀ b, p b → b < w.heap.size ∧ b ≠ pb) →
    Calls Tryz.prog 36 #[.pointer (some ⟨pb, 0, none⟩), .int .i64 d, .int .i64 en] w fun e w' => ElemRes w w' p pb A ts.length c (elemF ts en f d i) e ∧ Upd pb w w' := by
  induction f using Nat.strongRecOn with
  | _ f ih =>
    intro d i w hi hf hd hpb htk hp
    obtain ⟨tb, cs, hA, hptb, hr, hcs⟩ := htk.at_ hi
    subst hA
    obtain ⟨TA, tc, rfl, hta, htac⟩ := hcs.open_
    obtain ⟨p0, p1, p2, p3⟩ := cells4 hpb
    have hlt := hpb.lt
    have htb := hp tb hptb
    have i1 : (0 : Int) ≤ i := by omega
    have i2 : (i : Int) < ts.length := by omega
    have hne1 : ¬ (pb = w.heap.size) := by omega
    have hne2 : ¬ (tb = w.heap.size) := by omega
    have r0 := hr 0 _ rfl
    have r1 := hr 1 _ rfl
    have r2 := hr 2 _ rfl
    have r3 := hr 3 _ rfl
    have r4 := hr 4 _ rfl
    have r5 := hr 5 _ rfl
    rw [Nat.add_zero] at r0
    have ht : ts[i]? = some ts[i] := List.getElem?_eq_getElem hi
    have htxi := htx ts[i] (List.getElem_mem hi)
    generalize ts[i] = t at *
    have IH := Lib.hid ih
    clear ih
    go_enter Tryz.func36, Tryz.ntmps36
    have hU1 : Upd pb w ((w.alloc (.cells zNodC 26)).alloc (.cells (tokCells t TA tc) 62)).drew := (Upd.of_below (((Below.refl _ _).alloc (Nat.le_refl _) _).alloc (by simp) _)).drew
    have hS1 : ((w.alloc (.cells zNodC 26)).alloc (.cells (tokCells t TA tc) 62)).drew.heap.size = w.heap.size + 2 := by simp
    have hres1 : ((w.alloc (.cells zNodC 26)).alloc (.cells (tokCells t TA tc) 62)).drew.heap[w.heap.size]? = some (.cells zNodC 26 (0, 0)) := (Below.heap_alloc _ _ _ (by simp)).trans (heap_alloc_new w _)
    have htok1 : ((w.alloc (.cells zNodC 26)).alloc (.cells (tokCells t TA tc) 62)).drew.heap[w.heap.size + 1]? = some (.cells (tokCells t TA tc) 62 (0, 0)) := by
      have := heap_alloc_new (w.alloc (.cells zNodC 26)) (.cells (tokCells t TA tc) 62)
      rw [drew_heap]
      simpa using this
    have hpb1 := hpb.below (w' := ((w.alloc (.cells zNodC 26)).alloc (.cells (tokCells t TA tc) 62)).drew) ((((Below.refl _ _).alloc (Nat.le_refl _) _).alloc (by simp) _).drew)
    obtain ⟨R, hR⟩ : ∃ R, elemF ts en f d i = R := ⟨_, rfl⟩
    rw [hR]
    obtain ⟨f, rfl⟩ : ∃ g, f = g + 1 := ⟨f - 1, by omega⟩
    rw [elemF_eq ht] at hR
    have HR := Lib.hid hR
    clear hR ht
    go_wp2_with fail
    go_region
    clear p0 p1 p2 p3 r0 r1 r2 r3 r4 r5 hr
    generalize ((w.alloc (.cells zNodC 26)).alloc (.cells (tokCells t TA tc) 62)).drew = W1 at *
    obtain ⟨t0, t1, t2, t3, t4, t5⟩ := cells6 htok1
    obtain ⟨p0, p1, p2, p3⟩ := cells4 hpb1
    have HU1 := Lib.hid hU1
    have HPB1 := Lib.hid hpb1
    have HTOK1 := Lib.hid htok1
    clear hU1 hpb1 hpb
    by_cases hdd : 100 < d
    · have hdd' : (100 : Int) < d := by omega
      have hr := HR.out
      rw [if_pos hdd] at hr
      have HRR := Lib.hid hr
      clear hr HR hdd t0 t1 t2 t3 t4 p0 p1 p2 p3 htok1
      go_wp2_with fail
      refine (refFail_any pb _ _ _ _ _ _ _ _ W1 HPB1.out).mono ?_
      rintro e w2 ⟨rfl, hpb2, hu2⟩
      have hres := (hu2.block w.heap.size (by omega) (by omega)).trans hres1
      go_wp2_with (with_reducible refine gate ?_; refine wp_store_node rfl _ _ rfl w.heap.size _ _ _ _ _ _ _ _ _ _ _ _ rfl rfl hres rfl ?_; intro w3 hw3 hu3)
      refine bodyPost_ret (v := .agg _) (res_whole Tryz.results36 _ _ w.heap.size rfl _ _ hw3 Tryz.underlying26 rfl nodeSize) rfl ⟨?_, ?_⟩
      · rw [← HRR.out]; exact ⟨rfl, _, hpb2.upd (by omega) hu3⟩
      · exact (HU1.out.trans hu2).next2 hu3 (Nat.le_refl _)
    · have hdd' : ¬ (100 : Int) < d := by omega
      have hr := HR.out
      rw [if_neg hdd] at hr
      have HRR := Lib.hid hr
      clear hr HR hdd
      have hne3 : ¬ (pb = w.heap.size + 1) := by omega
      have hSx : (W1.setCell ⟨pb, 1, none⟩ (.int .i64 ((i : Int) + 1))).heap.size = w.heap.size + 2 := by simp [World.setCell, hS1]
      have hal : Below (W1.setCell ⟨pb, 1, none⟩ (.int .i64 ((i : Int) + 1))).heap.size (W1.setCell ⟨pb, 1, none⟩ (.int .i64 ((i : Int) + 1))) ((W1.setCell ⟨pb, 1, none⟩ (.int .i64 ((i : Int) + 1))).alloc (.cells (nodC t TA tc) 26)) := (Below.refl _ _).alloc (Nat.le_refl _) _
      have hus : Upd pb W1 (W1.setCell ⟨pb, 1, none⟩ (.int .i64 ((i : Int) + 1))) := Upd.set_ pb 1 W1 _
      have hU3 : Upd pb w ((W1.setCell ⟨pb, 1, none⟩ (.int .i64 ((i : Int) + 1))).alloc (.cells (nodC t TA tc) 26)) := (HU1.out.trans hus).alloc _
      have hpb3 : PB ((W1.setCell ⟨pb, 1, none⟩ (.int .i64 ((i : Int) + 1))).alloc (.cells (nodC t TA tc) 26)) pb _ ts.length c ((i : Int) + 1) 0 0 := (HPB1.out.move ((i : Int) + 1)).below hal
      have hkeep : ∀ k, k < w.heap.size + 2 → k ≠ pb → ((W1.setCell ⟨pb, 1, none⟩ (.int .i64 ((i : Int) + 1))).alloc (.cells (nodC t TA tc) 26)).heap[k]? = W1.heap[k]? := fun k h1 h2 => (hal.block k (by omega)).trans (hus.block k (by omega) h2)
      have hres3 := (hkeep w.heap.size (by omega) (by omega)).trans hres1
      have htok3 := (hkeep (w.heap.size + 1) (by omega) (by omega)).trans HTOK1.out
      have hnod3 : ((W1.setCell ⟨pb, 1, none⟩ (.int .i64 ((i : Int) + 1))).alloc (.cells (nodC t TA tc) 26)).heap[w.heap.size + 2]? = some (.cells (nodC t TA tc) 26 (0, 0)) := by rw [← hSx]; exact heap_alloc_new _ _
      have hS3 : ((W1.setCell ⟨pb, 1, none⟩ (.int .i64 ((i : Int) + 1))).alloc (.cells (nodC t TA tc) 26)).heap.size = w.heap.size + 3 := by simp [hS1]
      have f1 := HPB1.out.free 1
      have HRES := Lib.hid hres3
      have HTOK := Lib.hid htok3
      have HNOD := Lib.hid hnod3
      have HPB := Lib.hid hpb3
      have HU := Lib.hid hU3
      have HS3 := Lib.hid hS3
      cases hem : t.empty
      case true =>
        have hr := HRR.out
        rw [hem, if_pos rfl] at hr
        have HR4 := Lib.hid hr
        rw [hem] at t3
        have hra := range_of_heap (cs := [.int .i64 0, .string ⟨#[]⟩, .string (S t.name), .slice TA t.attrs.length tc, .slice none 0 0, .string ⟨#[]⟩, .int .i64 t.pos]) hnod3
        have hres := hres3
        clear hr HRR hpb3 hU3 hnod3 htok3 hres3 hS3 hkeep hal hus hSx htok1
        go_wp2_with (first
          | (with_reducible refine gate ?_; refine wp_load_node rfl _ rfl (w.heap.size + 2) 0 rfl _ rfl hra ?_)
          | (with_reducible refine gate ?_; refine wp_store_node rfl _ _ rfl w.heap.size _ _ _ _ _ _ _ _ _ _ _ _ rfl rfl hres rfl ?_; intro w3 hw3 hu3))
        refine bodyPost_ret (v := .agg _) (res_whole Tryz.results36 _ _ w.heap.size rfl _ _ hw3 Tryz.underlying26 rfl nodeSize) rfl ⟨?_, ?_⟩
        · rw [← HR4.out]
          refine ⟨_, rfl, ?_, HPB.out.upd (by omega) hu3⟩
          exact NodePV.of_form (n := .mk 0 [] t.name t.attrs [] [] t.pos) (hta.keep (fun k hk => (hu3.block k (by have := hp k hk; simp [hS1]; omega) (by have := hp k hk; omega)).trans (HU.out.block k (hp k hk).1 (hp k hk).2)) (fun k hk => .inl hk)) ⟨none, 0, rfl, Nat.le_refl _, .inl rfl⟩
        · exact HU.out.next2 hu3 (Nat.le_refl _)
      case false =>
        have hr := HRR.out
        rw [hem, if_neg (by decide)] at hr
        have HR4 := Lib.hid hr
        rw [hem] at t3
        clear hr HRR hpb3 hU3 hnod3 htok3 hres3 hS3 hkeep hal hus hSx htok1
        obtain ⟨K, hK⟩ : ∃ K, kidsF ts en f d t.name (i + 1) [] = K := ⟨_, rfl⟩
        have HR5 : Hid (elR t K = R) := by rw [← hK]; exact HR4.out
        have h0 : ELo ts en (some ⟨tb, 0, none⟩) c pb p w t TA tc d K (i + 1) f [] none 0 ((W1.setCell ⟨pb, 1, none⟩ (.int .i64 ((i : Int) + 1))).alloc (.cells (nodC t TA tc) 26)) := ⟨hK, NodeRow.nil _ _ _, HRES.out, HTOK.out, HNOD.out, by have := HPB.out; rw [Int.natCast_add]; exact this, HU.out, by simp, by intro n h; cases h⟩
        have H0 := Lib.hid h0
        clear HR4 hK h0 HRES HTOK HNOD HPB HU HS3 HPB1 HTOK1 HU1
        go_wp2_with fail
        go_loopg [] (ts.length - (i + 1)) (fun k wr => ∃ (j f' : Nat) (ks : List Node) (KA : Option Addr) (kc : Nat), i < j ∧ j ≤ ts.length ∧ k = ts.length - j ∧ f' ≤ f ∧ 2 * (ts.length - j) + 1 ≤ f' ∧ ELo ts en (some ⟨tb, 0, none⟩) c pb p w t TA tc d K j f' ks KA kc wr)
        case atStart => exact ⟨i + 1, f, [], none, 0, by omega, by omega, by omega, Nat.le_refl _, by omega, H0.out⟩
        case round =>
          have hd100 : d ≤ 100 := by omega
          clear H0 t0 t1 t2 t3 t4 t5 p0 p1 p2 p3 f1 hres1 hS1 hdd'
          obtain ⟨j, f', ks, KA, kc, hij, hj, hgk, hff, hf2, hlo⟩ := hrel
          have HLO := Lib.hid hlo
          have HGK := Lib.hid hgk
          have hkid := hlo.kid
          obtain ⟨p0, p1, p2, p3⟩ := cells4 hlo.par
          have hsz := heap_lt hlo.nod
          have hus := hlo.upd.size
          obtain ⟨f', rfl⟩ : ∃ g, f' = g + 1 := ⟨f' - 1, by omega⟩
          clear hlo hgk
          by_cases hjl : j < ts.length
          · have j1 : (0 : Int) ≤ j := by omega
            have j2 : (j : Int) < ts.length := by omega
            have hju : ts[j]? = some ts[j] := List.getElem?_eq_getElem hjl
            rw [kidsF, hju] at hkid
            simp only at hkid
            obtain ⟨tb', cs', hA', hptb', hr', hcs'⟩ := htk.at_ hjl
            cases hA'
            obtain ⟨UA, uc, rfl, hua, huac⟩ := hcs'.open_
            have hrw : wr.rangeAt tb (j * 6) _ := rangeAt_keep hr' (HLO.out.upd.block tb htb.1 htb.2)
            have r0 := hrw 0 _ rfl
            have r1 := hrw 1 _ rfl
            have r2 := hrw 2 _ rfl
            have r3 := hrw 3 _ rfl
            have r4 := hrw 4 _ rfl
            have r5 := hrw 5 _ rfl
            rw [Nat.add_zero] at r0
            have hutx := htx ts[j] (List.getElem_mem hjl)
            generalize ts[j] = u at *
            have HKID := Lib.hid hkid
            clear hkid hju hr' hrw
            have j3 : decide ((j : Int) < ts.length) = true := by simp; omega
            go_wp2_with fail
            go_quiet (fail)
            have HV : Hid (ELo ts en (some ⟨tb, 0, none⟩) c pb p w t TA tc d K j (f' + 1) ks KA kc (wr.drewN nq)) := HLO.out.drewN nq
            have p0' : (wr.drewN nq).cell? ⟨pb, 0, none⟩ = _ := p0
            have p1' : (wr.drewN nq).cell? ⟨pb, 1, none⟩ = _ := p1
            have r0' : (wr.drewN nq).cell? ⟨tb, j * 6, none⟩ = _ := r0
            have r1' : (wr.drewN nq).cell? ⟨tb, j * 6 + 1, none⟩ = _ := r1
            have r2' : (wr.drewN nq).cell? ⟨tb, j * 6 + 2, none⟩ = _ := r2
            have r3' : (wr.drewN nq).cell? ⟨tb, j * 6 + 3, none⟩ = _ := r3
            have r4' : (wr.drewN nq).cell? ⟨tb, j * 6 + 4, none⟩ = _ := r4
            have r5' : (wr.drewN nq).cell? ⟨tb, j * 6 + 5, none⟩ = _ := r5
            have hsz' : w.heap.size + 2 < (wr.drewN nq).heap.size := hsz
            clear p0 p1 p2 p3 r0 r1 r2 r3 r4 r5 HLO hsz hus
            generalize wr.drewN nq = V at *
            have hn1 : ¬ (pb = V.heap.size) := by omega
            have hn3 : pb < V.heap.size := by omega
            have hn4 : tb < V.heap.size := by omega
            have hn2 : ¬ (tb = V.heap.size) := by omega
            go_wp2_with fail
            go_region
            clear p0' p1' r0' r1' r2' r3' r4' r5'
            have hL5 := HV.out.below (w' := (V.alloc (.cells (tokCells u UA uc) 62)).drew) (fun b hb => (hp b hb).1) (((Below.refl _ _).alloc (Nat.le_refl _) _).drew)
            have hu5 : (V.alloc (.cells (tokCells u UA uc) 62)).drew.heap[V.heap.size]? = some (.cells (tokCells u UA uc) 62 (0, 0)) := heap_alloc_new V _
            have hs5 : (V.alloc (.cells (tokCells u UA uc) 62)).drew.heap.size = V.heap.size + 1 := by simp
            clear HV
            generalize (V.alloc (.cells (tokCells u UA uc) 62)).drew = W5 at *
            generalize V.heap.size = g at *
            obtain ⟨q0, q1, q2, q3, q4, q5⟩ := cells6 hu5
            obtain ⟨t0, t1, t2, t3, t4, t5⟩ := cells6 hL5.tok
            obtain ⟨p0, p1, p2, p3⟩ := cells4 hL5.par
            have hpf := hL5.par.free 1
            have HL5 := Lib.hid hL5
            clear hL5 hu5 t0 t2 t3 t4 t5 q2 q3
            by_cases hk2 : u.kind = 2
            · have hkid := HKID.out
              rw [if_pos hk2] at hkid
              have y1 : (u.kind == 2) = true := by rw [hk2]; rfl
              have HK2 := Lib.hid hk2
              clear hk2 HKID
              by_cases hnm : u.name = t.name
              · rw [if_pos hnm] at hkid
                have hr5 := HR5.out
                rw [← hkid] at hr5
                have HR6 := Lib.hid hr5
                have y2 : (u.name == t.name) = true := by rw [hnm]; simp
                have y3 : (u.name != t.name) = false := by rw [bne, y2]; rfl
                have hne3 : ¬ (pb = w.heap.size + 2) := by omega
                have hpb6 := HL5.out.par.move ((j : Int) + 1)
                have HPB6 := Lib.hid hpb6
                have hU6 : Upd pb W5 (W5.setCell ⟨pb, 1, none⟩ (.int .i64 ((j : Int) + 1))) := Upd.set_ pb 1 W5 _
                have HU6 := Lib.hid hU6
                have hnod6 := (hU6.block (w.heap.size + 2) (by omega) (by omega)).trans HL5.out.nod
                have hres := (hU6.block w.heap.size (by omega) (by omega)).trans HL5.out.res
                have hra := range_of_heap (cs := [.int .i64 0, .string ⟨#[]⟩, .string (S t.name), .slice TA t.attrs.length tc, .slice KA ks.length kc, .string ⟨#[]⟩, .int .i64 t.pos]) hnod6
                clear hkid hr5 hnm hpb6 hU6 hnod6 HR5
                go_wp2_with (first
                  | (with_reducible refine gate ?_; refine wp_load_node rfl _ rfl (w.heap.size + 2) 0 rfl _ rfl hra ?_)
                  | (with_reducible refine gate ?_; refine wp_store_node rfl _ _ rfl w.heap.size _ _ _ _ _ _ _ _ _ _ _ _ rfl rfl hres rfl ?_; intro w3 hw3 hu3))
                refine bodyPost_ret (v := .agg _) (res_whole Tryz.results36 _ _ w.heap.size rfl _ _ hw3 Tryz.underlying26 rfl nodeSize) rfl ⟨?_, ?_⟩
                · rw [← HR6.out]
                  refine ⟨_, rfl, ?_, HPB6.out.upd (by omega) hu3⟩
                  have hk3 : ∀ k, k < W5.heap.size → k ≠ pb → k ≠ w.heap.size → w3.heap[k]? = W5.heap[k]? := fun k h1 h2 h3 => (hu3.block k (Nat.lt_of_lt_of_le h1 HU6.out.size) h3).trans (HU6.out.block k h1 h2)
                  have hus := HL5.out.upd.size
                  have hs36 := HU6.out.size
                  have hs33 := hu3.size
                  have hrow := (HL5.out.row.nodesP (p' := fun b => p b ∨ (w.heap.size + 3 ≤ b ∧ b < W5.heap.size)) (fun b hb => hb.imp id (fun x => ⟨x.1, x.2.1⟩)) (fun b hb => .inr (HL5.out.row.lt b hb)))
                  refine NodePV.of_form (n := .mk 0 [] t.name t.attrs ks [] t.pos) (hta.keep (fun k hk => (hk3 k (by have := hp k hk; omega) (hp k hk).2 (by have := hp k hk; omega)).trans (HL5.out.upd.block k (hp k hk).1 (hp k hk).2)) (fun k hk => .inl hk)) (hrow.keep (fun k hk => ?_) (fun k hk => hk.imp id (fun x => ⟨by omega, by omega⟩)))
                  rcases hk with hk | hk
                  · exact hk3 k (by have := hp k hk; omega) (hp k hk).2 (by have := hp k hk; omega)
                  · exact hk3 k hk.2 (by omega) (by omega)
                · exact (HL5.out.upd.trans HU6.out).next2 hu3 (Nat.le_refl _)
              · rw [if_neg hnm] at hkid
                have hr5 := HR5.out
                rw [← hkid] at hr5
                have HR6 := Lib.hid hr5
                have y2 : (u.name == t.name) = false := by rw [beq_eq_false_iff_ne]; exact hnm
                have y3 : (u.name != t.name) = true := by rw [bne, y2]; rfl
                clear hkid hr5 hnm HR5
                go_wp2_with fail
                refine (refFail_any pb _ _ _ _ _ _ _ _ W5 HL5.out.par).mono ?_
                rintro e w2 ⟨rfl, hpb2, hu2⟩
                have hres := (hu2.block w.heap.size (by omega) (by omega)).trans HL5.out.res
                go_wp2_with (with_reducible refine gate ?_; refine wp_store_node rfl _ _ rfl w.heap.size _ _ _ _ _ _ _ _ _ _ _ _ rfl rfl hres rfl ?_; intro w3 hw3 hu3)
                refine bodyPost_ret (v := .agg _) (res_whole Tryz.results36 _ _ w.heap.size rfl _ _ hw3 Tryz.underlying26 rfl nodeSize) rfl ⟨?_, ?_⟩
                · rw [← HR6.out]; exact ⟨rfl, _, hpb2.upd (by omega) hu3⟩
                · exact (HL5.out.upd.trans hu2).next2 hu3 (Nat.le_refl _)
            · have hkid := HKID.out
              rw [if_neg hk2] at hkid
              have y1 : (u.kind == 2) = false := by rw [beq_eq_false_iff_ne]; exact hk2
              clear hk2 HKID
              by_cases hk1 : u.kind = 1
              · rw [if_pos hk1] at hkid
                have y2 : (u.kind == 1) = true := by rw [hk1]; rfl
                have htk5 := htk.keep (fun k hk => HL5.out.upd.block k (hp k hk).1 (hp k hk).2) (fun _ h => h)
                have hcall := IH.out f' (by omega) (d + 1) j W5 hjl (by omega) (by omega) HL5.out.par htk5 (fun b hb => ⟨Nat.lt_of_lt_of_le (hp b hb).1 HL5.out.upd.size, (hp b hb).2⟩)
                rw [Int.natCast_add] at hcall
                clear hk1 htk5
                cases hel : elemF ts en f' (d + 1) j with
                | error q =>
                  have hq := elemF_err hjl (by omega) hel
                  rw [hel] at hcall hkid
                  simp only at hkid
                  have hr5 := HR5.out
                  rw [← hkid] at hr5
                  have HR6 := Lib.hid hr5
                  have HC := Lib.hid hcall
                  have t8 : ((q.2 : Int) == 0) = false := by rw [beq_eq_false_iff_ne]; omega
                  have t9 : ((q.2 : Int) != 0) = true := by rw [bne, t8]; rfl
                  clear hq hcall hel hkid hr5 HR5
                  go_wp2_with fail
                  refine HC.out.mono ?_
                  rintro e w6 ⟨⟨rfl, jj, hpb6⟩, hu6⟩
                  have hal : Below w6.heap.size w6 (w6.alloc (.cells zNodC 26)) := (Below.refl _ _).alloc (Nat.le_refl _) _
                  have hs6 := hu6.size
                  have hus := HL5.out.upd.size
                  have hpb7 := hpb6.below hal
                  have hres := (hal.block w.heap.size (by omega)).trans ((hu6.block w.heap.size (by omega) (by omega)).trans HL5.out.res)
                  have hra := range_of_heap (cs := [.int .i64 0, .string ⟨#[]⟩, .string ⟨#[]⟩, .slice none 0 0, .slice none 0 0, .string ⟨#[]⟩, .int .i64 0]) (heap_alloc_new w6 (.cells zNodC 26))
                  have p3' : w6.cell? ⟨pb, 3, none⟩ = some (.int .i64 q.2) := (cells4 hpb6).2.2.2
                  have hn6 : pb < w6.heap.size := by omega
                  have hn7 : ¬ (pb = w6.heap.size) := by omega
                  have HU7 := Lib.hid ((HL5.out.upd.trans hu6).alloc (.cells zNodC 26))
                  have HPB7 := Lib.hid hpb7
                  clear p0 p1 p2 p3 hpf hal hpb7 hpb6
                  go_wp2_with (first
                    | (with_reducible refine gate ?_; refine wp_load_node rfl _ rfl w6.heap.size 0 rfl _ rfl hra ?_)
                    | (with_reducible refine gate ?_; refine wp_store_node rfl _ _ rfl w.heap.size _ _ _ _ _ _ _ _ _ _ _ _ rfl rfl hres rfl ?_; intro w3 hw3 hu3))
                  refine bodyPost_ret (v := .agg _) (res_whole Tryz.results36 _ _ w.heap.size rfl _ _ hw3 Tryz.underlying26 rfl nodeSize) rfl ⟨?_, ?_⟩
                  · rw [← HR6.out]; exact ⟨rfl, _, HPB7.out.upd (by omega) hu3⟩
                  · exact HU7.out.next2 hu3 (Nat.le_refl _)
                | ok q =>
                  obtain ⟨k, j'⟩ := q
                  have hjj := elemF_ok hel
                  have htx5 := elemF_text hel
                  rw [hel] at hcall hkid
                  simp only at hkid
                  have HKD := Lib.hid hkid
                  have HC := Lib.hid hcall
                  clear hcall hel hkid
                  go_wp2_with fail
                  refine HC.out.mono ?_
                  rintro e w6 ⟨⟨v, rfl, hkv, hpb6⟩, hu6⟩
                  obtain ⟨cs, rfl, hkn⟩ := hkv
                  obtain ⟨NA, nc, NK, nd, rfl, hna, hnk, hnac, hnkd⟩ := hkn.open_
                  have hal : Below w6.heap.size w6 (w6.alloc (.cells #[.int .i64 k.kind, .string (S k.space), .string (S k.name), .slice NA k.attrs.length nc, .slice NK k.kids.length nd, .string (S k.text), .int .i64 k.pos] 26)) := (Below.refl _ _).alloc (Nat.le_refl _) _
                  have hs6 := hu6.size
                  have hus := HL5.out.upd.size
                  have hn6 : pb < w6.heap.size := by omega
                  have hn7 : ¬ (pb = w6.heap.size) := by omega
                  have p3' : w6.cell? ⟨pb, 3, none⟩ = some (.int .i64 0) := (cells4 hpb6).2.2.2
                  clear p0 p1 p2 p3 hpf
                  have hown := HL5.out.row.lt
                  have hrow6 : NodeRow w6 (w.heap.size + 3) (fun b => p b ∨ (w.heap.size + 3 ≤ b ∧ b < w6.heap.size ∧ (Value.slice KA ks.length kc).ownBlock ≠ some b)) (.slice KA ks.length kc) ks :=
                    (HL5.out.row.heap (fun b hb => hu6.block b (hown b hb).2 (by have := hown b hb; omega)) (fun b hb => hu6.block b (hb.elim (fun x => by have := hp b x; omega) (fun x => x.2.1)) (hb.elim (fun x => (hp b x).2) (fun x => by omega)))).more (fun b hb => hb.imp id (fun x => ⟨x.1, by omega, x.2.2⟩))
                  have hPlt : ∀ b, (fun b => p b ∨ (w.heap.size + 3 ≤ b ∧ b < w6.heap.size ∧ (Value.slice KA ks.length kc).ownBlock ≠ some b)) b → b < w6.heap.size := fun b hb => hb.elim (fun x => by have := hp b x; omega) (fun x => x.2.1)
                  have hrow7 := hrow6.below hal hPlt
                  have hkP : NodeP (w6.alloc (.cells #[.int .i64 k.kind, .string (S k.space), .string (S k.name), .slice NA k.attrs.length nc, .slice NK k.kids.length nd, .string (S k.text), .int .i64 k.pos] 26)) (fun b => p b ∨ (w.heap.size + 3 ≤ b ∧ b < w6.heap.size ∧ (Value.slice KA ks.length kc).ownBlock ≠ some b)) k [.int .i64 k.kind, .string (S k.space), .string (S k.name), .slice NA k.attrs.length nc, .slice NK k.kids.length nd, .string (S k.text), .int .i64 k.pos] := NodeP.keep (fun b hb => hal.block b (hb.elim (fun x => by have := hp b x; omega) (fun x => x.2))) (fun b hb => hb.imp id (fun x => ⟨by omega, x.2, fun e => by have := hown b e; omega⟩)) k _ hkn
                  have hnod7 := (hal.block (w.heap.size + 2) (by omega)).trans ((hu6.block (w.heap.size + 2) (by omega) (by omega)).trans HL5.out.nod)
                  have htok7 := (hal.block (w.heap.size + 1) (by omega)).trans ((hu6.block (w.heap.size + 1) (by omega) (by omega)).trans HL5.out.tok)
                  have hres7 := (hal.block w.heap.size (by omega)).trans ((hu6.block w.heap.size (by omega) (by omega)).trans HL5.out.res)
                  have hpb7 := hpb6.below hal
                  have hU7 := (HL5.out.upd.trans hu6).alloc (.cells #[.int .i64 k.kind, .string (S k.space), .string (S k.name), .slice NA k.attrs.length nc, .slice NK k.kids.length nd, .string (S k.text), .int .i64 k.pos] 26)
                  have hkb := heap_alloc_new w6 (.cells #[.int .i64 k.kind, .string (S k.space), .string (S k.name), .slice NA k.attrs.length nc, .slice NK k.kids.length nd, .string (S k.text), .int .i64 k.pos] 26)
                  have hV : (w6.alloc (.cells #[.int .i64 k.kind, .string (S k.space), .string (S k.name), .slice NA k.attrs.length nc, .slice NK k.kids.length nd, .string (S k.text), .int .i64 k.pos] 26)).heap.size = w6.heap.size + 1 := by simp
                  have hlen5 := HL5.out.len
                  have HTX := Lib.hid htx5
                  clear htx5
                  clear hkn hrow6 hal hu6 hpb6
                  go_wp2_with fail
                  clear p3'
                  generalize (w6.alloc (.cells #[.int .i64 k.kind, .string (S k.space), .string (S k.name), .slice NA k.attrs.length nc, .slice NK k.kids.length nd, .string (S k.text), .int .i64 k.pos] 26)) = V7 at *
                  generalize w6.heap.size = kb at *
                  have g1 : w.heap.size + 2 < V7.heap.size := by omega
                  have g2 : kb < V7.heap.size := by omega
                  have HCL : Hid (∀ W, Below V7.heap.size V7 W → NodeRow W (w.heap.size + 3) (fun b => p b ∨ (w.heap.size + 3 ≤ b ∧ b < kb ∧ (Value.slice KA ks.length kc).ownBlock ≠ some b)) (.slice KA ks.length kc) ks ∧ NodeP W (fun b => p b ∨ (w.heap.size + 3 ≤ b ∧ b < kb ∧ (Value.slice KA ks.length kc).ownBlock ≠ some b)) k [.int .i64 k.kind, .string (S k.space), .string (S k.name), .slice NA k.attrs.length nc, .slice NK k.kids.length nd, .string (S k.text), .int .i64 k.pos] ∧ W.heap[w.heap.size + 2]? = some (.cells #[.int .i64 0, .string ⟨#[]⟩, .string (S t.name), .slice TA t.attrs.length tc, .slice KA ks.length kc, .string ⟨#[]⟩, .int .i64 t.pos] 26 (0, 0)) ∧ W.heap[kb]? = some (.cells #[.int .i64 k.kind, .string (S k.space), .string (S k.name), .slice NA k.attrs.length nc, .slice NK k.kids.length nd, .string (S k.text), .int .i64 k.pos] 26 (0, 0))) :=
                    fun W hW => ⟨hrow7.below hW (fun b hb => by have := hPlt b hb; omega), NodeP.keep (fun b hb => hW.block b (by have := hPlt b hb; omega)) (fun _ h => h) k _ hkP, (hW.block _ g1).trans hnod7, (hW.block _ g2).trans hkb⟩
                  have HPLT : Hid (∀ b, (fun b => p b ∨ (w.heap.size + 3 ≤ b ∧ b < kb ∧ (Value.slice KA ks.length kc).ownBlock ≠ some b)) b → b < V7.heap.size) := fun b hb => by have := hPlt b hb; omega
                  have HV := Lib.hid hV
                  have HPB7 := Lib.hid hpb7
                  have HU7 := Lib.hid hU7
                  have HRES7 := Lib.hid hres7
                  have HTOK7 := Lib.hid htok7
                  have hks9 : ks.length < 1000000000 := by omega
                  clear hrow7 hkP hnod7 htok7 hres7 hpb7 hU7 hkb hV hPlt HC HL5
                  obtain ⟨B7, hB7⟩ : ∃ B, B = V7.heap.size := ⟨_, rfl⟩
                  rw [← hB7] at HCL HPLT
                  have HB7 := Lib.hid hB7
                  have hz7 : B7 ≤ V7.heap.size := by omega
                  have hz8 : V7.heap.size ≤ B7 := by omega
                  clear hB7
                  refine regT_start (n := 8) (S := fun x => Below B7 V7 x) (by kernel_rfl) (by decide) ((Below.refl _ _).drew) (fun hSw => ?_)
                  change RegT _ _ _ _ _ 9 #[false, false, false, false, false, false, false, false, false] _ _
                  refine regT_take (i := 1) (oi := ⟨some 100, _, _, _, _, _⟩) (v := ?_) rfl (by kernel_rfl) (by kernel_rfl) (by kernel_rfl) (by kernel_rfl) (fun _ _ _ h => h) (Or.inl ⟨by rfl, ?_⟩) (by assumption) ?_
                  rotate_left
                  · intro x hx
                    (go_simp; try with_reducible rfl)
                  simp only [Act.put, List.setIfInBounds_toArray, List.set_cons_zero, List.set_cons_succ]
                  change RegT _ _ _ _ _ 8 #[false, true, false, false, false, false, false, false, false] _ _
                  refine regT_take (i := 2) (oi := ⟨some 101, _, _, _, _, _⟩) (v := ?_) rfl (by kernel_rfl) (by kernel_rfl) (by kernel_rfl) (by kernel_rfl) (fun _ _ _ h => h) (Or.inl ⟨by rfl, ?_⟩) (by assumption) ?_
                  rotate_left
                  · intro x hx
                    have hx4 : x.cell? ⟨w.heap.size + 2, 4, none⟩ = some (.slice KA ks.length kc) := by rw [Lib.cell_of_heap (HCL.out x hx).2.2.1]; rfl
                    (go_simp; try with_reducible rfl)
                  simp only [Act.put, List.setIfInBounds_toArray, List.set_cons_zero, List.set_cons_succ]
                  change RegT _ _ _ _ _ 7 #[false, true, true, false, false, false, false, false, false] _ _
                  refine regT_take (i := 4) (oi := ⟨some 103, _, _, _, _, _⟩) (v := ?_) rfl (by kernel_rfl) (by kernel_rfl) (by kernel_rfl) (by kernel_rfl) (fun _ _ _ h => h) (Or.inl ⟨by rfl, ?_⟩) (by assumption) ?_
                  rotate_left
                  · intro x hx
                    obtain ⟨c0, c1, c2, c3, c4, c5, c6⟩ := cells7 (HCL.out x hx).2.2.2
                    (go_simp; try with_reducible rfl)
                  simp only [Act.put, List.setIfInBounds_toArray, List.set_cons_zero, List.set_cons_succ]
                  change RegT _ _ _ _ _ 6 #[false, true, true, false, true, false, false, false, false] _ _
                  refine region_app2 (n := 8) 0 3 5 6 7 rfl rfl rfl rfl rfl rfl (by kernel_rfl) (by decide) (by kernel_rfl) (by kernel_rfl) (by kernel_rfl) (by kernel_rfl) (by kernel_rfl) (by kernel_rfl) (by kernel_rfl) (by kernel_rfl) (by kernel_rfl) (w.heap.size + 3) (fun b => p b ∨ (w.heap.size + 3 ≤ b ∧ b < kb ∧ (Value.slice KA ks.length kc).ownBlock ≠ some b)) KA kc ks k _ _ _ _ _ _ _ (w.heap.size + 2) (by rfl) (by rfl) (by rfl) hSw HB7.out (by omega) hks9 HPLT.out (fun W hW => ⟨(HCL.out W hW).1, (HCL.out W hW).2.1, (Lib.cell_of_heap (HCL.out W hW).2.2.1 4).trans rfl, Lib.frozen_of_heap (HCL.out W hW).2.2.1 4⟩) (fun eb kb2 v1 g' c' w2 hg8 z1 s2 => ?_)
                  simp only [Act.put, List.setIfInBounds_toArray, List.set_cons_zero, List.set_cons_succ]
                  have hz2 := s2.size
                  go_wp2_with fail
                  go_roundg (ts.length - j')
                  case measure => have := HGK.out; omega
                  case rel => exact ⟨j', f', ks ++ [k], some ⟨g', 0, none⟩, c', by omega, by omega, rfl, by omega, by omega, ELo.push hp hlt HKD.out (by omega) (by rw [HTX.out]; simp) HRES7.out HTOK7.out HPB7.out HU7.out s2 hz7 (by omega) (HCL.out _ s2).2.2.1 (fun b => p b ∨ (w.heap.size + 3 ≤ b ∧ b < kb ∧ (Value.slice KA ks.length kc).ownBlock ≠ some b)) (fun b hb => hb.imp id (fun x => ⟨x.1, by omega⟩)) hg8 z1⟩
              · rw [if_neg hk1] at hkid
                have y2 : (u.kind == 1) = false := by rw [beq_eq_false_iff_ne]; exact hk1
                have HKD := Lib.hid hkid
                clear hk1 hkid q1 t1
                have hne3 : ¬ (pb = w.heap.size + 2) := by omega
                have hU8 : Upd pb W5 (W5.setCell ⟨pb, 1, none⟩ (.int .i64 ((j : Int) + 1))) := Upd.set_ pb 1 W5 _
                have hpb8 := HL5.out.par.move ((j : Int) + 1)
                have hown := HL5.out.row.lt
                have hus := HL5.out.upd.size
                have hkeep : ∀ b, b < W5.heap.size → b ≠ pb → (W5.setCell ⟨pb, 1, none⟩ (.int .i64 ((j : Int) + 1))).heap[b]? = W5.heap[b]? := hU8.block
                have hPlt : ∀ b, (fun b => p b ∨ (w.heap.size + 3 ≤ b ∧ b < W5.heap.size ∧ (Value.slice KA ks.length kc).ownBlock ≠ some b)) b → b < W5.heap.size := fun b hb => hb.elim (fun x => by have := hp b x; omega) (fun x => x.2.1)
                have hrow8 : NodeRow (W5.setCell ⟨pb, 1, none⟩ (.int .i64 ((j : Int) + 1))) (w.heap.size + 3) (fun b => p b ∨ (w.heap.size + 3 ≤ b ∧ b < W5.heap.size ∧ (Value.slice KA ks.length kc).ownBlock ≠ some b)) (.slice KA ks.length kc) ks := HL5.out.row.heap (fun b hb => hkeep b (hown b hb).2 (by have := hown b hb; omega)) (fun b hb => hkeep b (hPlt b hb) (hb.elim (fun x => (hp b x).2) (fun x => by omega)))
                have hnod8 := (hkeep (w.heap.size + 2) (by omega) (by omega)).trans HL5.out.nod
                have htok8 := (hkeep (w.heap.size + 1) (by omega) (by omega)).trans HL5.out.tok
                have hres8 := (hkeep w.heap.size (by omega) (by omega)).trans HL5.out.res
                have hu8 := HL5.out.upd.trans hU8
                have hs8 : (W5.setCell ⟨pb, 1, none⟩ (.int .i64 ((j : Int) + 1))).heap.size = W5.heap.size := by simp [World.setCell]
                have hlen5 := HL5.out.len
                have htxt5 := HL5.out.txt
                have qq4 : (W5.setCell ⟨pb, 1, none⟩ (.int .i64 ((j : Int) + 1))).cell? ⟨g, 4, none⟩ = some (.string (S u.text)) := (World.cell?_of_block (a := ⟨g, 4, none⟩) (hkeep g (by omega) (by omega))).trans q4
                have qq5 : (W5.setCell ⟨pb, 1, none⟩ (.int .i64 ((j : Int) + 1))).cell? ⟨g, 5, none⟩ = some (.int .i64 u.pos) := (World.cell?_of_block (a := ⟨g, 5, none⟩) (hkeep g (by omega) (by omega))).trans q5
                have HKEEP := Lib.hid hkeep
                have HU8 := Lib.hid hu8
                have HS8 := Lib.hid hs8
                have HPB8 := Lib.hid hpb8
                have HRES8 := Lib.hid hres8
                have HTOK8 := Lib.hid htok8
                have HTXT := Lib.hid htxt5
                have HROW8 := Lib.hid hrow8
                have HNOD8 := Lib.hid hnod8
                have HPLT := Lib.hid hPlt
                have HOWN := Lib.hid hown
                clear hkeep hu8 hs8 hpb8 hres8 htok8 htxt5 hrow8 hnod8 hU8 hPlt hown q4 q5
                have n4 : (W5.setCell ⟨pb, 1, none⟩ (.int .i64 ((j : Int) + 1))).cell? ⟨w.heap.size + 2, 4, none⟩ = some (.slice KA ks.length kc) := by rw [Lib.cell_of_heap HNOD8.out]; rfl
                rcases List.eq_nil_or_concat ks with hks | ⟨xs, m, hks⟩
                · have k0 : ks.length ≤ 0 := by rw [hks]; simp
                  have k1 : ¬ (0 : Int) ≤ (ks.length : Int) - 1 := by omega
                  have k2 : ¬ (1 : Int) ≤ (ks.length : Int) := by omega
                  have k3 : decide ((0 : Int) ≤ (ks.length : Int) - 1) = false := decide_eq_false k1
                  have k4 : decide ((1 : Int) ≤ (ks.length : Int)) = false := decide_eq_false k2
                  have HADD : Hid (addText ks u = ks ++ [.mk 1 [] [] [] [] u.text u.pos]) := by rw [hks]; rfl
                  clear hks
                  go_wp2_with fail
                  have HCL : Hid (∀ W, Below (W5.setCell ⟨pb, 1, none⟩ (.int .i64 ((j : Int) + 1))).heap.size (W5.setCell ⟨pb, 1, none⟩ (.int .i64 ((j : Int) + 1))) W → NodeRow W (w.heap.size + 3) (fun b => p b ∨ (w.heap.size + 3 ≤ b ∧ b < W5.heap.size ∧ (Value.slice KA ks.length kc).ownBlock ≠ some b)) (.slice KA ks.length kc) ks ∧ NodeP W (fun b => p b ∨ (w.heap.size + 3 ≤ b ∧ b < W5.heap.size ∧ (Value.slice KA ks.length kc).ownBlock ≠ some b)) (.mk 1 [] [] [] [] u.text u.pos) [.int .i64 1, .string ⟨#[]⟩, .string ⟨#[]⟩, .slice none 0 0, .slice none 0 0, .string (S u.text), .int .i64 u.pos] ∧ W.heap[w.heap.size + 2]? = some (.cells #[.int .i64 0, .string ⟨#[]⟩, .string (S t.name), .slice TA t.attrs.length tc, .slice KA ks.length kc, .string ⟨#[]⟩, .int .i64 t.pos] 26 (0, 0)) ∧ W.cell? ⟨g, 4, none⟩ = some (.string (S u.text)) ∧ W.cell? ⟨g, 5, none⟩ = some (.int .i64 u.pos)) :=
                    fun W hW => ⟨HROW8.out.below hW (fun b hb => by have := HPLT.out b hb; have := HS8.out; omega), NodeP.of_form (n := .mk 1 [] [] [] [] u.text u.pos) ⟨none, 0, rfl, Nat.le_refl _, .inl rfl⟩ ⟨none, 0, rfl, Nat.le_refl _, .inl rfl⟩, (hW.block _ (by have := HS8.out; omega)).trans HNOD8.out, (hW.cell (p := ⟨g, 4, none⟩) (by show g < _; have := HS8.out; omega)).trans qq4, (hW.cell (p := ⟨g, 5, none⟩) (by show g < _; have := HS8.out; omega)).trans qq5⟩
                  have hks9 : ks.length < 1000000000 := by omega
                  clear HROW8 HNOD8 qq4 qq5 n4
                  have HPLT7 : Hid (∀ b, (fun b => p b ∨ (w.heap.size + 3 ≤ b ∧ b < W5.heap.size ∧ (Value.slice KA ks.length kc).ownBlock ≠ some b)) b → b < (W5.setCell ⟨pb, 1, none⟩ (.int .i64 ((j : Int) + 1))).heap.size) := fun b hb => by have := HPLT.out b hb; have := HS8.out; omega
                  have g1 : w.heap.size + 2 < (W5.setCell ⟨pb, 1, none⟩ (.int .i64 ((j : Int) + 1))).heap.size := by have := HS8.out; omega
                  clear HPLT HS8 HKEEP
                  have HPLT := HPLT7
                  clear HPLT7
                  generalize (W5.setCell ⟨pb, 1, none⟩ (.int .i64 ((j : Int) + 1))) = V7 at *
                  obtain ⟨B7, hB7⟩ : ∃ B, B = V7.heap.size := ⟨_, rfl⟩
                  rw [← hB7] at HCL HPLT
                  have HB7 := Lib.hid hB7
                  have hz7 : B7 ≤ V7.heap.size := by omega
                  have hz8 : V7.heap.size ≤ B7 := by omega
                  clear hB7
                  refine regT_start (n := 12) (S := fun x => Below B7 V7 x) (by kernel_rfl) (by decide) ((Below.refl _ _).drew) (fun hSw => ?_)
                  change RegT _ _ _ _ _ 13 #[false, false, false, false, false, false, false, false, false, false, false, false, false] _ _
                  refine regT_take (i := 1) (oi := ⟨some 141, _, _, _, _, _⟩) (v := ?_) rfl (by kernel_rfl) (by kernel_rfl) (by kernel_rfl) (by kernel_rfl) (fun _ _ _ h => h) (Or.inl ⟨by rfl, ?_⟩) (by assumption) ?_
                  rotate_left
                  · intro x hx
                    (go_simp; try with_reducible rfl)
                  simp only [Act.put, List.setIfInBounds_toArray, List.set_cons_zero, List.set_cons_succ]
                  change RegT _ _ _ _ _ 12 #[false, true, false, false, false, false, false, false, false, false, false, false, false] _ _
                  refine regT_take (i := 2) (oi := ⟨some 142, _, _, _, _, _⟩) (v := ?_) rfl (by kernel_rfl) (by kernel_rfl) (by kernel_rfl) (by kernel_rfl) (fun _ _ _ h => h) (Or.inl ⟨by rfl, ?_⟩) (by assumption) ?_
                  rotate_left
                  · intro x hx
                    have hx4 : x.cell? ⟨w.heap.size + 2, 4, none⟩ = some (.slice KA ks.length kc) := by rw [Lib.cell_of_heap (HCL.out x hx).2.2.1]; rfl
                    (go_simp; try with_reducible rfl)
                  simp only [Act.put, List.setIfInBounds_toArray, List.set_cons_zero, List.set_cons_succ]
                  change RegT _ _ _ _ _ 11 #[false, true, true, false, false, false, false, false, false, false, false, false, false] _ _
                  refine regT_take (i := 4) (oi := ⟨some 144, _, _, _, _, _⟩) (v := ?_) rfl (by kernel_rfl) (by kernel_rfl) (by kernel_rfl) (by kernel_rfl) (fun _ _ _ h => h) (Or.inl ⟨by rfl, ?_⟩) (by assumption) ?_
                  rotate_left
                  · intro x hx
                    (go_simp; try with_reducible rfl)
                  simp only [Act.put, List.setIfInBounds_toArray, List.set_cons_zero, List.set_cons_succ]
                  change RegT _ _ _ _ _ 10 #[false, true, true, false, true, false, false, false, false, false, false, false, false] _ _
                  refine regT_take (i := 5) (oi := ⟨some 145, _, _, _, _, _⟩) (v := ?_) rfl (by kernel_rfl) (by kernel_rfl) (by kernel_rfl) (by kernel_rfl) (fun _ _ _ h => h) (Or.inl ⟨by rfl, ?_⟩) (by assumption) ?_
                  rotate_left
                  · intro x hx
                    have hx4 := (HCL.out x hx).2.2.2.1
                    (go_simp; try with_reducible rfl)
                  simp only [Act.put, List.setIfInBounds_toArray, List.set_cons_zero, List.set_cons_succ]
                  change RegT _ _ _ _ _ 9 #[false, true, true, false, true, true, false, false, false, false, false, false, false] _ _
                  refine regT_take (i := 6) (oi := ⟨some 146, _, _, _, _, _⟩) (v := ?_) rfl (by kernel_rfl) (by kernel_rfl) (by kernel_rfl) (by kernel_rfl) (fun _ _ _ h => h) (Or.inl ⟨by rfl, ?_⟩) (by assumption) ?_
                  rotate_left
                  · intro x hx
                    (go_simp; try with_reducible rfl)
                  simp only [Act.put, List.setIfInBounds_toArray, List.set_cons_zero, List.set_cons_succ]
                  change RegT _ _ _ _ _ 8 #[false, true, true, false, true, true, true, false, false, false, false, false, false] _ _
                  refine regT_take (i := 7) (oi := ⟨some 147, _, _, _, _, _⟩) (v := ?_) rfl (by kernel_rfl) (by kernel_rfl) (by kernel_rfl) (by kernel_rfl) (fun _ _ _ h => h) (Or.inl ⟨by rfl, ?_⟩) (by assumption) ?_
                  rotate_left
                  · intro x hx
                    have hx5 := (HCL.out x hx).2.2.2.2
                    (go_simp; try with_reducible rfl)
                  simp only [Act.put, List.setIfInBounds_toArray, List.set_cons_zero, List.set_cons_succ]
                  change RegT _ _ _ _ _ 7 #[false, true, true, false, true, true, true, true, false, false, false, false, false] _ _
                  refine regT_take (i := 8) (oi := ⟨some 148, _, _, _, _, _⟩) (v := ?_) rfl (by kernel_rfl) (by kernel_rfl) (by kernel_rfl) (by kernel_rfl) (fun _ _ _ h => h) (Or.inl ⟨by rfl, ?_⟩) (by assumption) ?_
                  rotate_left
                  · intro x hx
                    (go_simp; try with_reducible rfl)
                  simp only [Act.put, List.setIfInBounds_toArray, List.set_cons_zero, List.set_cons_succ]
                  change RegT _ _ _ _ _ 6 #[false, true, true, false, true, true, true, true, true, false, false, false, false] _ _
                  refine region_app2 (n := 12) 0 3 9 10 11 rfl rfl rfl rfl rfl rfl (by kernel_rfl) (by decide) (by kernel_rfl) (by kernel_rfl) (by kernel_rfl) (by kernel_rfl) (by kernel_rfl) (by kernel_rfl) (by kernel_rfl) (by kernel_rfl) (by kernel_rfl) (w.heap.size + 3) (fun b => p b ∨ (w.heap.size + 3 ≤ b ∧ b < W5.heap.size ∧ (Value.slice KA ks.length kc).ownBlock ≠ some b)) KA kc ks (.mk 1 [] [] [] [] u.text u.pos) _ _ _ _ _ _ _ (w.heap.size + 2) (by rfl) (by rfl) (by rfl) hSw HB7.out (by omega) hks9 HPLT.out (fun W hW => ⟨(HCL.out W hW).1, (HCL.out W hW).2.1, (Lib.cell_of_heap (HCL.out W hW).2.2.1 4).trans rfl, Lib.frozen_of_heap (HCL.out W hW).2.2.1 4⟩) (fun eb kb2 v1 g' c' w2 hg8 z1 s2 => ?_)
                  simp only [Act.put, List.setIfInBounds_toArray, List.set_cons_zero, List.set_cons_succ]
                  have hz2 := s2.size
                  have hkd := HKD.out
                  rw [HADD.out] at hkd
                  have hut : u.text.length ≤ (j + 1) * 1000000000 := by omega
                  go_wp2_with fail
                  go_roundg (ts.length - (j + 1))
                  case measure => have := HGK.out; omega
                  case rel => exact ⟨j + 1, f', ks ++ [(.mk 1 [] [] [] [] u.text u.pos)], some ⟨g', 0, none⟩, c', by omega, by omega, rfl, by omega, by omega, ELo.push (k := (.mk 1 [] [] [] [] u.text u.pos)) hp hlt hkd (by omega) hut HRES8.out HTOK8.out (by have := HPB8.out; rw [Int.natCast_add]; exact this) HU8.out s2 hz7 (by omega) (HCL.out _ s2).2.2.1 (fun b => p b ∨ (w.heap.size + 3 ≤ b ∧ b < W5.heap.size ∧ (Value.slice KA ks.length kc).ownBlock ≠ some b)) (fun b hb => (Classical.em (p b)).elim .inl (fun hn => .inr ⟨(hb.resolve_left hn).1, HPLT.out b hb⟩)) hg8 z1⟩
                · have hkl1 : 1 ≤ ks.length := by rw [hks]; simp
                  have k1 : (0 : Int) ≤ (ks.length : Int) - 1 := by omega
                  have k2 : (1 : Int) ≤ (ks.length : Int) := by omega
                  have k3 : decide ((0 : Int) ≤ (ks.length : Int) - 1) = true := decide_eq_true k1
                  have k4 : decide ((1 : Int) ≤ (ks.length : Int)) = true := decide_eq_true k2
                  have k5 : (ks.length : Int) - 1 < ks.length := by omega
                  have k6 : ((ks.length : Int) - 1).toNat = ks.length - 1 := by omega
                  obtain ⟨g0, hKA, hg0, hg0l⟩ := HROW8.out.ptr hkl1
                  subst hKA
                  obtain ⟨cs0, hm0, hr0⟩ := HROW8.out.at_ (i := ks.length - 1) (by omega)
                  obtain ⟨A0, c0, K0, d0, hcs0, _, _, _, _⟩ := hm0.open_
                  have hge : ks[ks.length - 1]'(by omega) = m := by subst hks; simp
                  rw [hge] at hcs0
                  have m0 : (W5.setCell ⟨pb, 1, none⟩ (.int .i64 ((j : Int) + 1))).cell? ⟨g0, (ks.length - 1) * 7, none⟩ = some (.int .i64 m.kind) := hr0 0 _ (by rw [hcs0]; rfl)
                  have m5 : (W5.setCell ⟨pb, 1, none⟩ (.int .i64 ((j : Int) + 1))).cell? ⟨g0, (ks.length - 1) * 7 + 5, none⟩ = some (.string (S m.text)) := hr0 5 _ (by rw [hcs0]; rfl)
                  have HKS := Lib.hid hks
                  have K6 := Lib.hid k6
                  clear hks hge hcs0 hm0 hr0 k6
                  by_cases hmk : m.kind = 1
                  · have y3 : (m.kind == 1) = true := by rw [hmk]; rfl
                    have hmt : m.text.length ≤ j * 1000000000 := HTXT.out m (by rw [HKS.out]; simp)
                    have HMK := Lib.hid hmk
                    have hsz8 : ¬ 9223372036854775807 < m.text.length + u.text.length := by omega
                    clear hmk
                    go_wp2_with fail
                    have f5 : (W5.setCell ⟨pb, 1, none⟩ (.int .i64 ((j : Int) + 1))).frozen? ⟨g0, (ks.length - 1) * 7 + 5, none⟩ = false := HROW8.out.free _
                    have HJ : Hid (∃ ks', ELo ts en (some ⟨tb, 0, none⟩) c pb p w t TA tc d K (j + 1) f' ks' (some ⟨g0, 0, none⟩) kc (((W5.setCell ⟨pb, 1, none⟩ (.int .i64 ((j : Int) + 1))).setCell ⟨g0, (ks.length - 1) * 7 + 5, none⟩ (.string (S (m.text ++ u.text)))).drew)) := by
                      show ∃ ks', _
                      have hks := HKS.out
                      rw [List.concat_eq_append] at hks
                      have hkd := HKD.out
                      have hrw := HROW8.out
                      have hno := HNOD8.out
                      have hx : ks.length - 1 = xs.length := by rw [hks]; simp
                      have hpg := hrw.lt
                      have hgp : ¬ (fun b => p b ∨ (w.heap.size + 3 ≤ b ∧ b < W5.heap.size ∧ (Value.slice (some ⟨g0, 0, none⟩) ks.length kc).ownBlock ≠ some b)) g0 := fun h => h.elim (fun x => by have := hp g0 x; omega) (fun x => x.2.2 rfl)
                      have hP7 := HPLT.out
                      have hs8' := HS8.out
                      rw [hx]
                      subst hks
                      exact ELo.join hp hlt HMK.out hkd (by simp at hlen5; omega) hmt hutx HRES8.out HTOK8.out hno HPB8.out HU8.out hg0 _ (fun b hb => (Classical.em (p b)).elim .inl (fun hn => .inr ⟨(hb.resolve_left hn).1, by have := hP7 b hb; omega⟩)) hgp hrw
                    generalize (W5.setCell ⟨pb, 1, none⟩ (.int .i64 ((j : Int) + 1))) = V7 at *
                    go_region
                    go_wp2_with fail
                    obtain ⟨ks', hj'⟩ := HJ.out
                    go_roundg (ts.length - (j + 1))
                    case measure => have := HGK.out; omega
                    case rel => exact ⟨j + 1, f', ks', _, _, by omega, by omega, rfl, by omega, by omega, hj'⟩
                  · have y3 : (m.kind == 1) = false := by rw [beq_eq_false_iff_ne]; exact hmk
                    have HADD : Hid (addText ks u = ks ++ [.mk 1 [] [] [] [] u.text u.pos]) := by
                      show addText ks u = _
                      rw [HKS.out, List.concat_eq_append]
                      cases m with
                      | mk k s n ats kk t q =>
                        unfold addText
                        rw [List.getLast?_concat]
                        exact if_neg hmk
                    clear hmk
                    go_wp2_with fail
                    have HCL : Hid (∀ W, Below (W5.setCell ⟨pb, 1, none⟩ (.int .i64 ((j : Int) + 1))).heap.size (W5.setCell ⟨pb, 1, none⟩ (.int .i64 ((j : Int) + 1))) W → NodeRow W (w.heap.size + 3) (fun b => p b ∨ (w.heap.size + 3 ≤ b ∧ b < W5.heap.size ∧ (Value.slice (some ⟨g0, 0, none⟩) ks.length kc).ownBlock ≠ some b)) (.slice (some ⟨g0, 0, none⟩) ks.length kc) ks ∧ NodeP W (fun b => p b ∨ (w.heap.size + 3 ≤ b ∧ b < W5.heap.size ∧ (Value.slice (some ⟨g0, 0, none⟩) ks.length kc).ownBlock ≠ some b)) (.mk 1 [] [] [] [] u.text u.pos) [.int .i64 1, .string ⟨#[]⟩, .string ⟨#[]⟩, .slice none 0 0, .slice none 0 0, .string (S u.text), .int .i64 u.pos] ∧ W.heap[w.heap.size + 2]? = some (.cells #[.int .i64 0, .string ⟨#[]⟩, .string (S t.name), .slice TA t.attrs.length tc, .slice (some ⟨g0, 0, none⟩) ks.length kc, .string ⟨#[]⟩, .int .i64 t.pos] 26 (0, 0)) ∧ W.cell? ⟨g, 4, none⟩ = some (.string (S u.text)) ∧ W.cell? ⟨g, 5, none⟩ = some (.int .i64 u.pos)) :=
                      fun W hW => ⟨HROW8.out.below hW (fun b hb => by have := HPLT.out b hb; have := HS8.out; omega), NodeP.of_form (n := .mk 1 [] [] [] [] u.text u.pos) ⟨none, 0, rfl, Nat.le_refl _, .inl rfl⟩ ⟨none, 0, rfl, Nat.le_refl _, .inl rfl⟩, (hW.block _ (by have := HS8.out; omega)).trans HNOD8.out, (hW.cell (p := ⟨g, 4, none⟩) (by show g < _; have := HS8.out; omega)).trans qq4, (hW.cell (p := ⟨g, 5, none⟩) (by show g < _; have := HS8.out; omega)).trans qq5⟩
                    have hks9 : ks.length < 1000000000 := by omega
                    clear HROW8 HNOD8 qq4 qq5 n4
                    have HPLT7 : Hid (∀ b, (fun b => p b ∨ (w.heap.size + 3 ≤ b ∧ b < W5.heap.size ∧ (Value.slice (some ⟨g0, 0, none⟩) ks.length kc).ownBlock ≠ some b)) b → b < (W5.setCell ⟨pb, 1, none⟩ (.int .i64 ((j : Int) + 1))).heap.size) := fun b hb => by have := HPLT.out b hb; have := HS8.out; omega
                    have g1 : w.heap.size + 2 < (W5.setCell ⟨pb, 1, none⟩ (.int .i64 ((j : Int) + 1))).heap.size := by have := HS8.out; omega
                    clear HPLT HS8 HKEEP
                    have HPLT := HPLT7
                    clear HPLT7
                    generalize (W5.setCell ⟨pb, 1, none⟩ (.int .i64 ((j : Int) + 1))) = V7 at *
                    obtain ⟨B7, hB7⟩ : ∃ B, B = V7.heap.size := ⟨_, rfl⟩
                    rw [← hB7] at HCL HPLT
                    have HB7 := Lib.hid hB7
                    have hz7 : B7 ≤ V7.heap.size := by omega
                    have hz8 : V7.heap.size ≤ B7 := by omega
                    clear hB7
                    refine regT_start (n := 12) (S := fun x => Below B7 V7 x) (by kernel_rfl) (by decide) ((Below.refl _ _).drew) (fun hSw => ?_)
                    change RegT _ _ _ _ _ 13 #[false, false, false, false, false, false, false, false, false, false, false, false, false] _ _
                    refine regT_take (i := 1) (oi := ⟨some 141, _, _, _, _, _⟩) (v := ?_) rfl (by kernel_rfl) (by kernel_rfl) (by kernel_rfl) (by kernel_rfl) (fun _ _ _ h => h) (Or.inl ⟨by rfl, ?_⟩) (by assumption) ?_
                    rotate_left
                    · intro x hx
                      (go_simp; try with_reducible rfl)
                    simp only [Act.put, List.setIfInBounds_toArray, List.set_cons_zero, List.set_cons_succ]
                    change RegT _ _ _ _ _ 12 #[false, true, false, false, false, false, false, false, false, false, false, false, false] _ _
                    refine regT_take (i := 2) (oi := ⟨some 142, _, _, _, _, _⟩) (v := ?_) rfl (by kernel_rfl) (by kernel_rfl) (by kernel_rfl) (by kernel_rfl) (fun _ _ _ h => h) (Or.inl ⟨by rfl, ?_⟩) (by assumption) ?_
                    rotate_left
                    · intro x hx
                      have hx4 : x.cell? ⟨w.heap.size + 2, 4, none⟩ = some (.slice (some ⟨g0, 0, none⟩) ks.length kc) := by rw [Lib.cell_of_heap (HCL.out x hx).2.2.1]; rfl
                      (go_simp; try with_reducible rfl)
                    simp only [Act.put, List.setIfInBounds_toArray, List.set_cons_zero, List.set_cons_succ]
                    change RegT _ _ _ _ _ 11 #[false, true, true, false, false, false, false, false, false, false, false, false, false] _ _
                    refine regT_take (i := 4) (oi := ⟨some 144, _, _, _, _, _⟩) (v := ?_) rfl (by kernel_rfl) (by kernel_rfl) (by kernel_rfl) (by kernel_rfl) (fun _ _ _ h => h) (Or.inl ⟨by rfl, ?_⟩) (by assumption) ?_
                    rotate_left
                    · intro x hx
                      (go_simp; try with_reducible rfl)
                    simp only [Act.put, List.setIfInBounds_toArray, List.set_cons_zero, List.set_cons_succ]
                    change RegT _ _ _ _ _ 10 #[false, true, true, false, true, false, false, false, false, false, false, false, false] _ _
                    refine regT_take (i := 5) (oi := ⟨some 145, _, _, _, _, _⟩) (v := ?_) rfl (by kernel_rfl) (by kernel_rfl) (by kernel_rfl) (by kernel_rfl) (fun _ _ _ h => h) (Or.inl ⟨by rfl, ?_⟩) (by assumption) ?_
                    rotate_left
                    · intro x hx
                      have hx4 := (HCL.out x hx).2.2.2.1
                      (go_simp; try with_reducible rfl)
                    simp only [Act.put, List.setIfInBounds_toArray, List.set_cons_zero, List.set_cons_succ]
                    change RegT _ _ _ _ _ 9 #[false, true, true, false, true, true, false, false, false, false, false, false, false] _ _
                    refine regT_take (i := 6) (oi := ⟨some 146, _, _, _, _, _⟩) (v := ?_) rfl (by kernel_rfl) (by kernel_rfl) (by kernel_rfl) (by kernel_rfl) (fun _ _ _ h => h) (Or.inl ⟨by rfl, ?_⟩) (by assumption) ?_
                    rotate_left
                    · intro x hx
                      (go_simp; try with_reducible rfl)
                    simp only [Act.put, List.setIfInBounds_toArray, List.set_cons_zero, List.set_cons_succ]
                    change RegT _ _ _ _ _ 8 #[false, true, true, false, true, true, true, false, false, false, false, false, false] _ _
                    refine regT_take (i := 7) (oi := ⟨some 147, _, _, _, _, _⟩) (v := ?_) rfl (by kernel_rfl) (by kernel_rfl) (by kernel_rfl) (by kernel_rfl) (fun _ _ _ h => h) (Or.inl ⟨by rfl, ?_⟩) (by assumption) ?_
                    rotate_left
                    · intro x hx
                      have hx5 := (HCL.out x hx).2.2.2.2
                      (go_simp; try with_reducible rfl)
                    simp only [Act.put, List.setIfInBounds_toArray, List.set_cons_zero, List.set_cons_succ]
                    change RegT _ _ _ _ _ 7 #[false, true, true, false, true, true, true, true, false, false, false, false, false] _ _
                    refine regT_take (i := 8) (oi := ⟨some 148, _, _, _, _, _⟩) (v := ?_) rfl (by kernel_rfl) (by kernel_rfl) (by kernel_rfl) (by kernel_rfl) (fun _ _ _ h => h) (Or.inl ⟨by rfl, ?_⟩) (by assumption) ?_
                    rotate_left
                    · intro x hx
                      (go_simp; try with_reducible rfl)
                    simp only [Act.put, List.setIfInBounds_toArray, List.set_cons_zero, List.set_cons_succ]
                    change RegT _ _ _ _ _ 6 #[false, true, true, false, true, true, true, true, true, false, false, false, false] _ _
                    refine region_app2 (n := 12) 0 3 9 10 11 rfl rfl rfl rfl rfl rfl (by kernel_rfl) (by decide) (by kernel_rfl) (by kernel_rfl) (by kernel_rfl) (by kernel_rfl) (by kernel_rfl) (by kernel_rfl) (by kernel_rfl) (by kernel_rfl) (by kernel_rfl) (w.heap.size + 3) (fun b => p b ∨ (w.heap.size + 3 ≤ b ∧ b < W5.heap.size ∧ (Value.slice (some ⟨g0, 0, none⟩) ks.length kc).ownBlock ≠ some b)) (some ⟨g0, 0, none⟩) kc ks (.mk 1 [] [] [] [] u.text u.pos) _ _ _ _ _ _ _ (w.heap.size + 2) (by rfl) (by rfl) (by rfl) hSw HB7.out (by omega) hks9 HPLT.out (fun W hW => ⟨(HCL.out W hW).1, (HCL.out W hW).2.1, (Lib.cell_of_heap (HCL.out W hW).2.2.1 4).trans rfl, Lib.frozen_of_heap (HCL.out W hW).2.2.1 4⟩) (fun eb kb2 v1 g' c' w2 hg8 z1 s2 => ?_)
                    simp only [Act.put, List.setIfInBounds_toArray, List.set_cons_zero, List.set_cons_succ]
                    have hz2 := s2.size
                    have hkd := HKD.out
                    rw [HADD.out] at hkd
                    have hut : u.text.length ≤ (j + 1) * 1000000000 := by omega
                    go_wp2_with fail
                    go_roundg (ts.length - (j + 1))
                    case measure => have := HGK.out; omega
                    case rel => exact ⟨j + 1, f', ks ++ [(.mk 1 [] [] [] [] u.text u.pos)], some ⟨g', 0, none⟩, c', by omega, by omega, rfl, by omega, by omega, ELo.push (k := (.mk 1 [] [] [] [] u.text u.pos)) hp hlt hkd (by omega) hut HRES8.out HTOK8.out (by have := HPB8.out; rw [Int.natCast_add]; exact this) HU8.out s2 hz7 (by omega) (HCL.out _ s2).2.2.1 (fun b => p b ∨ (w.heap.size + 3 ≤ b ∧ b < W5.heap.size ∧ (Value.slice (some ⟨g0, 0, none⟩) ks.length kc).ownBlock ≠ some b)) (fun b hb => (Classical.em (p b)).elim .inl (fun hn => .inr ⟨(hb.resolve_left hn).1, HPLT.out b hb⟩)) hg8 z1⟩
          · have hkid' : K = .error ((en : Int), 8) := by
              rw [kidsF, List.getElem?_eq_none (by omega)] at hkid
              exact hkid.symm
            have hr5 := HR5.out
            rw [hkid'] at hr5
            have HR6 := Lib.hid hr5
            have j3 : decide ((j : Int) < ts.length) = false := by simp; omega
            have j4 : ¬ (j : Int) < ts.length := by omega
            clear hkid hkid' hr5 HR5
            go_wp2_with fail
            go_quiet (fail)
            go_wp2_with fail
            refine (refFail_any pb _ _ _ _ _ _ _ _ (wr.drewN nq) HLO.out.par).mono ?_
            rintro e w2 ⟨rfl, hpb2, hu2⟩
            have hres := (hu2.block w.heap.size (by show _ < wr.heap.size; omega) (by omega)).trans HLO.out.res
            go_wp2_with (with_reducible refine gate ?_; refine wp_store_node rfl _ _ rfl w.heap.size _ _ _ _ _ _ _ _ _ _ _ _ rfl rfl hres rfl ?_; intro w3 hw3 hu3)
            refine bodyPost_ret (v := .agg _) (res_whole Tryz.results36 _ _ w.heap.size rfl _ _ hw3 Tryz.underlying26 rfl nodeSize) rfl ⟨?_, ?_⟩
            · rw [← HR6.out]; exact ⟨rfl, _, hpb2.upd (by omega) hu3⟩
            · exact (HLO.out.upd.trans ((Upd.drewN wr nq pb).trans hu2)).next2 hu3 (Nat.le_refl _)
end Go.Proofs.YtclhdppppgjgfaaGreatDoor
