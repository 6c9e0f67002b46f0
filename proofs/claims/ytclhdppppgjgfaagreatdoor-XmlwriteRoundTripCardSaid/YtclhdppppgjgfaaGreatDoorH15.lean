/-
  Several texts in one file, in build order:
  - Walk of chapter 7's program: (*builder).data.
  - Walk of chapter 7's program: Parse.
  - Plain laws of chapter 6: how many tokens a document has, and how long their texts are. No program.
  - Walk of chapter 7's program: Parse.
  - Walks of chapter 7 (reference): the parser's block, fail.
-/
import Derived.Test.YtclhdppppgjgfaaGreatDoorH14
import Derived.Test.YtclhdppppgjgfaaGreatDoorH12
import Derived.Test.YtclhdppppgjgfaaGreatDoorH4
import Derived.Test.YtclhdppppgjgfaaGreatDoorH13
set_option linter.unusedVariables false
namespace Go.Proofs.YtclhdppppgjgfaaGreatDoor
open Go.RowKit

theorem addText_nil (u : Tok) : addText [] u = [.mk 1 [] [] [] [] u.text u.pos] := rfl
theorem addText_yes (ks : List Node) (k : Node) (u : Tok) (h : k.kind = 1) : addText (ks ++ [k]) u = ks ++ [.mk k.kind k.space k.name k.attrs k.kids (k.text ++ u.text) k.pos] := by
  obtain ⟨a, b, c, d, e, f, g⟩ := k
  simp only [Node.kind] at h
  simp [addText, h, Node.kind, Node.space, Node.name, Node.attrs, Node.kids, Node.text, Node.pos]
theorem addText_no (ks : List Node) (k : Node) (u : Tok) (h : k.kind ≠ 1) : addText (ks ++ [k]) u = ks ++ [k] ++ [.mk 1 [] [] [] [] u.text u.pos] := by
  obtain ⟨a, b, c, d, e, f, g⟩ := k
  simp only [Node.kind] at h
  simp [addText, h]

set_option maxHeartbeats 4000000 in
set_option maxRecDepth 100000 in
theorem data7_any (B b : Nat) (vo : Value) (fs : List LF) (r : Option Node) (t : Tok) (A : Option Addr) (c : Nat) (w : World) (h : BdAt w B b vo fs r) (hk : ∀ x ∈ fs, x.fr.kids.length < 100000000) (hfl : fs.length ≤ 100) (hkd : t.kind ≠ 1) (hkd2 : t.kind ≠ 2) (htl : t.text.length ≤ 1000000) (htx : ∀ x ∈ fs, ∀ k ∈ x.fr.kids, k.text.length ≤ 1000000000000000) :
    Calls Tryz.prog 33 #[.pointer (some ⟨b, 0, none⟩), .agg #[.int .i64 t.kind, .string (S t.name), .slice A t.attrs.length c, .bool t.empty, .string (S t.text), .int .i64 t.pos]] w fun e w' => StepRes w w' B b (stepM t (fs.map LF.fr) r) e ∧ Below b w w' := by
  obtain ⟨W1, hW1⟩ : ∃ W1, w.alloc (.cells #[.int .i64 t.kind, .string (S t.name), .slice A t.attrs.length c, .bool t.empty, .string (S t.text), .int .i64 t.pos] 54) = W1 := ⟨_, rfl⟩
  have hb1 : Below w.heap.size w W1 := by rw [← hW1]; exact (Below.refl _ _).alloc (Nat.le_refl _) _
  have hz1 : W1.heap.size = w.heap.size + 1 := by rw [← hW1]; simp
  have hg1 : W1.heap[w.heap.size]? = some (.cells #[.int .i64 t.kind, .string (S t.name), .slice A t.attrs.length c, .bool t.empty, .string (S t.text), .int .i64 t.pos] 54 (0, 0)) := by rw [← hW1]; exact heap_alloc_new _ _
  have h1 := h.grow hb1
  have hBw : b ≤ w.heap.size := Nat.le_of_lt (h.lt b (by simp [liveB])).2
  have hbw : b < w.heap.size := (h.lt b (by simp [liveB])).2
  obtain ⟨rc, hrc, hbk, hrn⟩ := h1.blk
  have hlen : (fs.reverse.map LF.h).length = fs.length := by simp
  obtain ⟨OA, oc, hvo, hoc⟩ := h1.row.slice
  rw [hlen] at hvo hoc
  subst hvo
  have x0 : W1.cell? ⟨b, 0, none⟩ = some (.slice OA fs.length oc) := by
    rw [Lib.cell_of_heap hbk]; rfl
  obtain ⟨y0, y1, y2, y3, y4, y5⟩ := cells6 hg1
  unfold stepM
  rw [if_neg hkd, if_neg hkd2]
  clear hkd hkd2
  have HB1 := Lib.hid hb1
  cases fs with
  | nil =>
    have hcol := fun W => collapse_any t.text W (by omega)
    have hbl := collapse_blank t.text
    have H1 := Lib.hid h1
    simp only [List.map_nil]
    generalize collapse t.text = CL at *
    cases hbb : blank t.text with
    | true =>
      rw [hbb] at hbl
      rw [if_pos rfl]
      have HC := Lib.hid hcol
      have hbl2 : (CL != []) = false := by rw [bne, hbl]; rfl
      clear hg1 h1 hbk hrn hb1 h hk hcol
      go_enter Tryz.func33, Tryz.ntmps33
      go_wp2_with (go_at_call 62; refine (HC.out _).mono ?_; rintro e w2 ⟨rfl, hb2⟩)
      go_ret
      exact ⟨⟨rfl, _, [], H1.out.grow hb2, rfl⟩, (HB1.out.mono hBw).trans (hb2.mono (by omega))⟩
    | false =>
      rw [hbb] at hbl
      rw [if_neg (by decide)]
      have HC := Lib.hid hcol
      have hbl2 : (CL != []) = true := by rw [bne, hbl]; rfl
      clear hg1 h1 hbk hrn hb1 h hk hcol
      go_enter Tryz.func33, Tryz.ntmps33
      go_wp2_with (go_at_call 62; refine (HC.out _).mono ?_; rintro e w2 ⟨rfl, hb2⟩)
      go_ret
      exact ⟨⟨rfl, HB1.out.trans (hb2.mono (by omega))⟩, (HB1.out.mono hBw).trans (hb2.mono (by omega))⟩
  | cons x fs =>
    obtain ⟨f, xh, xv⟩ := x
    obtain ⟨OG, rfl, hog1, hog2⟩ := h1.row.ptr (by simp)
    obtain ⟨pc, hpc, hpr⟩ := h1.row.at_ ptrE_ok (i := fs.length) (by simp)
    have hpx : ((⟨f, xh, xv⟩ :: fs : List LF).reverse.map LF.h)[fs.length]'(by simp) = xh := by simp
    rw [hpx] at hpc
    have hpc' : pc = [.pointer (some ⟨xh, 0, none⟩)] := hpc
    subst hpc'
    have x1 : W1.cell? ⟨OG, fs.length, none⟩ = some (.pointer (some ⟨xh, 0, none⟩)) := by
      have := hpr 0 _ rfl
      simpa [ptrE] using this
    obtain ⟨⟨FA, fc, hf1, hf2⟩, hf3⟩ := h1.frs ⟨f, xh, xv⟩ (by simp)
    simp only [frCells] at hf1
    obtain ⟨KA, kc, hxv, hkc⟩ := hf3.slice
    simp only at hf3 hxv hkc
    subst hxv
    obtain ⟨z0, z1, z2, z3, z4, z5, z6⟩ := cells7 hf1
    have hfl' : fs.length + 1 ≤ 100 := by simpa using hfl
    have hkl := hk _ (List.mem_cons_self)
    simp only at hkl
    have H1 := Lib.hid h1
    have HK := Lib.hid hk
    simp only [List.map_cons]
    have hnew : ∀ W, Below W1.heap.size W1 W → Calls Tryz.prog 61 #[.pointer (some ⟨b, 0, none⟩), .agg #[.int .i64 1, .string ⟨#[]⟩, .string ⟨#[]⟩, .slice none 0 0, .slice none 0 0, .string (S t.text), .int .i64 t.pos]] W fun e w' => e = .returned (.tuple #[]) ∧ StepRes w w' B b (.ok (⟨f.name, f.attrs, f.pos, f.kids ++ [.mk 1 [] [] [] [] t.text t.pos]⟩ :: fs.map LF.fr, r)) (.returned (.int .i64 0)) ∧ Below b W w' := fun W hW => by
      have hn2 : NodeP W (DoneP W B b (.slice (some ⟨OG, 0, none⟩) (⟨f, xh, .slice KA f.kids.length kc⟩ :: fs : List LF).length oc) (⟨f, xh, .slice KA f.kids.length kc⟩ :: fs)) (.mk 1 [] [] [] [] t.text t.pos) [.int .i64 1, .string (S []), .string (S []), .slice none 0 0, .slice none 0 0, .string (S t.text), .int .i64 t.pos] :=
        NodeP.of_form (n := .mk 1 [] [] [] [] t.text t.pos) (va := .slice none 0 0) (vk := .slice none 0 0) ⟨none, 0, rfl, Nat.le_refl _, .inl rfl⟩ ⟨none, 0, rfl, Nat.le_refl _, .inl rfl⟩
      refine (add7_any B b _ (⟨f, xh, .slice KA f.kids.length kc⟩ :: fs) r (.mk 1 [] [] [] [] t.text t.pos) _ W (H1.out.grow hW) hn2 HK.out (by simp only [List.length_cons]; omega)).mono ?_
      rintro e w' ⟨rfl, h1, h2⟩
      exact ⟨rfl, h1.step, h2⟩
    have HNEW := Lib.hid hnew
    rcases List.eq_nil_or_concat f.kids with hks | ⟨ks, kk, hks⟩
    · have hkl0 : f.kids.length = 0 := by rw [hks]; rfl
      rw [hkl0] at z4
      have hres : addText f.kids t = f.kids ++ [.mk 1 [] [] [] [] t.text t.pos] := by rw [hks]; rfl
      rw [hres]
      clear hg1 h1 hbk hrn hb1 h hk hf1 hf2 hf3 hpr hpx hpc hnew hks hres hkl0
      go_enter Tryz.func33, Tryz.ntmps33
      go_wp2_with fail
      go_quiet (fail)
      go_wp2_with (go_at_call 61; refine (HNEW.out _ (below_drewN6 (Below.refl _ _) _)).mono ?_; rintro e w3 ⟨rfl, hst, hb3⟩)
      go_ret
      exact ⟨hst, (HB1.out.mono hBw).trans ((below_drewN6 (Below.refl b W1) _).trans hb3)⟩
    · rw [List.concat_eq_append] at hks
      have hkl1 : f.kids.length = ks.length + 1 := by rw [hks]; simp
      obtain ⟨kg, rfl, hkg1, hkg2⟩ := hf3.ptr (by omega)
      obtain ⟨kcs, hkn, hkr⟩ := hf3.at_ nodeE_ok (i := ks.length) (by omega)
      have hkk : f.kids[ks.length]'(by omega) = kk := by simp [hks]
      rw [hkk] at hkn
      have hkt := htx _ (List.mem_cons_self) kk (by rw [hks]; simp)
      have hkn' : NodeP W1 _ kk kcs := hkn
      obtain ⟨A2, c2, K2, d2, rfl, ha2, hk2, _, _⟩ := hkn'.open_
      rw [hkl1] at z4
      have k0 : W1.cell? ⟨kg, ks.length * 7, none⟩ = some (.int .i64 kk.kind) := hkr 0 _ rfl
      have k5 : W1.cell? ⟨kg, ks.length * 7 + 5, none⟩ = some (.string (S kk.text)) := hkr 5 _ rfl
      have kz := hf3.free (ks.length * 7 + 5)
      by_cases hkd : kk.kind = 1
      · have en : (kk.kind == 1) = true := by simpa using hkd
        have hadt : addText f.kids t = ks ++ [.mk kk.kind kk.space kk.name kk.attrs kk.kids (kk.text ++ t.text) kk.pos] := by rw [hks, addText_yes ks kk t hkd]
        rw [hadt]
        have hfin : ∀ W, Below W1.heap.size W1 W → BdAt (W.setCell ⟨kg, ks.length * 7 + 5, none⟩ (.string (S (kk.text ++ t.text)))) B b (.slice (some ⟨OG, 0, none⟩) (⟨f, xh, .slice (some ⟨kg, 0, none⟩) f.kids.length kc⟩ :: fs : List LF).length oc) (⟨⟨f.name, f.attrs, f.pos, ks ++ [.mk kk.kind kk.space kk.name kk.attrs kk.kids (kk.text ++ t.text) kk.pos]⟩, xh, .slice (some ⟨kg, 0, none⟩) f.kids.length kc⟩ :: fs) r ∧ Below b W (W.setCell ⟨kg, ks.length * 7 + 5, none⟩ (.string (S (kk.text ++ t.text)))) := fun W hW => by
          have h2 := H1.out.grow hW
          have hbb : b ≤ b := Nat.le_refl b
          have hxb := (h2.lt xh (by simp [liveB, LF.blocks])).1
          have hkx : xh + 1 ≤ kg := hkg1
          have hs : ∀ j v, j ≠ kg → (W.setCell ⟨kg, ks.length * 7 + 5, none⟩ v).heap[j]? = W.heap[j]? := fun j v hj => Below.heap_setCell _ _ _ _ (show j ≠ (⟨kg, ks.length * 7 + 5, none⟩ : Addr).block from hj)
          refine ⟨?_, (Below.refl b W).setCell (by show b ≤ kg; omega) _⟩
          obtain ⟨⟨FA', fc', q1, q2⟩, q3⟩ := h2.frs ⟨f, xh, .slice (some ⟨kg, 0, none⟩) f.kids.length kc⟩ (by simp)
          have hpk : ∀ j, DoneP W B b (.slice (some ⟨OG, 0, none⟩) (⟨f, xh, .slice (some ⟨kg, 0, none⟩) f.kids.length kc⟩ :: fs : List LF).length oc) (⟨f, xh, .slice (some ⟨kg, 0, none⟩) f.kids.length kc⟩ :: fs) j → j ≠ kg := fun j hj e => hj.2.2 (by simp [liveB, LF.blocks, Value.ownBlock, e])
          have hown : ∀ g, (Value.slice (some ⟨kg, 0, none⟩) f.kids.length kc).ownBlock = some g → (Value.slice (some ⟨kg, 0, none⟩) f.kids.length kc).ownBlock = some g ∨ (W.heap.size ≤ g ∧ g < (W.setCell ⟨kg, ks.length * 7 + 5, none⟩ (.string (S (kk.text ++ t.text)))).heap.size) := fun g hg => .inl hg
          have hdm := done_retop (w := W) (W := W.setCell ⟨kg, ks.length * 7 + 5, none⟩ (.string (S (kk.text ++ t.text)))) (x := ⟨f, xh, .slice (some ⟨kg, 0, none⟩) f.kids.length kc⟩) (x' := ⟨⟨f.name, f.attrs, f.pos, ks ++ [.mk kk.kind kk.space kk.name kk.attrs kk.kids (kk.text ++ t.text) kk.pos]⟩, xh, .slice (some ⟨kg, 0, none⟩) f.kids.length kc⟩) (B := B) (b := b) (vo := .slice (some ⟨OG, 0, none⟩) (⟨f, xh, .slice (some ⟨kg, 0, none⟩) f.kids.length kc⟩ :: fs : List LF).length oc) (fs := fs) (by simp) rfl hown
          have q4 := q3.setCell nodeE_ok (i := ks.length) (j := 5) (by show ks.length < f.kids.length; omega) (by decide) (u := .string (S (kk.text ++ t.text))) (a := .mk kk.kind kk.space kk.name kk.attrs kk.kids (kk.text ++ t.text) kk.pos) (fun cs hcs => by
            have hcs1 : NodeP W _ (f.kids[ks.length]'(by omega)) cs := hcs
            rw [hkk] at hcs1
            obtain ⟨va, vk, rfl, e1, e2⟩ := hcs1.form
            exact NodeP.of_form (n := .mk kk.kind kk.space kk.name kk.attrs kk.kids (kk.text ++ t.text) kk.pos) e1 e2) hpk
          have hset : f.kids.set ks.length (.mk kk.kind kk.space kk.name kk.attrs kk.kids (kk.text ++ t.text) kk.pos) = ks ++ [.mk kk.kind kk.space kk.name kk.attrs kk.kids (kk.text ++ t.text) kk.pos] := by rw [hks]; simp
          simp only [hset] at q4
          refine h2.retop (x' := ⟨⟨f.name, f.attrs, f.pos, ks ++ [.mk kk.kind kk.space kk.name kk.attrs kk.kids (kk.text ++ t.text) kk.pos]⟩, xh, .slice (some ⟨kg, 0, none⟩) f.kids.length kc⟩) (fun j hj hnj => hs j _ (fun e => hnj (by simp [LF.blocks, Value.ownBlock, e]))) (by simp) rfl hown ⟨⟨FA', fc', (hs xh _ (by omega)).trans q1, q2.keep (fun j hj => hs j _ (hpk j hj)) hdm⟩, q4.more nodeE_ok hdm⟩
        have HFIN := Lib.hid hfin
        clear hg1 h1 hbk hrn hb1 h hk hf1 hf2 hf3 hpr hpx hpc hnew hks hkd hkr hkn hkn' ha2 hk2 hkk HNEW hadt hfin
        go_enter Tryz.func33, Tryz.ntmps33
        go_wp2_with fail
        go_quiet (fail)
        go_wp2_with fail
        go_region_with fail
        all_goals go_wp2_with fail
        all_goals go_ret
        all_goals (
          have hfin := HFIN.out (W1.drewN (nq + 1)) (below_drewN6 (Below.refl _ _) _)
          exact ⟨⟨rfl, _, _, hfin.1, rfl⟩, (HB1.out.mono hBw).trans ((below_drewN6 (Below.refl b W1) (nq + 1)).trans hfin.2)⟩)
      · have en : (kk.kind == 1) = false := by simpa using hkd
        rw [hks, addText_no ks kk t hkd, ← hks]
        clear hg1 h1 hbk hrn hb1 h hk hf1 hf2 hf3 hpr hpx hpc hnew hks hkd hkr hkn hkn' ha2 hk2 hkk
        go_enter Tryz.func33, Tryz.ntmps33
        go_wp2_with fail
        go_quiet (fail)
        go_wp2_with (go_at_call 61; refine (HNEW.out _ (below_drewN6 (Below.refl _ _) _)).mono ?_; rintro e w3 ⟨rfl, hst, hb3⟩)
        go_ret
        exact ⟨hst, (HB1.out.mono hBw).trans ((below_drewN6 (Below.refl b W1) _).trans hb3)⟩
end Go.Proofs.YtclhdppppgjgfaaGreatDoor
set_option linter.unusedVariables false
namespace Go.Proofs.YtclhdppppgjgfaaGreatDoor
open Go.RowKit

/-! Plain. -/
theorem consAt_kind {l : Bytes} {a : Nat} {t : Tok} {e : Nat} (h : consAt l a = .ok (t, e)) : t.kind = 1 ∨ t.kind = 2 ∨ t.kind = 3 := by
  have hsk : ∀ {k : Nat} {s : Bytes} {t : Tok} {e : Nat}, ((skipAt l a k s).map fun e => (zTok 3, e)) = .ok (t, e) → t.kind = 1 ∨ t.kind = 2 ∨ t.kind = 3 := by
    intro k s t e h
    cases hs : skipAt l a k s with
    | error q => rw [hs] at h; cases h
    | ok x => rw [hs] at h; cases h; exact .inr (.inr rfl)
  unfold consAt at h
  split at h
  · exact hsk h
  · split at h
    · exact hsk h
    · split at h
      · cases hs : skipAt l a 9 sCdEnd with
        | error q => rw [hs] at h; cases h
        | ok x => rw [hs] at h; cases h; exact .inr (.inr rfl)
      · split at h
        · cases h
        · split at h
          · cases h
          · split at h
            · exact .inr (.inl (endAt_ok h).2.2.1)
            · split at h
              · exact .inl (startAt_ok h).2.2.1
              · cases hc : cont false l a (textEnd l a) with
                | error q => rw [hc] at h; cases h
                | ok x => rw [hc] at h; cases h; exact .inr (.inr rfl)
theorem tokF_kind {l : Bytes} : ∀ (f n : Nat) (ts ls : List Tok), (∀ t ∈ ts, t.kind = 1 ∨ t.kind = 2 ∨ t.kind = 3) → tokF l f n ts = .ok ls → ∀ t ∈ ls, t.kind = 1 ∨ t.kind = 2 ∨ t.kind = 3
  | 0, _, _, _, _, h => by cases h
  | f + 1, n, ts, ls, ht, h => by
    rw [tokF] at h
    split at h
    · cases hc : consAt l n with
      | error q => rw [hc] at h; cases h
      | ok r =>
        obtain ⟨t, e⟩ := r
        rw [hc] at h
        refine tokF_kind f e _ ls (fun u hu => ?_) h
        split at hu
        · rcases List.mem_append.1 hu with h1 | h1
          · exact ht u h1
          · simp at h1; subst h1; exact consAt_kind hc
        · exact ht u hu
    · cases h; exact ht
theorem toks_kind (l : Bytes) : ∀ t ∈ (toks l).1, t.kind = 1 ∨ t.kind = 2 ∨ t.kind = 3 := by
  unfold toks
  split
  · intro t ht; cases ht
  · cases hq : tokS l (if hasAt l 0 sBom = true then 3 else 0) [] with
    | error q => intro t ht; cases ht
    | ok ls => exact tokF_kind _ _ _ _ (fun t ht => by cases ht) hq
theorem parse_mach {l : Bytes} (h : (toks l).2.2 = 0) : parse l = machL l.length (toks l).1 [] none := by
  unfold parse
  rw [if_neg (by simp [h]), mach_par (toks_kind l) (toks l).1 0 none rfl (Nat.zero_le _)]
/-- How much the open elements hold. -/
def StInv (i M : Nat) (st : List Fr) : Prop := ∀ f ∈ st, f.kids.length ≤ i ∧ ∀ k ∈ f.kids, k.text.length ≤ i * M
theorem StInv.up {i M : Nat} {st : List Fr} (h : StInv i M st) : StInv (i + 1) M st := fun f hf => ⟨by have := (h f hf).1; omega, fun k hk => by have := (h f hf).2 k hk; rw [Nat.succ_mul]; omega⟩
theorem StInv.add {i M : Nat} {st st' : List Fr} {r r' : Option Node} {n : Node} (h : StInv i M st) (hn : n.text.length ≤ M) (he : addSt st r n = (st', r')) : StInv (i + 1) M st' ∧ st'.length = st.length := by
  cases st with
  | nil => cases he; exact ⟨(fun f hf => by cases hf), rfl⟩
  | cons f st =>
    cases he
    refine ⟨fun g hg => ?_, rfl⟩
    rcases List.mem_cons.1 hg with rfl | hg
    · have h1 := h f (by simp)
      refine ⟨by simp; exact h1.1, fun k hk => ?_⟩
      simp only [List.mem_append, List.mem_singleton] at hk
      rw [Nat.succ_mul]
      rcases hk with hk | rfl
      · have := h1.2 k hk; omega
      · omega
    · exact h.up g (List.mem_cons_of_mem _ hg)
theorem stepM_inv {i M : Nat} {u : Tok} {st st' : List Fr} {r r' : Option Node} (h : StInv i M st) (hl : st.length ≤ 100) (hu : u.text.length ≤ M) (he : stepM u st r = .ok (st', r')) : StInv (i + 1) M st' ∧ st'.length ≤ 100 := by
  unfold stepM at he
  split at he
  · split at he
    · cases he
    · split at he
      · cases he
      · split at he
        · simp only [Except.ok.injEq] at he
          have := h.add (n := .mk 0 [] u.name u.attrs [] [] u.pos) (by simp [Node.text]) he
          exact ⟨this.1, by omega⟩
        · simp only [Except.ok.injEq, Prod.mk.injEq] at he
          obtain ⟨rfl, rfl⟩ := he
          refine ⟨fun f hf => ?_, by simp; omega⟩
          rcases List.mem_cons.1 hf with rfl | hf
          · exact ⟨by simp, fun k hk => by cases hk⟩
          · exact h.up f hf
  · split at he
    · cases st with
      | nil => cases he
      | cons f st =>
        simp only at he
        split at he
        · simp only [Except.ok.injEq] at he
          have h2 : StInv i M st := fun g hg => h g (List.mem_cons_of_mem _ hg)
          have := h2.add (n := f.node f.kids) (by simp [Fr.node, Node.text]) he
          exact ⟨this.1, by simp at hl; omega⟩
        · cases he
    · cases st with
      | nil =>
        simp only at he
        split at he
        · cases he; exact ⟨fun f hf => (by cases hf), by simp⟩
        · cases he
      | cons f st =>
        simp only [Except.ok.injEq, Prod.mk.injEq] at he
        obtain ⟨rfl, rfl⟩ := he
        have h1 := h f (by simp)
        refine ⟨fun g hg => ?_, by simpa using hl⟩
        rcases List.mem_cons.1 hg with rfl | hg
        · rcases List.eq_nil_or_concat f.kids with hks | ⟨ks, kk, hks⟩
          · simp only
            rw [hks, addText_nil]
            refine ⟨by simp, fun k hk => ?_⟩
            simp only [List.mem_singleton] at hk
            subst hk
            show u.text.length ≤ _
            rw [Nat.succ_mul]; omega
          · rw [List.concat_eq_append] at hks
            simp only
            rw [hks] at h1 ⊢
            by_cases hk1 : kk.kind = 1
            · rw [addText_yes ks kk u hk1]
              refine ⟨by have := h1.1; simp at this ⊢; omega, fun k hk => ?_⟩
              simp only [List.mem_append, List.mem_singleton] at hk
              rw [Nat.succ_mul]
              rcases hk with hk | rfl
              · have := h1.2 k (by simp [hk]); omega
              · have := h1.2 kk (by simp)
                show (kk.text ++ u.text).length ≤ _
                simp; omega
            · rw [addText_no ks kk u hk1]
              refine ⟨by have := h1.1; simp at this ⊢; omega, fun k hk => ?_⟩
              simp only [List.mem_append, List.mem_singleton] at hk
              rw [Nat.succ_mul]
              rcases hk with (hk | rfl) | rfl
              · have := h1.2 k (by simp [hk]); omega
              · have := h1.2 k (by simp); omega
              · show u.text.length ≤ _; omega
        · exact h.up g (List.mem_cons_of_mem _ hg)
end Go.Proofs.YtclhdppppgjgfaaGreatDoor
set_option linter.unusedVariables false
namespace Go.Proofs.YtclhdppppgjgfaaGreatDoor

theorem enc_le4 (r : Nat) : (enc r).length ≤ 4 := by unfold enc; (repeat' split) <;> simp
theorem contS_len (v : Bool) : ∀ (l : Bytes) (k n : Nat) (x : Bytes), contS v k l n = .ok x → x.length ≤ 4 * l.length
  | [], k, n, x, h => by
    cases k <;> (rw [contS] at h; cases h; simp)
  | c :: t, k + 1, n, x, h => by
    rw [contS] at h
    have := contS_len v t k (n + 1) x h
    simp only [List.length_cons]; omega
  | c :: t, 0, n, x, h => by
    rw [contS] at h
    simp only [List.length_cons]
    split at h
    · cases hr : tailRef t with
      | none => rw [hr] at h; cases h
      | some p =>
        obtain ⟨r, m⟩ := p
        rw [hr] at h
        simp only at h
        cases hc : contS v (m + 1) t (n + 1) with
        | error e => rw [hc] at h; cases h
        | ok y =>
          rw [hc] at h
          cases h
          have := contS_len v t (m + 1) (n + 1) y hc
          have he := enc_le4 r
          rw [List.length_append]; omega
    · split at h
      · have := contS_len v t 0 (n + 1) x h
        omega
      · cases hc : contS v 0 t (n + 1) with
        | error e => rw [hc] at h; cases h
        | ok y =>
          rw [hc] at h
          cases h
          have := contS_len v t 0 (n + 1) y hc
          rw [List.length_append]
          simp [blanks]; omega
theorem consAt_text {l : Bytes} {a : Nat} {t : Tok} {k : Nat} (h : consAt l a = .ok (t, k)) : t.text.length ≤ 4 * l.length := by
  have hsk : ∀ {m : Nat} {s : Bytes} {g : Nat → Tok × Nat} {t : Tok} {k : Nat}, (skipAt l a m s).map g = .ok (t, k) → ∃ e, (t, k) = g e := by
    intro m s g t k h
    cases hq : skipAt l a m s with
    | error y => rw [hq] at h; cases h
    | ok y => rw [hq] at h; simp [Except.map] at h; exact ⟨y, h.symm⟩
  unfold consAt at h
  split at h
  · obtain ⟨e, he⟩ := hsk h; cases he; simp [zTok]
  · split at h
    · obtain ⟨e, he⟩ := hsk h; cases he; simp [zTok]
    · split at h
      · obtain ⟨e, he⟩ := hsk h
        obtain ⟨rfl, rfl⟩ := Prod.mk.inj he
        have := linesB_len ((l.drop (a + 9)).take (k - 3 - (a + 9)))
        simp only [List.length_take, List.length_drop] at this
        show (linesB _).length ≤ _
        omega
      · split at h
        · cases h
        · split at h
          · cases h
          · split at h
            · unfold endAt at h
              split at h
              · cases h
              · split at h
                · cases h; simp
                · cases h
            · split at h
              · unfold startAt at h
                split at h
                · cases h
                · cases ht : tagS l a (a + 1 + nameLen (l.drop (a + 1))) [] with
                  | error y => rw [ht] at h; cases h
                  | ok p => rw [ht] at h; cases h; simp
              · cases hc : cont false l a (textEnd l a) with
                | error x => rw [hc] at h; cases h
                | ok x =>
                  rw [hc] at h
                  cases h
                  have := contS_len false _ _ _ _ hc
                  simp only [List.length_drop, List.length_take] at this
                  show x.length ≤ _
                  omega
theorem tokF_all {l : Bytes} : ∀ (f n : Nat) (ts ts' : List Tok), tokF l f n ts = .ok ts' → n ≤ l.length → ts.length ≤ n → (∀ t ∈ ts, t.text.length ≤ 4 * l.length) → ts'.length ≤ l.length ∧ ∀ t ∈ ts', t.text.length ≤ 4 * l.length
  | 0, _, _, _, h, _, _, _ => by rw [tokF] at h; cases h
  | f + 1, n, ts, ts', h, hn, hl, ht => by
    rw [tokF] at h
    split at h
    · rename_i hlt
      cases hc : consAt l n with
      | error e => rw [hc] at h; cases h
      | ok p =>
        obtain ⟨t, k⟩ := p
        rw [hc] at h
        have hk := consAt_ok hlt hc
        have htx := consAt_text hc
        simp only at h
        split at h
        · exact tokF_all f k _ _ h hk.2 (by simp; omega) (fun y hy => by
            rcases List.mem_append.1 hy with hy | hy
            · exact ht y hy
            · rw [List.mem_singleton.1 hy]; exact htx)
        · exact tokF_all f k _ _ h hk.2 (by omega) ht
    · cases h; exact ⟨by omega, ht⟩
theorem toks_all (l : Bytes) : (toks l).1.length ≤ l.length ∧ ∀ t ∈ (toks l).1, t.text.length ≤ 4 * l.length := by
  unfold toks
  split
  · exact ⟨Nat.zero_le _, fun t ht => by cases ht⟩
  · have h0 : (if hasAt l 0 sBom = true then 3 else 0) ≤ l.length := by
      split
      · rename_i h
        have := hasAt_le h
        simp [sBom] at this; omega
      · omega
    generalize (if hasAt l 0 sBom = true then 3 else 0) = z at *
    cases h : tokS l z [] with
    | error e => exact ⟨Nat.zero_le _, fun t ht => by cases ht⟩
    | ok ts => exact tokF_all _ _ _ _ h h0 (by simp) (fun t ht => by cases ht)
end Go.Proofs.YtclhdppppgjgfaaGreatDoor
set_option linter.unusedVariables false
namespace Go.Proofs.YtclhdppppgjgfaaGreatDoor
open Go.RowKit

abbrev zN7 : Array Value := #[.int .i64 0, .string ⟨#[]⟩, .string ⟨#[]⟩, .slice none 0 0, .slice none 0 0, .string ⟨#[]⟩, .int .i64 0]
/-- What Parse returns. -/
def ParRes7 (w w' : World) (l : Bytes) (r : Except (Int × Nat) Node) (e : Ending) : Prop :=
  match r with
  | .error q => e = .returned (.tuple #[.agg #[.int .i64 0, .string ⟨#[]⟩, .string ⟨#[]⟩, .slice none 0 0, .slice none 0 0, .string ⟨#[]⟩, .int .i64 0], .int .i64 q.1, .int .i64 q.2])
  | .ok n => ∃ v, e = .returned (.tuple #[v, .int .i64 l.length, .int .i64 0]) ∧ NodePV w' (fun b => w.heap.size ≤ b ∧ b < w'.heap.size) n v
/-- Where the program's Parse stands in its loop. -/
structure PSt (ts : List Tok) (l : Bytes) (A : Option Addr) (c b : Nat) (w0 : World) (R : Except (Int × Nat) Node) (i : Nat) (wr : World) : Prop where
  mach : ∃ vo fs r, BdAt wr (w0.heap.size + 1) b vo fs r ∧ machL l.length (ts.drop i) (fs.map LF.fr) r = R ∧ StInv i (4 * l.length) (fs.map LF.fr) ∧ (fs.map LF.fr).length ≤ 100
  res : wr.heap[w0.heap.size]? = some (.cells #[.int .i64 0, .string ⟨#[]⟩, .string ⟨#[]⟩, .slice none 0 0, .slice none 0 0, .string ⟨#[]⟩, .int .i64 0] 26 (0, 0))
  toks : ToksP wr (fun j => w0.heap.size + 1 ≤ j ∧ j < b) (.slice A ts.length c) ts
  below : Below w0.heap.size w0 wr
  base : w0.heap.size + 1 ≤ b
theorem fresh_bd (W : World) (B : Nat) (hB : B ≤ W.heap.size) : BdAt (W.alloc (.cells (bdCells (.slice none 0 0) [.int .i64 0, .string ⟨#[]⟩, .string ⟨#[]⟩, .slice none 0 0, .slice none 0 0, .string ⟨#[]⟩, .int .i64 0] none).toArray 52)) B W.heap.size (.slice none 0 0) [] none := by
  refine ⟨⟨_, rfl, heap_alloc_new _ _, ?_⟩, ElRow.nil _ _ _ _, (fun x hx => by cases hx), ?_, ?_, hB⟩
  · exact NodeP.of_form (n := .mk 0 [] [] [] [] [] 0) (va := .slice none 0 0) (vk := .slice none 0 0) ⟨none, 0, rfl, Nat.le_refl _, .inl rfl⟩ ⟨none, 0, rfl, Nat.le_refl _, .inl rfl⟩
  · simp [liveB, Value.ownBlock]
  · intro j hj
    simp [liveB, Value.ownBlock] at hj
    subst hj
    simp

theorem stepM_err {u : Tok} {st : List Fr} {r : Option Node} {q : Nat} (h : stepM u st r = .error q) : q ≠ 0 := by
  unfold stepM at h
  split at h
  · split at h
    · cases h; decide
    · split at h
      · cases h; decide
      · split at h <;> cases h
  · split at h
    · cases st with
      | nil => cases h; decide
      | cons f st =>
        simp only at h
        split at h
        · cases h
        · cases h; decide
    · cases st with
      | nil =>
        simp only at h
        split at h
        · cases h
        · cases h; decide
      | cons f st => cases h
theorem bd_range {w : World} {b : Nat} {vo : Value} {cs : List Value} {r : Option Node} {T : TypeId} {fr : Nat × Nat} (hc : cs.length = 7) (h : w.heap[b]? = some (.cells (bdCells vo cs r).toArray T fr)) : w.rangeAt b 1 cs := fun j v hj => by
  have hjl := (List.getElem?_eq_some_iff.1 hj).1
  rw [Lib.cell_of_heap h, List.getElem?_toArray]
  unfold bdCells
  rw [Nat.add_comm, List.getElem?_cons_succ, List.getElem?_append_left hjl]
  exact hj
theorem seven_set7 {W : World} {b : Nat} {t : TypeId} {c0 c1 c2 c3 c4 c5 c6 : Value} (h : W.heap[b]? = some (.cells #[c0, c1, c2, c3, c4, c5, c6] t (0, 0))) (v0 v1 v2 v3 v4 v5 v6 : Value) :
    (((((((W.setCell ⟨b, 0, none⟩ v0).setCell ⟨b, 1, none⟩ v1).setCell ⟨b, 2, none⟩ v2).setCell ⟨b, 3, none⟩ v3).setCell ⟨b, 4, none⟩ v4).setCell ⟨b, 5, none⟩ v5).setCell ⟨b, 6, none⟩ v6).drew.heap[b]? = some (.cells #[v0, v1, v2, v3, v4, v5, v6] t (0, 0)) := by
  have hd : ∀ w : World, w.drew.heap = w.heap := fun _ => rfl
  rw [hd]
  have a1 : _ = some (Obj.cells #[v0, c1, c2, c3, c4, c5, c6] t (0, 0)) := heap_set (i := 0) h v0
  have a2 : _ = some (Obj.cells #[v0, v1, c2, c3, c4, c5, c6] t (0, 0)) := heap_set (i := 1) a1 v1
  have a3 : _ = some (Obj.cells #[v0, v1, v2, c3, c4, c5, c6] t (0, 0)) := heap_set (i := 2) a2 v2
  have a4 : _ = some (Obj.cells #[v0, v1, v2, v3, c4, c5, c6] t (0, 0)) := heap_set (i := 3) a3 v3
  have a5 : _ = some (Obj.cells #[v0, v1, v2, v3, v4, c5, c6] t (0, 0)) := heap_set (i := 4) a4 v4
  have a6 : _ = some (Obj.cells #[v0, v1, v2, v3, v4, v5, c6] t (0, 0)) := heap_set (i := 5) a5 v5
  exact heap_set (i := 6) a6 v6

set_option maxHeartbeats 4000000 in
set_option maxRecDepth 100000 in
theorem parse7_any (l : Bytes) (m : Int) (w : World) (hT : Tabs w) (hM : MaxLen m w) (hl : l.length ≤ 100000) :
    Calls Tryz.prog 12 #[.string (S l)] w fun e w' => ParRes7 w w' l (parse l) e ∧ Below w.heap.size w w' := by
  obtain ⟨R, hR⟩ : ∃ R, parse l = R := ⟨_, rfl⟩
  rw [hR]
  have htk := fun W (hW : Below w.heap.size w W) => tokens_any l m W (hT.next hW) (hM.below hW) (by omega)
  have hlen := (toks_all l).1
  have htxt := (toks_all l).2
  have hknd := toks_kind l
  have hpm := parse_mach (l := l)
  have hpe : (toks l).2.2 ≠ 0 → R = .error (((toks l).2.1 : Int), (toks l).2.2) := fun h => by rw [← hR]; unfold parse; rw [if_pos h]
  rw [hR] at hpm
  clear hR
  cases htt : toks l with
  | mk ts q =>
  obtain ⟨at_, er⟩ := q
  rw [htt] at htk hlen htxt hknd hpm hpe
  simp only at htk hlen htxt hknd hpm hpe
  clear htt
  have HTK := Lib.hid htk
  clear htk hT hM
  by_cases her : er = 0
  · have hpm2 := hpm her
    clear hpm
    subst her
    clear hpe
    have e0 : ((0 : Int) == 0) = true := rfl
    have e1 : ((0 : Int) != 0) = false := rfl
    go_enter Tryz.func12, Tryz.ntmps12
    go_wp2_with fail
    refine (HTK.out _ ((Below.refl _ _).alloc (Nat.le_refl _) _)).mono ?_
    rintro e w1 ⟨⟨v, rfl, hrow⟩, hb1⟩
    have hp1 := hrow.toksP (p' := fun k => w.heap.size + 1 ≤ k ∧ k < w1.heap.size) (fun k hk => ⟨by have := hk.1; simpa using this, hk.2.1⟩) (fun k hk => ⟨by have := (hrow.lt k hk).1; simpa using this, (hrow.lt k hk).2⟩)
    obtain ⟨A1, c1, rfl, _⟩ := hp1.slice
    have hres := (hb1.block w.heap.size (by simp)).trans (heap_alloc_new w (.cells #[.int .i64 0, .string ⟨#[]⟩, .string ⟨#[]⟩, .slice none 0 0, .slice none 0 0, .string ⟨#[]⟩, .int .i64 0] 26))
    have hs1 : w.heap.size + 1 ≤ w1.heap.size := by have := hb1.size; simpa using this
    have hbw := ((Below.refl _ w).alloc (Nat.le_refl _) (.cells #[.int .i64 0, .string ⟨#[]⟩, .string ⟨#[]⟩, .slice none 0 0, .slice none 0 0, .string ⟨#[]⟩, .int .i64 0] 26)).trans (hb1.mono (by simp))
    have hfb := fresh_bd w1 (w.heap.size + 1) hs1
    have hbb : Below w1.heap.size w1 (w1.alloc (.cells (bdCells (.slice none 0 0) [.int .i64 0, .string ⟨#[]⟩, .string ⟨#[]⟩, .slice none 0 0, .slice none 0 0, .string ⟨#[]⟩, .int .i64 0] none).toArray 52)) := (Below.refl _ _).alloc (Nat.le_refl _) _
    have h0 : PSt ts l A1 c1 w1.heap.size w R 0 (w1.alloc (.cells (bdCells (.slice none 0 0) [.int .i64 0, .string ⟨#[]⟩, .string ⟨#[]⟩, .slice none 0 0, .slice none 0 0, .string ⟨#[]⟩, .int .i64 0] none).toArray 52)) :=
      ⟨⟨_, [], none, hfb, hpm2.symm, (fun f hf => by cases hf), by simp⟩, (hbb.block _ (by omega)).trans hres, hp1.keep (fun k hk => hbb.block k hk.2) (fun _ h => h), hbw.trans (hbb.mono (by omega)), hs1⟩
    have H0 := Lib.hid h0
    clear h0 hfb hbb hbw hres hp1 hrow hb1 hpm2
    go_wp2_with fail
    go_loopw [7, 26] (fun i7 i26 wr => ∃ i : Nat, i ≤ ts.length ∧ i26 = .int .i64 i ∧ i7 = .int .i64 0 ∧ PSt ts l A1 c1 w1.heap.size w R i wr) (fun _ i26 _ => ts.length - (intOf i26).toNat)
    case atStart => exact ⟨0, Nat.zero_le _, rfl, rfl, H0.out⟩
    case round =>
      clear H0
      obtain ⟨i, hi, rfl, rfl, hst⟩ := hrel
      have HST := Lib.hid hst
      by_cases hlt : i < ts.length
      · have hlt' : (i : Int) < ts.length := by omega
        obtain ⟨vo, fs, r, hbd, hmach, hinv, hfl⟩ := hst.mach
        obtain ⟨tb, tcs, hA, hptb, hrr, hcs⟩ := hst.toks.at_ hlt
        subst hA
        obtain ⟨TA, tc, rfl, hta, htac⟩ := hcs.open_
        rw [List.drop_eq_getElem_cons hlt, machL_step] at hmach
        have htxi := htxt ts[i] (List.getElem_mem hlt)
        have hki := hknd ts[i] (List.getElem_mem hlt)
        generalize ts[i] = u at *
        obtain ⟨W5, hW5⟩ : ∃ W5, wr.alloc (.cells (tokCells u TA tc) 54) = W5 := ⟨_, rfl⟩
        have hb5 : Below wr.heap.size wr W5 := by rw [← hW5]; exact (Below.refl _ _).alloc (Nat.le_refl _) _
        have hg5 : W5.heap[wr.heap.size]? = some (.cells (tokCells u TA tc) 54 (0, 0)) := by rw [← hW5]; exact heap_alloc_new _ _
        have hz5 : W5.heap.size = wr.heap.size + 1 := by rw [← hW5]; simp
        have hbd5 := hbd.grow hb5
        have hbl := hbd.lt w1.heap.size (by simp [liveB])
        have hatt : AttsP W5 (DoneP W5 (w.heap.size + 1) w1.heap.size vo fs) (.slice TA u.attrs.length tc) u.attrs := hta.keep (fun j hj => hb5.block j (by have := hj.2; omega)) (fun j hj => ⟨hj.1, by have := hj.2; omega, fun h1 => by have := (hbd5.lt j h1).1; have := hj.2; omega⟩)
        have hflx : fs.length ≤ 100 := by simpa using hfl
        have hkl : ∀ x ∈ fs, x.fr.kids.length < 100000000 := fun x hx => by have := (hinv x.fr (List.mem_map_of_mem hx)).1; omega
        have hktx : ∀ x ∈ fs, ∀ k ∈ x.fr.kids, k.text.length ≤ 1000000000000000 := fun x hx k hk => by
          have h1 := (hinv x.fr (List.mem_map_of_mem hx)).2 k hk
          have h2 : i * (4 * l.length) ≤ 100000 * 400000 := Nat.mul_le_mul (by omega) (by omega)
          omega
        have hcall1 := fun (k1 : u.kind = 1) => start7_any (w.heap.size + 1) w1.heap.size vo fs r u TA tc W5 hbd5 hatt hkl hflx k1
        have hcall2 := fun (k1 : u.kind = 2) => end7_any (w.heap.size + 1) w1.heap.size vo fs r u TA tc W5 hbd5 hkl hflx k1
        have hcall3 := fun (k1 : u.kind ≠ 1) (k2 : u.kind ≠ 2) => data7_any (w.heap.size + 1) w1.heap.size vo fs r u TA tc W5 hbd5 hkl hflx k1 k2 (by omega) hktx
        obtain ⟨y0, y1, y2, y3, y4, y5⟩ := cells6 hg5
        have hr5 := range_of_heap (cs := [.int .i64 u.kind, .string (S u.name), .slice TA u.attrs.length tc, .bool u.empty, .string (S u.text), .int .i64 u.pos]) hg5
        have hinvs := fun (st' : List Fr) (r' : Option Node) (he : stepM u (fs.map LF.fr) r = .ok (st', r')) => stepM_inv (st' := st') (r := r) (r' := r') hinv hfl (by omega) he
        have hW5' : wr.alloc (.cells #[.int .i64 u.kind, .string (S u.name), .slice TA u.attrs.length tc, .bool u.empty, .string (S u.text), .int .i64 u.pos] 54) = W5 := hW5
        have HR5 := Lib.hid hr5
        have HG5 := Lib.hid hg5
        have HB5 := Lib.hid hb5
        cases hstep : stepM u (fs.map LF.fr) r with
        | error q =>
          have hq0 := stepM_err hstep
          rw [hstep] at hmach hcall1 hcall2 hcall3
          simp only at hmach
          have HRR : Hid (R = .error (u.pos, q)) := hmach.symm
          have t8 : ((q : Int) == 0) = false := by rw [beq_eq_false_iff_ne]; omega
          have t9 : ((q : Int) != 0) = true := by rw [bne, t8]; rfl
          have HC1 := Lib.hid hcall1
          have HC2 := Lib.hid hcall2
          have HC3 := Lib.hid hcall3
          have hk3 : (u.kind = 1 ∧ (u.kind == 1) = true) ∨ (u.kind = 2 ∧ (u.kind == 1) = false ∧ (u.kind == 2) = true) ∨ ((u.kind ≠ 1 ∧ u.kind ≠ 2) ∧ (u.kind == 1) = false ∧ (u.kind == 2) = false) := by
            rcases hki with h | h | h <;> simp [h]
          have HE : ∀ w6, Below W5.heap.size W5 w6 → w6.cell? ⟨wr.heap.size, 5, none⟩ = some (.int .i64 u.pos) ∧ w6.heap[w.heap.size]? = some (.cells #[.int .i64 0, .string ⟨#[]⟩, .string ⟨#[]⟩, .slice none 0 0, .slice none 0 0, .string ⟨#[]⟩, .int .i64 0] 26 (0, 0)) ∧ Below w.heap.size w w6 := fun w6 hb6 => by
            have hwz := HST.out.base
            refine ⟨?_, (hb6.block _ (by omega)).trans ((HB5.out.block _ (by omega)).trans HST.out.res), (HST.out.below.trans (HB5.out.mono (by omega))).trans (hb6.mono (by omega))⟩
            have h1 := (hb6.block wr.heap.size (by omega)).trans HG5.out
            exact (cells6 h1).2.2.2.2.2
          have HEE := Lib.hid HE
          clear hmach hcall1 hcall2 hcall3 hstep hq0 hki hst hbd hinv hta hcs hbd5 hatt hkl hktx hinvs hr5 hg5 hb5 hfl HE
          rcases hk3 with ⟨k1, k2⟩ | ⟨k1, k2, k3⟩ | ⟨⟨k1, k4⟩, k2, k3⟩
          · have hcc := HC1.out k1
            have HC := Lib.hid hcc
            clear hcc k1 HC1 HC2 HC3
            go_wp2_with (first
              | (with_reducible refine gate ?_; refine wp_load_tok proTokTy rfl _ rfl tb (i * 6) rfl _ rfl hrr ?_)
              | (with_reducible refine gate ?_; refine wp_load_tok proTokTy rfl _ rfl wr.heap.size 0 rfl _ rfl HR5.out ?_)
              | (go_at_call 31; refine HC.out.mono ?_; rintro e w6 ⟨⟨rfl, hb6⟩, _⟩; obtain ⟨q5, hres6, hbw6⟩ := HEE.out w6 hb6))
            obtain ⟨s0, s1, s2, s3, s4, s5, s6⟩ := cells7 hres6
            have hfr : ∀ i, w6.frozen? ⟨w.heap.size, i, none⟩ = false := Lib.frozen_of_heap hres6
            have hgw : ¬ (w.heap.size = wr.heap.size) := by omega
            have HRES := Lib.hid hres6
            clear hres6
            go_region
            all_goals
              go_wp2_with fail
              refine bodyPost_ret (v := .tuple #[.agg _, _, _]) (res_whole3 Tryz.results12 _ _ w.heap.size rfl 26 zN7 (seven_set7 HRES.out _ _ _ _ _ _ _) Tryz.underlying26 rfl nodeSize _ _ rfl rfl) rfl ⟨?_, ?_⟩
              · rw [HRR.out]; rfl
              · exact (((((((hbw6.setCell (p := ⟨w.heap.size, 0, none⟩) (Nat.le_refl _) _).setCell (p := ⟨w.heap.size, 1, none⟩) (Nat.le_refl _) _).setCell (p := ⟨w.heap.size, 2, none⟩) (Nat.le_refl _) _).setCell (p := ⟨w.heap.size, 3, none⟩) (Nat.le_refl _) _).setCell (p := ⟨w.heap.size, 4, none⟩) (Nat.le_refl _) _).setCell (p := ⟨w.heap.size, 5, none⟩) (Nat.le_refl _) _).setCell (p := ⟨w.heap.size, 6, none⟩) (Nat.le_refl _) _).drew
          · have hcc := HC2.out k1
            have HC := Lib.hid hcc
            clear hcc k1 HC1 HC2 HC3
            go_wp2_with (first
              | (with_reducible refine gate ?_; refine wp_load_tok proTokTy rfl _ rfl tb (i * 6) rfl _ rfl hrr ?_)
              | (with_reducible refine gate ?_; refine wp_load_tok proTokTy rfl _ rfl wr.heap.size 0 rfl _ rfl HR5.out ?_)
              | (go_at_call 32; refine HC.out.mono ?_; rintro e w6 ⟨⟨rfl, hb6⟩, _⟩; obtain ⟨q5, hres6, hbw6⟩ := HEE.out w6 hb6))
            obtain ⟨s0, s1, s2, s3, s4, s5, s6⟩ := cells7 hres6
            have hfr : ∀ i, w6.frozen? ⟨w.heap.size, i, none⟩ = false := Lib.frozen_of_heap hres6
            have hgw : ¬ (w.heap.size = wr.heap.size) := by omega
            have HRES := Lib.hid hres6
            clear hres6
            go_region
            all_goals
              go_wp2_with fail
              refine bodyPost_ret (v := .tuple #[.agg _, _, _]) (res_whole3 Tryz.results12 _ _ w.heap.size rfl 26 zN7 (seven_set7 HRES.out _ _ _ _ _ _ _) Tryz.underlying26 rfl nodeSize _ _ rfl rfl) rfl ⟨?_, ?_⟩
              · rw [HRR.out]; rfl
              · exact (((((((hbw6.setCell (p := ⟨w.heap.size, 0, none⟩) (Nat.le_refl _) _).setCell (p := ⟨w.heap.size, 1, none⟩) (Nat.le_refl _) _).setCell (p := ⟨w.heap.size, 2, none⟩) (Nat.le_refl _) _).setCell (p := ⟨w.heap.size, 3, none⟩) (Nat.le_refl _) _).setCell (p := ⟨w.heap.size, 4, none⟩) (Nat.le_refl _) _).setCell (p := ⟨w.heap.size, 5, none⟩) (Nat.le_refl _) _).setCell (p := ⟨w.heap.size, 6, none⟩) (Nat.le_refl _) _).drew
          · have hcc := HC3.out k1 k4
            have HC := Lib.hid hcc
            clear hcc k1 k4 HC1 HC2 HC3
            go_wp2_with (first
              | (with_reducible refine gate ?_; refine wp_load_tok proTokTy rfl _ rfl tb (i * 6) rfl _ rfl hrr ?_)
              | (with_reducible refine gate ?_; refine wp_load_tok proTokTy rfl _ rfl wr.heap.size 0 rfl _ rfl HR5.out ?_)
              | (go_at_call 33; refine HC.out.mono ?_; rintro e w6 ⟨⟨rfl, hb6⟩, _⟩; obtain ⟨q5, hres6, hbw6⟩ := HEE.out w6 hb6))
            obtain ⟨s0, s1, s2, s3, s4, s5, s6⟩ := cells7 hres6
            have hfr : ∀ i, w6.frozen? ⟨w.heap.size, i, none⟩ = false := Lib.frozen_of_heap hres6
            have hgw : ¬ (w.heap.size = wr.heap.size) := by omega
            have HRES := Lib.hid hres6
            clear hres6
            go_region
            all_goals
              go_wp2_with fail
              refine bodyPost_ret (v := .tuple #[.agg _, _, _]) (res_whole3 Tryz.results12 _ _ w.heap.size rfl 26 zN7 (seven_set7 HRES.out _ _ _ _ _ _ _) Tryz.underlying26 rfl nodeSize _ _ rfl rfl) rfl ⟨?_, ?_⟩
              · rw [HRR.out]; rfl
              · exact (((((((hbw6.setCell (p := ⟨w.heap.size, 0, none⟩) (Nat.le_refl _) _).setCell (p := ⟨w.heap.size, 1, none⟩) (Nat.le_refl _) _).setCell (p := ⟨w.heap.size, 2, none⟩) (Nat.le_refl _) _).setCell (p := ⟨w.heap.size, 3, none⟩) (Nat.le_refl _) _).setCell (p := ⟨w.heap.size, 4, none⟩) (Nat.le_refl _) _).setCell (p := ⟨w.heap.size, 5, none⟩) (Nat.le_refl _) _).setCell (p := ⟨w.heap.size, 6, none⟩) (Nat.le_refl _) _).drew
        | ok p =>
          obtain ⟨st', r'⟩ := p
          have hinv2 := hinvs st' r' hstep
          rw [hstep] at hmach hcall1 hcall2 hcall3
          simp only at hmach
          have HC1 := Lib.hid hcall1
          have HC2 := Lib.hid hcall2
          have HC3 := Lib.hid hcall3
          have hk3 : (u.kind = 1 ∧ (u.kind == 1) = true) ∨ (u.kind = 2 ∧ (u.kind == 1) = false ∧ (u.kind == 2) = true) ∨ ((u.kind ≠ 1 ∧ u.kind ≠ 2) ∧ (u.kind == 1) = false ∧ (u.kind == 2) = false) := by
            rcases hki with h | h | h <;> simp [h]
          have HE : ∀ w6, Below w1.heap.size W5 w6 → (∃ vo fs, BdAt w6 (w.heap.size + 1) w1.heap.size vo fs r' ∧ fs.map LF.fr = st') → PSt ts l (some ⟨tb, 0, none⟩) c1 w1.heap.size w R (i + 1) w6 := fun w6 hb6 hex => by
            have hwz := HST.out.base
            obtain ⟨vo', fs', hx1, hx2⟩ := hex
            refine ⟨⟨vo', fs', r', hx1, by rw [hx2]; exact hmach, by rw [hx2]; exact hinv2.1, by rw [hx2]; exact hinv2.2⟩, (hb6.block _ (by omega)).trans ((HB5.out.block _ (by omega)).trans HST.out.res), HST.out.toks.keep (fun j hj => (hb6.block j hj.2).trans (HB5.out.block j (by have := hj.2; omega))) (fun _ h => h), (HST.out.below.trans (HB5.out.mono (by omega))).trans (hb6.mono (by omega)), hwz⟩
          have HEE := Lib.hid HE
          clear hmach hcall1 hcall2 hcall3 hstep hki hst hbd hinv hta hcs hbd5 hatt hkl hktx hinvs hr5 hg5 hb5 hfl HE hinv2
          rcases hk3 with ⟨k1, k2⟩ | ⟨k1, k2, k3⟩ | ⟨⟨k1, k4⟩, k2, k3⟩
          · have hcc := HC1.out k1
            have HC := Lib.hid hcc
            clear hcc k1 HC1 HC2 HC3
            go_wp2_with (first
              | (with_reducible refine gate ?_; refine wp_load_tok proTokTy rfl _ rfl tb (i * 6) rfl _ rfl hrr ?_)
              | (with_reducible refine gate ?_; refine wp_load_tok proTokTy rfl _ rfl wr.heap.size 0 rfl _ rfl HR5.out ?_)
              | (go_at_call 31; refine HC.out.mono ?_; rintro e w6 ⟨⟨rfl, hex⟩, hb6⟩; have hnew := HEE.out w6 hb6 hex))
            go_roundw
            case rel => exact ⟨i + 1, by omega, by go_num, rfl, hnew⟩
            case measure => simp [intOf]; omega
          · have hcc := HC2.out k1
            have HC := Lib.hid hcc
            clear hcc k1 HC1 HC2 HC3
            go_wp2_with (first
              | (with_reducible refine gate ?_; refine wp_load_tok proTokTy rfl _ rfl tb (i * 6) rfl _ rfl hrr ?_)
              | (with_reducible refine gate ?_; refine wp_load_tok proTokTy rfl _ rfl wr.heap.size 0 rfl _ rfl HR5.out ?_)
              | (go_at_call 32; refine HC.out.mono ?_; rintro e w6 ⟨⟨rfl, hex⟩, hb6⟩; have hnew := HEE.out w6 hb6 hex))
            go_roundw
            case rel => exact ⟨i + 1, by omega, by go_num, rfl, hnew⟩
            case measure => simp [intOf]; omega
          · have hcc := HC3.out k1 k4
            have HC := Lib.hid hcc
            clear hcc k1 k4 HC1 HC2 HC3
            go_wp2_with (first
              | (with_reducible refine gate ?_; refine wp_load_tok proTokTy rfl _ rfl tb (i * 6) rfl _ rfl hrr ?_)
              | (with_reducible refine gate ?_; refine wp_load_tok proTokTy rfl _ rfl wr.heap.size 0 rfl _ rfl HR5.out ?_)
              | (go_at_call 33; refine HC.out.mono ?_; rintro e w6 ⟨⟨rfl, hex⟩, hb6⟩; have hnew := HEE.out w6 hb6 hex))
            go_roundw
            case rel => exact ⟨i + 1, by omega, by go_num, rfl, hnew⟩
            case measure => simp [intOf]; omega
      · obtain rfl : i = ts.length := by omega
        obtain ⟨vo, fs, r, hbd, hmach, hinv, hfl⟩ := hst.mach
        rw [List.drop_length, machL_nil] at hmach
        obtain ⟨rc, hrc, hbk, hrn⟩ := hbd.blk
        have c8 := bd_cell8 hrc hbk
        have hres := hst.res
        have hwz := hst.base
        cases r with
        | none =>
          have HRR : Hid (R = .error ((l.length : Int), 8)) := hmach.symm
          clear hmach hst hbd hinv hfl hbk hrn
          go_wp2_with (with_reducible refine gate ?_; refine wp_store_node rfl _ _ rfl w.heap.size _ _ _ _ _ _ _ _ _ _ _ _ rfl rfl hres rfl ?_; intro w2 hw2 hu2)
          refine bodyPost_ret (v := .tuple #[.agg _, _, _]) (res_whole3 Tryz.results12 _ _ w.heap.size rfl _ _ hw2 Tryz.underlying26 rfl nodeSize _ _ rfl rfl) rfl ⟨?_, ?_⟩
          · rw [HRR.out]; rfl
          · exact HST.out.below.trans (hu2.below (Nat.le_refl _) HST.out.below.size)
        | some n =>
          have HRR : Hid (R = .ok n) := hmach.symm
          have hn : NodeP wr (DoneP wr (w.heap.size + 1) w1.heap.size vo fs) n rc := hrn
          have hra := bd_range hrc hbk
          obtain ⟨NA, nc, NK, nd, rfl, _, _, _, _⟩ := hn.open_
          clear hmach hst hbd hinv hfl hbk hrn
          go_wp2_with (first
            | (with_reducible refine gate ?_; refine wp_load_node rfl _ rfl w1.heap.size 1 rfl _ rfl hra ?_)
            | (with_reducible refine gate ?_; refine wp_store_node rfl _ _ rfl w.heap.size _ _ _ _ _ _ _ _ _ _ _ _ rfl rfl hres rfl ?_; intro w2 hw2 hu2))
          refine bodyPost_ret (v := .tuple #[.agg _, _, _]) (res_whole3 Tryz.results12 _ _ w.heap.size rfl _ _ hw2 Tryz.underlying26 rfl nodeSize _ _ rfl rfl) rfl ⟨?_, ?_⟩
          · rw [HRR.out]
            refine ⟨_, rfl, _, rfl, ?_⟩
            have hz2 := hu2.size
            exact NodeP.keep (fun j hj => hu2.block j hj.2.1 (by have := hj.1; omega)) (fun j hj => ⟨by have := hj.1; omega, by have := hj.2.1; omega⟩) n _ hn
          · exact HST.out.below.trans (hu2.below (Nat.le_refl _) HST.out.below.size)
  · have hre := hpe her
    have t6 : ((er : Int) == 0) = false := by rw [beq_eq_false_iff_ne]; omega
    have t7 : ((er : Int) != 0) = true := by rw [bne, t6]; rfl
    have HR := Lib.hid hre
    clear hre her hpm hpe
    go_enter Tryz.func12, Tryz.ntmps12
    go_wp2_with fail
    refine (HTK.out _ ((Below.refl _ _).alloc (Nat.le_refl _) _)).mono ?_
    rintro e w1 ⟨⟨v, rfl, hrow⟩, hb1⟩
    have hres := (hb1.block w.heap.size (by simp)).trans (heap_alloc_new w (.cells zN7 26))
    have HB1 := Lib.hid (((Below.refl _ _).alloc (Nat.le_refl _) (.cells zN7 26)).trans (hb1.mono (by simp)))
    clear hrow hb1
    go_wp2_with (with_reducible refine gate ?_; refine wp_store_node rfl _ _ rfl w.heap.size _ _ _ _ _ _ _ _ _ _ _ _ rfl rfl hres rfl ?_; intro w2 hw2 hu2)
    refine bodyPost_ret (v := .tuple #[.agg _, _, _]) (res_whole3 Tryz.results12 _ _ w.heap.size rfl _ _ hw2 Tryz.underlying26 rfl nodeSize _ _ rfl rfl) rfl ⟨?_, ?_⟩
    · rw [HR.out]; rfl
    · exact HB1.out.trans (hu2.below (Nat.le_refl _) HB1.out.size)
end Go.Proofs.YtclhdppppgjgfaaGreatDoor
set_option linter.unusedVariables false
namespace Go.Proofs.YtclhdppppgjgfaaGreatDoor
open Go.RowKit

/-- Block pb is a parser: the tokens, the next one's number, the error's place and the error. -/
def PB (w : World) (pb : Nat) (A : Option Addr) (n c : Nat) (i ea er : Int) : Prop :=
  w.heap[pb]? = some (.cells #[.slice A n c, .int .i64 i, .int .i64 ea, .int .i64 er] 61 (0, 0))
section
variable {w w' : World} {pb : Nat} {A : Option Addr} {n c : Nat} {i ea er : Int}
theorem PB.lt (h : PB w pb A n c i ea er) : pb < w.heap.size := heap_lt h
theorem PB.below (h : PB w pb A n c i ea er) (hb : Below w.heap.size w w') : PB w' pb A n c i ea er := (hb.block pb h.lt).trans h
theorem PB.upd {b : Nat} (h : PB w pb A n c i ea er) (hb : pb ≠ b) (hu : Upd b w w') : PB w' pb A n c i ea er := (hu.block pb h.lt hb).trans h
theorem PB.move (h : PB w pb A n c i ea er) (m : Int) : PB (w.setCell ⟨pb, 1, none⟩ (.int .i64 m)) pb A n c m ea er := heap_set (i := 1) h _
theorem PB.fail (h : PB w pb A n c i ea er) (x y : Int) : PB ((w.setCell ⟨pb, 2, none⟩ (.int .i64 x)).setCell ⟨pb, 3, none⟩ (.int .i64 y)) pb A n c i x y := heap_set (i := 3) (heap_set (i := 2) h _) _
theorem PB.free (h : PB w pb A n c i ea er) (j : Nat) : w.frozen? ⟨pb, j, none⟩ = false := Lib.frozen_of_heap h j
end

/-- The zero node. -/
abbrev zNodC : Array Value := #[.int .i64 0, .string ⟨#[]⟩, .string ⟨#[]⟩, .slice none 0 0, .slice none 0 0, .string ⟨#[]⟩, .int .i64 0]
abbrev zNodeV : Value := .agg #[.int .i64 0, .string ⟨#[]⟩, .string ⟨#[]⟩, .slice none 0 0, .slice none 0 0, .string ⟨#[]⟩, .int .i64 0]
set_option maxHeartbeats 1000000 in
set_option maxRecDepth 100000 in
theorem refFail_any (pb : Nat) (A : Option Addr) (n c : Nat) (i ea er x y : Int) (w : World) (h : PB w pb A n c i ea er) :
    Calls Tryz.prog 67 #[.pointer (some ⟨pb, 0, none⟩), .int .i64 x, .int .i64 y] w fun e w' => e = .returned zNodeV ∧ PB w' pb A n c i x y ∧ Upd pb w w' := by
  have hlt := h.lt
  obtain ⟨p0, p1, p2, p3⟩ := cells4 h
  have hf := h.free
  have hsz : ((w.setCell ⟨pb, 2, none⟩ (.int .i64 x)).setCell ⟨pb, 3, none⟩ (.int .i64 y)).heap.size = w.heap.size := by simp [World.setCell]
  have hres2 : (((w.setCell ⟨pb, 2, none⟩ (.int .i64 x)).setCell ⟨pb, 3, none⟩ (.int .i64 y)).alloc (.cells zNodC 26)).heap[w.heap.size]? = some (.cells zNodC 26 (0, 0)) := by
    rw [← hsz]; exact heap_alloc_new _ _
  have H2 : Hid (PB (((w.setCell ⟨pb, 2, none⟩ (.int .i64 x)).setCell ⟨pb, 3, none⟩ (.int .i64 y)).alloc (.cells zNodC 26)) pb A n c i x y) := (h.fail x y).below ((Below.refl _ _).alloc (Nat.le_refl _) _)
  have hne2 : ¬ (pb = w.heap.size) := by omega
  have HU : Hid (Upd pb w (((w.setCell ⟨pb, 2, none⟩ (.int .i64 x)).setCell ⟨pb, 3, none⟩ (.int .i64 y)).alloc (.cells zNodC 26))) := ((Upd.set_ pb 2 w _).trans (Upd.set_ pb 3 _ _)).alloc _
  clear h hsz
  go_enter Tryz.func67, Tryz.ntmps67
  go_wp2_with (with_reducible refine gate ?_; refine wp_store_node rfl _ _ rfl w.heap.size _ _ _ _ _ _ _ _ _ _ _ _ rfl rfl hres2 rfl ?_; intro w2 hw2 hu2)
  refine bodyPost_ret (v := .agg _) (res_whole Tryz.results67 _ _ w.heap.size rfl _ _ hw2 Tryz.underlying26 rfl nodeSize) rfl ⟨rfl, H2.out.upd hne2 hu2, ?_⟩
  have hs := hu2.size
  exact ⟨hu2.os.trans HU.out.os, hu2.tape.trans HU.out.tape, hu2.output.trans HU.out.output, Nat.le_trans HU.out.size hu2.size, fun k hk hkp => (hu2.block k (Nat.lt_of_lt_of_le hk HU.out.size) (by omega)).trans (HU.out.block k hk hkp)⟩
end Go.Proofs.YtclhdppppgjgfaaGreatDoor
