/-
  Walks of chapter 13: the later one of two entries (both).
-/
import Derived.Test.YtadkgjbidhfefaaDoorKeyR13b
import Derived.Test.YtadkgjbidhfefaaDoorCmp13b
set_option linter.unusedVariables false
namespace Go.Proofs.YtadkgjbidhfefaaDoor
open Go.RowKit

def kE (e : En) : Bytes := keyOf (entVal e)
/-- By time, then by canonical bytes. -/
def cmpK (a b : En) : Int := lex3 (fun a b : En => cmpI a.upd b.upd) (fun a b : En => cmpB (kE a) (kE b)) a b
theorem ordK : Ord3 cmpK := (ordI.on (fun e : En => e.upd)).lex (ordB.on kE)
theorem wp_store_ent {ops : Array Oper} {rest : List Oper} {o : Oper} {a : Act} {w : World} {Q : Exit → Act → World → Prop} (hgd : o.guard = none) (x y : Operand) (ho : o.op = .store 59 x y)
    (g : Nat) (cur : Array Value) (s0 s1 s2 s3 : ByteArray) (n : Int) (hx : a.eval x = .pointer (some ⟨g, 0, none⟩)) (hy : a.eval y = .agg #[.string s0, .string s1, .string s2, .string s3, .int .i64 n])
    (hg : w.heap[g]? = some (.cells cur 59 (0, 0))) (hs : cur.size = 5)
    (h : ∀ w', w'.heap[g]? = some (.cells #[.string s0, .string s1, .string s2, .string s3, .int .i64 n] 59 (0, 0)) → Upd g w w' → wpList Tryd.prog ops Q rest (a.put o.dst undef) w') : wpList Tryd.prog ops Q (o :: rest) a w :=
  wp_store_whole hgd 59 x y ho g 59 cur _ hx hy hg (by rw [hs]; rfl) entSize (by simp [Value.oneCell']) h
abbrev zEntO : Obj := .cells #[.string ⟨#[]⟩, .string ⟨#[]⟩, .string ⟨#[]⟩, .string ⟨#[]⟩, .int .i64 0] 59
/-- The three blocks of a function of two entries that returns one. -/
structure Ent3 (w : World) (B : Nat) (a b : En) : Prop where
  one : w.heap[B]? = some (entBox a)
  two : w.heap[B + 1]? = some (entBox b)
  res : w.heap[B + 1 + 1]? = some zEntO
theorem Ent3.new (w : World) (a b : En) : Ent3 (((w.alloc (entBox a)).alloc (entBox b)).alloc zEntO) w.heap.size a b := by
  refine ⟨?_, ?_, ?_⟩
  · exact (Below.heap_alloc _ _ _ (by simp; omega)).trans ((Below.heap_alloc _ _ _ (by simp)).trans (heap_alloc_new w _))
  · refine (Below.heap_alloc _ _ _ (by simp)).trans ?_
    have := heap_alloc_new (w.alloc (entBox a)) (entBox b)
    simpa using this
  · have := heap_alloc_new ((w.alloc (entBox a)).alloc (entBox b)) zEntO
    simpa using this
theorem Ent3.next {w w' : World} {B : Nat} {a b : En} (h : Ent3 w B a b) (hb : Below w.heap.size w w') : Ent3 w' B a b :=
  ⟨(hb.block _ (heap_lt h.one)).trans h.one, (hb.block _ (heap_lt h.two)).trans h.two, (hb.block _ (heap_lt h.res)).trans h.res⟩
theorem Ent3.cells {w : World} {B : Nat} {a b : En} (h : Ent3 w B a b) :
    (w.cell? ⟨B, 0, none⟩ = some (.string (S a.id)) ∧ w.cell? ⟨B, 1, none⟩ = some (.string (S a.title)) ∧ w.cell? ⟨B, 2, none⟩ = some (.string (S a.link)) ∧ w.cell? ⟨B, 3, none⟩ = some (.string (S a.content)) ∧ w.cell? ⟨B, 4, none⟩ = some (.int .i64 a.upd)) ∧
    (w.cell? ⟨B + 1, 0, none⟩ = some (.string (S b.id)) ∧ w.cell? ⟨B + 1, 1, none⟩ = some (.string (S b.title)) ∧ w.cell? ⟨B + 1, 2, none⟩ = some (.string (S b.link)) ∧ w.cell? ⟨B + 1, 3, none⟩ = some (.string (S b.content)) ∧ w.cell? ⟨B + 1, 4, none⟩ = some (.int .i64 b.upd)) :=
  ⟨cells5 h.one, cells5 h.two⟩

set_option maxHeartbeats 4000000 in
set_option maxRecDepth 100000 in
theorem refLaterEntry_any (a b : En) (w : World) (hf : EFit a) (hg : EFit b) (hs : a.id.length + a.title.length + a.link.length + a.content.length ≤ 100000) (ht : b.id.length + b.title.length + b.link.length + b.content.length ≤ 100000) :
    Calls Tryd.prog 39 #[entV a, entV b] w fun x w' => x = .returned (entV (lat3 cmpK a b)) ∧ Below w.heap.size w w' := by
  have E0 := Lib.hid (Ent3.new w a b)
  have F3 : Hid (Below w.heap.size w (((w.alloc (entBox a)).alloc (entBox b)).alloc zEntO)) := (((Below.refl _ _).alloc (Nat.le_refl _) _).alloc (by simp) _).alloc (by simp; omega) _
  by_cases h1 : a.upd < b.upd
  · have hl : lat3 cmpK a b = b := by unfold lat3 cmpK lex3 cmpI; simp only [if_pos h1]; simp
    rw [hl]
    have q1 : decide (a.upd < b.upd) = true := decide_eq_true h1
    clear hl hf hg hs ht
    obtain ⟨⟨a0, a1, a2, a3, a4⟩, b0, b1, b2, b3, b4⟩ := E0.out.cells
    go_enter Tryd.func39, Tryd.ntmps39
    go_wp2_with fail
    go_quiet (fail)
    have E1 := E0.out.next (below_drewN13 _ nq)
    have R1 := E1.res
    go_wp2_with (with_reducible refine gate ?_; refine wp_store_ent rfl _ _ rfl (w.heap.size + 1 + 1) _ _ _ _ _ _ rfl rfl R1 rfl ?_; intro w2 hw2 hu2)
    refine bodyPost_ret (v := .agg _) (res_whole Tryd.results39 _ _ (w.heap.size + 1 + 1) rfl _ _ hw2 Tryd.underlying59 rfl entSize) rfl ⟨rfl, ?_⟩
    exact (F3.out.trans ((below_drewN13 _ nq).mono (by simp; omega))).trans (hu2.below (by omega) (by simp; omega))
  · by_cases h2 : b.upd < a.upd
    · have hl : lat3 cmpK a b = a := by unfold lat3 cmpK lex3 cmpI; simp only [if_neg h1, if_pos h2]; simp
      rw [hl]
      have q1 : decide (a.upd < b.upd) = false := decide_eq_false h1
      have q2 : (b.upd == a.upd) = false := by rw [beq_eq_false_iff_ne]; omega
      clear hl hf hg hs ht
      obtain ⟨⟨a0, a1, a2, a3, a4⟩, b0, b1, b2, b3, b4⟩ := E0.out.cells
      go_enter Tryd.func39, Tryd.ntmps39
      go_wp2_with fail
      go_quiet (fail)
      have E1 := E0.out.next (below_drewN13 _ nq)
      have R1 := E1.res
      go_wp2_with (with_reducible refine gate ?_; refine wp_store_ent rfl _ _ rfl (w.heap.size + 1 + 1) _ _ _ _ _ _ rfl rfl R1 rfl ?_; intro w2 hw2 hu2)
      refine bodyPost_ret (v := .agg _) (res_whole Tryd.results39 _ _ (w.heap.size + 1 + 1) rfl _ _ hw2 Tryd.underlying59 rfl entSize) rfl ⟨rfl, ?_⟩
      exact (F3.out.trans ((below_drewN13 _ nq).mono (by simp; omega))).trans (hu2.below (by omega) (by simp; omega))
    · have he : a.upd = b.upd := by omega
      have hl : lat3 cmpK a b = if cmpB (kE a) (kE b) = -1 then b else a := by unfold lat3 cmpK lex3 cmpI; simp only [if_neg h1, if_neg h2]; simp
      have hka := fun W => refEntryKey_any a W hf hs
      have hkb := fun W => refEntryKey_any b W hg ht
      rw [show keyOf (entVal a) = kE a from rfl] at hka
      rw [show keyOf (entVal b) = kE b from rfl] at hkb
      generalize kE a = ka at *
      generalize kE b = kb at *
      have hway : ∃ X Y : Bool, Op.bytesLess kb ka = X ∧ (kb == ka) = Y ∧ lat3 cmpK a b = if (!(X || Y)) = true then b else a := by
        have := ordB.anti ka kb
        rcases ordB.rng ka kb with h | h | h
        · exact ⟨false, false, less_no (by omega), ne_of_cmp (by omega), by rw [hl, if_pos h]; rfl⟩
        · have e := cmpB_eq h
          subst e
          exact ⟨false, true, less_no (by omega), by simp, by rw [hl, if_neg (by omega)]; rfl⟩
        · exact ⟨true, false, less_yes (by omega), ne_of_cmp (by omega), by rw [hl, if_neg (by omega)]; rfl⟩
      obtain ⟨X, Y, hX, hY, hr⟩ := hway
      have q1 : decide (a.upd < b.upd) = false := decide_eq_false h1
      have q2 : (b.upd == a.upd) = true := by rw [he]; exact beq_self_eq_true _
      have HKA := Lib.hid hka
      have HKB := Lib.hid hkb
      have KEEP : Hid (∀ W, Below (w.heap.size + 3) (((w.alloc (entBox a)).alloc (entBox b)).alloc zEntO) W → Ent3 W w.heap.size a b) := fun W hW => E0.out.next (by simpa using hW)
      clear hl hf hg hs ht h1 h2 hka hkb
      have HE := Lib.hid he
      clear he
      cases X <;> cases Y
      all_goals
        rw [hr]
        clear hr
        obtain ⟨⟨a0, a1, a2, a3, a4⟩, b0, b1, b2, b3, b4⟩ := E0.out.cells
        go_enter Tryd.func39, Tryd.ntmps39
        go_wp2_with fail
        clear a0 a1 a2 a3 a4 b0 b1 b2 b3 b4
        go_region_held3 (fun x => (x.cell? ⟨w.heap.size, 0, none⟩ = some (.string (S a.id)) ∧ x.cell? ⟨w.heap.size, 1, none⟩ = some (.string (S a.title)) ∧ x.cell? ⟨w.heap.size, 2, none⟩ = some (.string (S a.link)) ∧ x.cell? ⟨w.heap.size, 3, none⟩ = some (.string (S a.content)) ∧ x.cell? ⟨w.heap.size, 4, none⟩ = some (.int .i64 a.upd)) ∧
            (x.cell? ⟨w.heap.size + 1, 0, none⟩ = some (.string (S b.id)) ∧ x.cell? ⟨w.heap.size + 1, 1, none⟩ = some (.string (S b.title)) ∧ x.cell? ⟨w.heap.size + 1, 2, none⟩ = some (.string (S b.link)) ∧ x.cell? ⟨w.heap.size + 1, 3, none⟩ = some (.string (S b.content)) ∧ x.cell? ⟨w.heap.size + 1, 4, none⟩ = some (.int .i64 b.upd)))
          (first | exact (KEEP.out _ r2).cells | exact (KEEP.out _ r1).cells | exact (KEEP.out _ (Below.refl _ _).drew).cells)
          (first
            | ((go_at_call 42; (with_reducible refine (HKA.out _).mono ?_); rintro x w2 ⟨rfl, hb2⟩; have r2 := r1.trans (hb2.mono hz1); have hz2 : w.heap.size + 3 ≤ w2.heap.size := (by have := r2.size; simpa using this); clear hb2))
            | ((go_at_call 42; (with_reducible refine (HKB.out _).mono ?_); rintro x w2 ⟨rfl, hb2⟩; have r2 := r1.trans (hb2.mono hz1); have hz2 : w.heap.size + 3 ≤ w2.heap.size := (by have := r2.size; simpa using this); clear hb2))
            | ((go_at_call 42; (with_reducible refine (HKA.out _).mono ?_); rintro x w1 ⟨rfl, hb1⟩; have r1 := (Below.refl (w.heap.size + 3) (((w.alloc (entBox a)).alloc (entBox b)).alloc zEntO)).drew.trans (hb1.mono (by simp)); have hz1 : w.heap.size + 3 ≤ w1.heap.size := (by have := r1.size; simpa using this); clear hb1))
            | ((go_at_call 42; (with_reducible refine (HKB.out _).mono ?_); rintro x w1 ⟨rfl, hb1⟩; have r1 := (Below.refl (w.heap.size + 3) (((w.alloc (entBox a)).alloc (entBox b)).alloc zEntO)).drew.trans (hb1.mono (by simp)); have hz1 : w.heap.size + 3 ≤ w1.heap.size := (by have := r1.size; simpa using this); clear hb1)))
        all_goals
          have R2 := (KEEP.out _ r2).res
          have HR2 := Lib.hid r2
          clear r1 r2
          go_wp2_with (with_reducible refine gate ?_; refine wp_store_ent rfl _ _ rfl (w.heap.size + 1 + 1) _ _ _ _ _ _ rfl rfl R2 rfl ?_; intro w4 hw4 hu4)
          refine bodyPost_ret (v := .agg _) (res_whole Tryd.results39 _ _ (w.heap.size + 1 + 1) rfl _ _ hw4 Tryd.underlying59 rfl entSize) rfl ⟨rfl, ?_⟩
          exact (F3.out.trans (HR2.out.mono (by omega))).trans (hu4.below (by omega) (by omega))
end Go.Proofs.YtadkgjbidhfefaaDoor
