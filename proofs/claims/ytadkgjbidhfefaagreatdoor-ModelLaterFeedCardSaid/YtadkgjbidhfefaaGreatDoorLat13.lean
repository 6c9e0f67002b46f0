/-
  Walks of chapter 13: the later one of two entries (both).
-/
import Derived.Test.YtadkgjbidhfefaaGreatDoorKeyR13b
import Derived.Test.YtadkgjbidhfefaaGreatDoorCmp13b
set_option linter.unusedVariables false
namespace Go.Proofs.YtadkgjbidhfefaaGreatDoor
open Go.RowKit

def kE (e : En) : Bytes := keyOf (entVal e)
/-- By time, then by canonical bytes. -/
def cmpK (a b : En) : Int := lex3 (fun a b : En => cmpI a.upd b.upd) (fun a b : En => cmpB (kE a) (kE b)) a b
theorem ordK : Ord3 cmpK := (ordI.on (fun e : En => e.upd)).lex (ordB.on kE)
theorem wp_store_ent {ops : Array Oper} {rest : List Oper} {o : Oper} {a : Act} {w : World} {Q : Exit → Act → World → Prop} (hgd : o.guard = none) (x y : Operand) (ho : o.op = .store 39 x y)
    (g : Nat) (cur : Array Value) (s0 s1 s2 s3 : ByteArray) (n : Int) (hx : a.eval x = .pointer (some ⟨g, 0, none⟩)) (hy : a.eval y = .agg #[.string s0, .string s1, .string s2, .string s3, .int .i64 n])
    (hg : w.heap[g]? = some (.cells cur 39 (0, 0))) (hs : cur.size = 5)
    (h : ∀ w', w'.heap[g]? = some (.cells #[.string s0, .string s1, .string s2, .string s3, .int .i64 n] 39 (0, 0)) → Upd g w w' → wpList Tryz.prog ops Q rest (a.put o.dst undef) w') : wpList Tryz.prog ops Q (o :: rest) a w :=
  wp_store_whole hgd 39 x y ho g 39 cur _ hx hy hg (by rw [hs]; rfl) entSize (by simp [Value.oneCell']) h
abbrev zEntO : Obj := .cells #[.string ⟨#[]⟩, .string ⟨#[]⟩, .string ⟨#[]⟩, .string ⟨#[]⟩, .int .i64 0] 39
/-- The three blocks of a function of two entries that returns one. -/
structure Ent3 (w : World) (B : Nat) (a b : En) : Prop where
  one : w.heap[B]? = some (entBox a)
  two : w.heap[B + 1]? = some (entBox b)
  res : w.heap[B + 1 + 1]? = some zEntO
theorem Ent3.new (w : World) (a b : En) : Ent3 (((w.alloc (entBox a)).alloc (entBox b)).alloc zEntO) w.heap.size a b := by
  refine ⟨?_, ?_, ?_⟩
  · exact (Below.heap_alloc _ _ _ (by simp; omega)).trans ((Below.heap_alloc _ _ _ (by simp)).trans (heap_alloc_new w _))
  · refine (Below.heap_alloc _ _ _ (by simp)).trans ?_
    have := heap_alloc_new (w.alloc (entBox a)) (entBox b)
    simpa using this
  · have := heap_alloc_new ((w.alloc (entBox a)).alloc (entBox b)) zEntO
    simpa using this
theorem Ent3.next {w w' : World} {B : Nat} {a b : En} (h : Ent3 w B a b) (hb : Below w.heap.size w w') : Ent3 w' B a b :=
  ⟨(hb.block _ (heap_lt h.one)).trans h.one, (hb.block _ (heap_lt h.two)).trans h.two, (hb.block _ (heap_lt h.res)).trans h.res⟩
theorem Ent3.cells {w : World} {B : Nat} {a b : En} (h : Ent3 w B a b) :
    (w.cell? ⟨B, 0, none⟩ = some (.string (S a.id)) ∧ w.cell? ⟨B, 1, none⟩ = some (.string (S a.title)) ∧ w.cell? ⟨B, 2, none⟩ = some (.string (S a.link)) ∧ w.cell? ⟨B, 3, none⟩ = some (.string (S a.content)) ∧ w.cell? ⟨B, 4, none⟩ = some (.int .i64 a.upd)) ∧
    (w.cell? ⟨B + 1, 0, none⟩ = some (.string (S b.id)) ∧ w.cell? ⟨B + 1, 1, none⟩ = some (.string (S b.title)) ∧ w.cell? ⟨B + 1, 2, none⟩ = some (.string (S b.link)) ∧ w.cell? ⟨B + 1, 3, none⟩ = some (.string (S b.content)) ∧ w.cell? ⟨B + 1, 4, none⟩ = some (.int .i64 b.upd)) :=
  ⟨cells5 h.one, cells5 h.two⟩

end Go.Proofs.YtadkgjbidhfefaaGreatDoor
