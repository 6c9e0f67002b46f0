/-
  Trees: what a node of a document is, and how it lies in memory. No function of the program.
-/
import Derived.Test.YthbfahbjfioghaaGreatDoorGen
import Derived.Test.YthbfahbjfioghaaGreatDoorBuild
import Derived.Deep.MidRow
set_option linter.unusedVariables false
namespace Go.Proofs.YthbfahbjfioghaaGreatDoor
open Go.RowKit

structure Att where
  space : Bytes
  name : Bytes
  value : Bytes
  pos : Int
inductive Node where
  | mk (kind : Int) (space name : Bytes) (attrs : List Att) (kids : List Node) (text : Bytes) (pos : Int)
namespace Node
def kind : Node → Int | mk k _ _ _ _ _ _ => k
def space : Node → Bytes | mk _ s _ _ _ _ _ => s
def name : Node → Bytes | mk _ _ n _ _ _ _ => n
def attrs : Node → List Att | mk _ _ _ ats _ _ _ => ats
def kids : Node → List Node | mk _ _ _ _ ks _ _ => ks
def text : Node → Bytes | mk _ _ _ _ _ t _ => t
def pos : Node → Int | mk _ _ _ _ _ _ p => p
end Node

/-- The cells of an attribute. -/
def attCells (a : Att) : List Value := [.string (S a.space), .string (S a.name), .string (S a.value), .int .i64 a.pos]
/-- The value v is a slice of attributes that lies below block B. -/
def AttsIn (w : World) (B : Nat) (v : Value) (ats : List Att) : Prop :=
  ∃ A cap, v = .slice A ats.length cap ∧ ats.length ≤ cap ∧ (ats = [] ∨ ∃ b off, A = some ⟨b, off, none⟩ ∧ b < B ∧ ∀ (i : Nat) a, ats[i]? = some a → w.rangeAt b (off + i * 4) (attCells a))
mutual
/-- The cells of a node. -/
def NodeIn (w : World) (B : Nat) : Node → List Value → Prop
  | .mk k s n ats ks t p, cs => ∃ va A cap, cs = [.int .i64 k, .string (S s), .string (S n), va, .slice A ks.length cap, .string (S t), .int .i64 p] ∧ AttsIn w B va ats ∧ ks.length ≤ cap ∧
      (ks = [] ∨ ∃ b off, A = some ⟨b, off, none⟩ ∧ b < B ∧ KidsIn w B b off ks)
/-- Nodes one behind the other from an offset of a block on. -/
def KidsIn (w : World) (B b : Nat) : Nat → List Node → Prop
  | _, [] => True
  | off, k :: ks => (∃ cs, NodeIn w B k cs ∧ w.rangeAt b off cs) ∧ KidsIn w B b (off + 7) ks
end
/-- A slice of nodes. -/
def NodesIn (w : World) (B : Nat) (v : Value) (ks : List Node) : Prop :=
  ∃ A cap, v = .slice A ks.length cap ∧ ks.length ≤ cap ∧ (ks = [] ∨ ∃ b off, A = some ⟨b, off, none⟩ ∧ b < B ∧ KidsIn w B b off ks)
/-- A node ats a value. -/
def NodeV (w : World) (B : Nat) (n : Node) (v : Value) : Prop := ∃ cs : List Value, v = .agg cs.toArray ∧ NodeIn w B n cs

section
variable {w w' : World} {B B' b off : Nat}
theorem AttsIn.keep {v : Value} {ats : List Att} (h : AttsIn w B v ats) (hb : ∀ k, k < B → w'.heap[k]? = w.heap[k]?) (hB : B ≤ B') : AttsIn w' B' v ats := by
  obtain ⟨A, cap, hv, hc, h⟩ := h
  refine ⟨A, cap, hv, hc, h.imp id ?_⟩
  rintro ⟨b, off, hA, hlt, hr⟩
  exact ⟨b, off, hA, by omega, fun i a hi => rangeAt_keep (hr i a hi) (hb b hlt)⟩
mutual
theorem NodeIn.keep (hb : ∀ k, k < B → w'.heap[k]? = w.heap[k]?) (hB : B ≤ B') : ∀ (n : Node) (cs : List Value), NodeIn w B n cs → NodeIn w' B' n cs
  | .mk k s nm ats ks t p, cs, h => by
    rw [NodeIn] at h ⊢
    obtain ⟨va, A, cap, hcs, ha, hc, h⟩ := h
    refine ⟨va, A, cap, hcs, ha.keep hb hB, hc, h.imp id ?_⟩
    rintro ⟨b, off, hA, hlt, hr⟩
    exact ⟨b, off, hA, by omega, KidsIn.keep hb hB hlt ks off hr⟩
theorem KidsIn.keep (hb : ∀ k, k < B → w'.heap[k]? = w.heap[k]?) (hB : B ≤ B') {b : Nat} (hlt : b < B) : ∀ (ks : List Node) (off : Nat), KidsIn w B b off ks → KidsIn w' B' b off ks
  | [], _, _ => by rw [KidsIn]; trivial
  | k :: ks, off, h => by
    rw [KidsIn] at h ⊢
    obtain ⟨⟨cs, h1, h2⟩, h3⟩ := h
    exact ⟨⟨cs, NodeIn.keep hb hB k cs h1, rangeAt_keep h2 (hb b hlt)⟩, KidsIn.keep hb hB hlt ks (off + 7) h3⟩
end
theorem NodesIn.keep {v : Value} {ks : List Node} (h : NodesIn w B v ks) (hb : ∀ k, k < B → w'.heap[k]? = w.heap[k]?) (hB : B ≤ B') : NodesIn w' B' v ks := by
  obtain ⟨A, cap, hv, hc, h⟩ := h
  refine ⟨A, cap, hv, hc, h.imp id ?_⟩
  rintro ⟨b, off, hA, hlt, hr⟩
  exact ⟨b, off, hA, by omega, KidsIn.keep hb hB hlt ks off hr⟩
theorem NodeV.keep {n : Node} {v : Value} (h : NodeV w B n v) (hb : ∀ k, k < B → w'.heap[k]? = w.heap[k]?) (hB : B ≤ B') : NodeV w' B' n v := by
  obtain ⟨cs, hv, hn⟩ := h
  exact ⟨cs, hv, NodeIn.keep hb hB n cs hn⟩
theorem NodeV.below {n : Node} {v : Value} (h : NodeV w B n v) (hb : Below B w w') : NodeV w' B n v := h.keep hb.block (Nat.le_refl _)
theorem NodeV.more {n : Node} {v : Value} (h : NodeV w B n v) (hB : B ≤ B') : NodeV w B' n v := h.keep (fun _ _ => rfl) hB
theorem NodesIn.below {ks : List Node} {v : Value} (h : NodesIn w B v ks) (hb : Below B w w') : NodesIn w' B v ks := h.keep hb.block (Nat.le_refl _)
theorem AttsIn.below {ats : List Att} {v : Value} (h : AttsIn w B v ats) (hb : Below B w w') : AttsIn w' B v ats := h.keep hb.block (Nat.le_refl _)
theorem KidsIn.at_ : ∀ {ks : List Node} {off : Nat}, KidsIn w B b off ks → ∀ {i : Nat} {k : Node}, ks[i]? = some k → ∃ cs, NodeIn w B k cs ∧ w.rangeAt b (off + i * 7) cs
  | [], off, _, i, k, hi => by simp at hi
  | x :: ks, off, h, i, k, hi => by
    rw [KidsIn] at h
    cases i with
    | zero => simp at hi; subst hi; simpa using h.1
    | succ i =>
      obtain ⟨cs, h1, h2⟩ := KidsIn.at_ h.2 (i := i) (by simpa using hi)
      exact ⟨cs, h1, by rw [show off + (i + 1) * 7 = off + 7 + i * 7 by omega]; exact h2⟩
theorem KidsIn.of_at : ∀ {ks : List Node} {off : Nat}, (∀ (i : Nat) (k : Node), ks[i]? = some k → ∃ cs, NodeIn w B k cs ∧ w.rangeAt b (off + i * 7) cs) → KidsIn w B b off ks
  | [], off, _ => by rw [KidsIn]; trivial
  | x :: ks, off, h => by
    rw [KidsIn]
    refine ⟨by simpa using h 0 x rfl, KidsIn.of_at fun i k hi => ?_⟩
    have := h (i + 1) k (by simpa using hi)
    rw [show off + (i + 1) * 7 = off + 7 + i * 7 by omega] at this
    exact this
theorem NodeIn.form {n : Node} {cs : List Value} (h : NodeIn w B n cs) : ∃ va vk, cs = [.int .i64 n.kind, .string (S n.space), .string (S n.name), va, vk, .string (S n.text), .int .i64 n.pos] ∧ AttsIn w B va n.attrs ∧ NodesIn w B vk n.kids := by
  cases n with
  | mk k s nm ats ks t p =>
    rw [NodeIn] at h
    obtain ⟨va, A, cap, hcs, ha, hc, h⟩ := h
    exact ⟨va, _, hcs, ha, A, cap, rfl, hc, h⟩
theorem NodeIn.of_form {n : Node} {va vk : Value} (ha : AttsIn w B va n.attrs) (hk : NodesIn w B vk n.kids) :
    NodeIn w B n [.int .i64 n.kind, .string (S n.space), .string (S n.name), va, vk, .string (S n.text), .int .i64 n.pos] := by
  cases n with
  | mk k s nm ats ks t p =>
    rw [NodeIn]
    obtain ⟨A, cap, hv, hc, h⟩ := hk
    exact ⟨va, A, cap, by rw [hv]; rfl, ha, hc, h⟩
theorem NodeV.form {n : Node} {v : Value} (h : NodeV w B n v) : ∃ va vk, v = .agg #[.int .i64 n.kind, .string (S n.space), .string (S n.name), va, vk, .string (S n.text), .int .i64 n.pos] ∧ AttsIn w B va n.attrs ∧ NodesIn w B vk n.kids := by
  obtain ⟨cs, hv, hn⟩ := h
  obtain ⟨va, vk, hcs, ha, hk⟩ := hn.form
  exact ⟨va, vk, by rw [hv, hcs], ha, hk⟩
theorem NodeV.of_form {n : Node} {va vk : Value} (ha : AttsIn w B va n.attrs) (hk : NodesIn w B vk n.kids) :
    NodeV w B n (.agg #[.int .i64 n.kind, .string (S n.space), .string (S n.name), va, vk, .string (S n.text), .int .i64 n.pos]) :=
  ⟨_, rfl, NodeIn.of_form ha hk⟩
theorem AttsIn.slice {ats : List Att} {v : Value} (h : AttsIn w B v ats) : ∃ A cap, v = .slice A ats.length cap ∧ ats.length ≤ cap := by
  obtain ⟨A, cap, hv, hc, _⟩ := h; exact ⟨A, cap, hv, hc⟩
theorem NodesIn.slice {ks : List Node} {v : Value} (h : NodesIn w B v ks) : ∃ A cap, v = .slice A ks.length cap ∧ ks.length ≤ cap := by
  obtain ⟨A, cap, hv, hc, _⟩ := h; exact ⟨A, cap, hv, hc⟩
theorem NodeIn.open_ {n : Node} {cs : List Value} (h : NodeIn w B n cs) : ∃ A c K d, cs = [.int .i64 n.kind, .string (S n.space), .string (S n.name), .slice A n.attrs.length c, .slice K n.kids.length d, .string (S n.text), .int .i64 n.pos] ∧
    AttsIn w B (.slice A n.attrs.length c) n.attrs ∧ NodesIn w B (.slice K n.kids.length d) n.kids ∧ n.attrs.length ≤ c ∧ n.kids.length ≤ d := by
  obtain ⟨va, vk, hcs, ha, hk⟩ := h.form
  obtain ⟨A, c, rfl, hc⟩ := ha.slice
  obtain ⟨K, d, rfl, hd⟩ := hk.slice
  exact ⟨A, c, K, d, hcs, ha, hk, hc, hd⟩
theorem NodeV.open_ {n : Node} {v : Value} (h : NodeV w B n v) : ∃ A c K d, v = .agg #[.int .i64 n.kind, .string (S n.space), .string (S n.name), .slice A n.attrs.length c, .slice K n.kids.length d, .string (S n.text), .int .i64 n.pos] ∧
    AttsIn w B (.slice A n.attrs.length c) n.attrs ∧ NodesIn w B (.slice K n.kids.length d) n.kids ∧ n.attrs.length ≤ c ∧ n.kids.length ≤ d := by
  obtain ⟨cs, hv, hn⟩ := h
  obtain ⟨A, c, K, d, hcs, h⟩ := hn.open_
  exact ⟨A, c, K, d, by rw [hv, hcs], h⟩
theorem AttsIn.at_ {ats : List Att} {A : Option Addr} {n cap i : Nat} (h : AttsIn w B (.slice A n cap) ats) (hi : i < ats.length) :
    ∃ b off, A = some ⟨b, off, none⟩ ∧ b < B ∧ w.rangeAt b (off + i * 4) (attCells ats[i]) := by
  obtain ⟨A', cap', hv, _, h⟩ := h
  cases hv
  rcases h with h | ⟨b, off, hA, hlt, hr⟩
  · subst h; simp at hi
  · exact ⟨b, off, hA, hlt, hr i _ (List.getElem?_eq_getElem hi)⟩
theorem NodesIn.at_ {ks : List Node} {A : Option Addr} {n cap i : Nat} (h : NodesIn w B (.slice A n cap) ks) (hi : i < ks.length) :
    ∃ b off cs, A = some ⟨b, off, none⟩ ∧ b < B ∧ w.rangeAt b (off + i * 7) cs ∧ NodeIn w B ks[i] cs := by
  obtain ⟨A', cap', hv, _, h⟩ := h
  cases hv
  rcases h with h | ⟨b, off, hA, hlt, hr⟩
  · subst h; simp at hi
  · obtain ⟨cs, h1, h2⟩ := hr.at_ (List.getElem?_eq_getElem hi)
    exact ⟨b, off, cs, hA, hlt, h2, h1⟩
end
end Go.Proofs.YthbfahbjfioghaaGreatDoor
