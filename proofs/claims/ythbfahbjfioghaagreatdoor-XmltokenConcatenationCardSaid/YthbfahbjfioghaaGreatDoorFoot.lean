/-
  Trees in memory, told with the blocks that they lie in: 'NodeP w p n cs': the cells cs are those of node n, and all that they lead to lies in blocks that satisfy p.
-/
import Derived.Test.YthbfahbjfioghaaGreatDoorTree
set_option linter.unusedVariables false
namespace Go.Proofs.YthbfahbjfioghaaGreatDoor
open Go.RowKit

def AttsP (w : World) (p : Nat → Prop) (v : Value) (ats : List Att) : Prop :=
  ∃ A cap, v = .slice A ats.length cap ∧ ats.length ≤ cap ∧ (ats = [] ∨ ∃ b off, A = some ⟨b, off, none⟩ ∧ p b ∧ ∀ (i : Nat) a, ats[i]? = some a → w.rangeAt b (off + i * 4) (attCells a))
mutual
def NodeP (w : World) (p : Nat → Prop) : Node → List Value → Prop
  | .mk k s n ats ks t q, cs => ∃ va A cap, cs = [.int .i64 k, .string (S s), .string (S n), va, .slice A ks.length cap, .string (S t), .int .i64 q] ∧ AttsP w p va ats ∧ ks.length ≤ cap ∧
      (ks = [] ∨ ∃ b off, A = some ⟨b, off, none⟩ ∧ p b ∧ KidsP w p b off ks)
def KidsP (w : World) (p : Nat → Prop) (b : Nat) : Nat → List Node → Prop
  | _, [] => True
  | off, k :: ks => (∃ cs, NodeP w p k cs ∧ w.rangeAt b off cs) ∧ KidsP w p b (off + 7) ks
end
def NodesP (w : World) (p : Nat → Prop) (v : Value) (ks : List Node) : Prop :=
  ∃ A cap, v = .slice A ks.length cap ∧ ks.length ≤ cap ∧ (ks = [] ∨ ∃ b off, A = some ⟨b, off, none⟩ ∧ p b ∧ KidsP w p b off ks)
def NodePV (w : World) (p : Nat → Prop) (n : Node) (v : Value) : Prop := ∃ cs : List Value, v = .agg cs.toArray ∧ NodeP w p n cs

section
variable {w w' : World} {p p' : Nat → Prop} {B b off : Nat}
theorem AttsP.keep {v : Value} {ats : List Att} (h : AttsP w p v ats) (hb : ∀ k, p k → w'.heap[k]? = w.heap[k]?) (hp : ∀ k, p k → p' k) : AttsP w' p' v ats := by
  obtain ⟨A, cap, hv, hc, h⟩ := h
  refine ⟨A, cap, hv, hc, h.imp id ?_⟩
  rintro ⟨b, off, hA, hlt, hr⟩
  exact ⟨b, off, hA, hp b hlt, fun i a hi => rangeAt_keep (hr i a hi) (hb b hlt)⟩
mutual
theorem NodeP.keep (hb : ∀ k, p k → w'.heap[k]? = w.heap[k]?) (hp : ∀ k, p k → p' k) : ∀ (n : Node) (cs : List Value), NodeP w p n cs → NodeP w' p' n cs
  | .mk k s nm ats ks t q, cs, h => by
    rw [NodeP] at h ⊢
    obtain ⟨va, A, cap, hcs, ha, hc, h⟩ := h
    refine ⟨va, A, cap, hcs, ha.keep hb hp, hc, h.imp id ?_⟩
    rintro ⟨b, off, hA, hlt, hr⟩
    exact ⟨b, off, hA, hp b hlt, KidsP.keep hb hp hlt ks off hr⟩
theorem KidsP.keep (hb : ∀ k, p k → w'.heap[k]? = w.heap[k]?) (hp : ∀ k, p k → p' k) {b : Nat} (hlt : p b) : ∀ (ks : List Node) (off : Nat), KidsP w p b off ks → KidsP w' p' b off ks
  | [], _, _ => by rw [KidsP]; trivial
  | k :: ks, off, h => by
    rw [KidsP] at h ⊢
    obtain ⟨⟨cs, h1, h2⟩, h3⟩ := h
    exact ⟨⟨cs, NodeP.keep hb hp k cs h1, rangeAt_keep h2 (hb b hlt)⟩, KidsP.keep hb hp hlt ks (off + 7) h3⟩
end
theorem NodesP.keep {v : Value} {ks : List Node} (h : NodesP w p v ks) (hb : ∀ k, p k → w'.heap[k]? = w.heap[k]?) (hp : ∀ k, p k → p' k) : NodesP w' p' v ks := by
  obtain ⟨A, cap, hv, hc, h⟩ := h
  refine ⟨A, cap, hv, hc, h.imp id ?_⟩
  rintro ⟨b, off, hA, hlt, hr⟩
  exact ⟨b, off, hA, hp b hlt, KidsP.keep hb hp hlt ks off hr⟩
theorem NodePV.keep {n : Node} {v : Value} (h : NodePV w p n v) (hb : ∀ k, p k → w'.heap[k]? = w.heap[k]?) (hp : ∀ k, p k → p' k) : NodePV w' p' n v := by
  obtain ⟨cs, hv, hn⟩ := h
  exact ⟨cs, hv, NodeP.keep hb hp n cs hn⟩
theorem KidsP.at_ : ∀ {ks : List Node} {off : Nat}, KidsP w p b off ks → ∀ {i : Nat} {k : Node}, ks[i]? = some k → ∃ cs, NodeP w p k cs ∧ w.rangeAt b (off + i * 7) cs
  | [], off, _, i, k, hi => by simp at hi
  | x :: ks, off, h, i, k, hi => by
    rw [KidsP] at h
    cases i with
    | zero => simp at hi; subst hi; simpa using h.1
    | succ i =>
      obtain ⟨cs, h1, h2⟩ := KidsP.at_ h.2 (i := i) (by simpa using hi)
      exact ⟨cs, h1, by rw [show off + (i + 1) * 7 = off + 7 + i * 7 by omega]; exact h2⟩
theorem KidsP.of_at : ∀ {ks : List Node} {off : Nat}, (∀ (i : Nat) (k : Node), ks[i]? = some k → ∃ cs, NodeP w p k cs ∧ w.rangeAt b (off + i * 7) cs) → KidsP w p b off ks
  | [], off, _ => by rw [KidsP]; trivial
  | x :: ks, off, h => by
    rw [KidsP]
    refine ⟨by simpa using h 0 x rfl, KidsP.of_at fun i k hi => ?_⟩
    have := h (i + 1) k (by simpa using hi)
    rw [show off + (i + 1) * 7 = off + 7 + i * 7 by omega] at this
    exact this
theorem NodeP.form {n : Node} {cs : List Value} (h : NodeP w p n cs) : ∃ va vk, cs = [.int .i64 n.kind, .string (S n.space), .string (S n.name), va, vk, .string (S n.text), .int .i64 n.pos] ∧ AttsP w p va n.attrs ∧ NodesP w p vk n.kids := by
  cases n with
  | mk k s nm ats ks t q =>
    rw [NodeP] at h
    obtain ⟨va, A, cap, hcs, ha, hc, h⟩ := h
    exact ⟨va, _, hcs, ha, A, cap, rfl, hc, h⟩
theorem NodeP.of_form {n : Node} {va vk : Value} (ha : AttsP w p va n.attrs) (hk : NodesP w p vk n.kids) :
    NodeP w p n [.int .i64 n.kind, .string (S n.space), .string (S n.name), va, vk, .string (S n.text), .int .i64 n.pos] := by
  cases n with
  | mk k s nm ats ks t q =>
    rw [NodeP]
    obtain ⟨A, cap, hv, hc, h⟩ := hk
    exact ⟨va, A, cap, by rw [hv]; rfl, ha, hc, h⟩
theorem NodePV.of_form {n : Node} {va vk : Value} (ha : AttsP w p va n.attrs) (hk : NodesP w p vk n.kids) :
    NodePV w p n (.agg #[.int .i64 n.kind, .string (S n.space), .string (S n.name), va, vk, .string (S n.text), .int .i64 n.pos]) :=
  ⟨_, rfl, NodeP.of_form ha hk⟩
theorem AttsP.slice {v : Value} {ats : List Att} (h : AttsP w p v ats) : ∃ A cap, v = .slice A ats.length cap ∧ ats.length ≤ cap := by
  obtain ⟨A, cap, hv, hc, _⟩ := h; exact ⟨A, cap, hv, hc⟩
theorem NodesP.slice {v : Value} {ks : List Node} (h : NodesP w p v ks) : ∃ A cap, v = .slice A ks.length cap ∧ ks.length ≤ cap := by
  obtain ⟨A, cap, hv, hc, _⟩ := h; exact ⟨A, cap, hv, hc⟩
theorem NodeP.open_ {n : Node} {cs : List Value} (h : NodeP w p n cs) : ∃ A c K d, cs = [.int .i64 n.kind, .string (S n.space), .string (S n.name), .slice A n.attrs.length c, .slice K n.kids.length d, .string (S n.text), .int .i64 n.pos] ∧
    AttsP w p (.slice A n.attrs.length c) n.attrs ∧ NodesP w p (.slice K n.kids.length d) n.kids ∧ n.attrs.length ≤ c ∧ n.kids.length ≤ d := by
  obtain ⟨va, vk, hcs, ha, hk⟩ := h.form
  obtain ⟨A, c, rfl, hc⟩ := ha.slice
  obtain ⟨K, d, rfl, hd⟩ := hk.slice
  exact ⟨A, c, K, d, hcs, ha, hk, hc, hd⟩
theorem NodePV.open_ {n : Node} {v : Value} (h : NodePV w p n v) : ∃ A c K d, v = .agg #[.int .i64 n.kind, .string (S n.space), .string (S n.name), .slice A n.attrs.length c, .slice K n.kids.length d, .string (S n.text), .int .i64 n.pos] ∧
    AttsP w p (.slice A n.attrs.length c) n.attrs ∧ NodesP w p (.slice K n.kids.length d) n.kids ∧ n.attrs.length ≤ c ∧ n.kids.length ≤ d := by
  obtain ⟨cs, hv, hn⟩ := h
  obtain ⟨A, c, K, d, hcs, h⟩ := hn.open_
  exact ⟨A, c, K, d, by rw [hv, hcs], h⟩
theorem NodesP.at_ {ks : List Node} {A : Option Addr} {n cap i : Nat} (h : NodesP w p (.slice A n cap) ks) (hi : i < ks.length) :
    ∃ b off cs, A = some ⟨b, off, none⟩ ∧ p b ∧ w.rangeAt b (off + i * 7) cs ∧ NodeP w p ks[i] cs := by
  obtain ⟨A', cap', hv, _, h⟩ := h
  cases hv
  rcases h with h | ⟨b, off, hA, hlt, hr⟩
  · subst h; simp at hi
  · obtain ⟨cs, h1, h2⟩ := hr.at_ (List.getElem?_eq_getElem hi)
    exact ⟨b, off, cs, hA, hlt, h2, h1⟩
theorem AttsP.at_ {ats : List Att} {A : Option Addr} {n cap i : Nat} (h : AttsP w p (.slice A n cap) ats) (hi : i < ats.length) :
    ∃ b off, A = some ⟨b, off, none⟩ ∧ p b ∧ w.rangeAt b (off + i * 4) (attCells ats[i]) := by
  obtain ⟨A', cap', hv, _, h⟩ := h
  cases hv
  rcases h with h | ⟨b, off, hA, hlt, hr⟩
  · subst h; simp at hi
  · exact ⟨b, off, hA, hlt, hr i _ (List.getElem?_eq_getElem hi)⟩

/-! The two ways to tell where a tree lies. -/
theorem AttsP.toIn {v : Value} {ats : List Att} (h : AttsP w p v ats) (hp : ∀ k, p k → k < B) : AttsIn w B v ats := by
  obtain ⟨A, cap, hv, hc, h⟩ := h
  exact ⟨A, cap, hv, hc, h.imp id fun ⟨b, off, hA, hlt, hr⟩ => ⟨b, off, hA, hp b hlt, hr⟩⟩
theorem AttsIn.toP {v : Value} {ats : List Att} (h : AttsIn w B v ats) : AttsP w (· < B) v ats := h
mutual
theorem NodeP.toIn (hp : ∀ k, p k → k < B) : ∀ (n : Node) (cs : List Value), NodeP w p n cs → NodeIn w B n cs
  | .mk k s nm ats ks t q, cs, h => by
    rw [NodeP] at h
    rw [NodeIn]
    obtain ⟨va, A, cap, hcs, ha, hc, h⟩ := h
    refine ⟨va, A, cap, hcs, ha.toIn hp, hc, h.imp id ?_⟩
    rintro ⟨b, off, hA, hlt, hr⟩
    exact ⟨b, off, hA, hp b hlt, KidsP.toIn hp ks off hr⟩
theorem KidsP.toIn (hp : ∀ k, p k → k < B) {b : Nat} : ∀ (ks : List Node) (off : Nat), KidsP w p b off ks → KidsIn w B b off ks
  | [], _, _ => by rw [KidsIn]; trivial
  | k :: ks, off, h => by
    rw [KidsP] at h
    rw [KidsIn]
    obtain ⟨⟨cs, h1, h2⟩, h3⟩ := h
    exact ⟨⟨cs, NodeP.toIn hp k cs h1, h2⟩, KidsP.toIn hp ks (off + 7) h3⟩
end
mutual
theorem NodeIn.toP : ∀ (n : Node) (cs : List Value), NodeIn w B n cs → NodeP w (· < B) n cs
  | .mk k s nm ats ks t q, cs, h => by
    rw [NodeIn] at h
    rw [NodeP]
    obtain ⟨va, A, cap, hcs, ha, hc, h⟩ := h
    refine ⟨va, A, cap, hcs, ha, hc, h.imp id ?_⟩
    rintro ⟨b, off, hA, hlt, hr⟩
    exact ⟨b, off, hA, hlt, KidsIn.toP ks off hr⟩
theorem KidsIn.toP {b : Nat} : ∀ (ks : List Node) (off : Nat), KidsIn w B b off ks → KidsP w (· < B) b off ks
  | [], _, _ => by rw [KidsP]; trivial
  | k :: ks, off, h => by
    rw [KidsIn] at h
    rw [KidsP]
    obtain ⟨⟨cs, h1, h2⟩, h3⟩ := h
    exact ⟨⟨cs, NodeIn.toP k cs h1, h2⟩, KidsIn.toP ks (off + 7) h3⟩
end
theorem NodesP.toIn {v : Value} {ks : List Node} (h : NodesP w p v ks) (hp : ∀ k, p k → k < B) : NodesIn w B v ks := by
  obtain ⟨A, cap, hv, hc, h⟩ := h
  exact ⟨A, cap, hv, hc, h.imp id fun ⟨b, off, hA, hlt, hr⟩ => ⟨b, off, hA, hp b hlt, KidsP.toIn hp _ _ hr⟩⟩
theorem NodesIn.toP {v : Value} {ks : List Node} (h : NodesIn w B v ks) : NodesP w (· < B) v ks := by
  obtain ⟨A, cap, hv, hc, h⟩ := h
  exact ⟨A, cap, hv, hc, h.imp id fun ⟨b, off, hA, hlt, hr⟩ => ⟨b, off, hA, hlt, KidsIn.toP _ _ hr⟩⟩
theorem NodePV.toV {n : Node} {v : Value} (h : NodePV w p n v) (hp : ∀ k, p k → k < B) : NodeV w B n v := by
  obtain ⟨cs, hv, hn⟩ := h
  exact ⟨cs, hv, NodeP.toIn hp n cs hn⟩
theorem NodeV.toP {n : Node} {v : Value} (h : NodeV w B n v) : NodePV w (· < B) n v := by
  obtain ⟨cs, hv, hn⟩ := h
  exact ⟨cs, hv, NodeIn.toP n cs hn⟩
end
end Go.Proofs.YthbfahbjfioghaaGreatDoor
