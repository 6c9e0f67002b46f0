/-
  From the reading of an argument to a slice of elements in memory, of any kind.
-/
import Derived.Test.YthlppbpccldikaaDoorH3
import Derived.Deep.Slices
import Derived.SizedLaws
import Derived.Carry
import Derived.ChangeSame
set_option linter.unusedVariables false
namespace Go.Proofs.YthlppbpccldikaaDoor
open Go.RowKit Go.ChangeShapes Go.WideShapes

theorem weightsAll_of {H : Type} {P : Program} {e : TypeId} : ∀ {l : List (DataW H)} {d : DataW H}, d ∈ l → ∀ n ∈ d.weights P e, n ∈ DataW.weightsAll P e l
  | x :: l, d, hd, n, hn => by
    rw [DataW.weightsAll, List.mem_append]
    rcases List.mem_cons.1 hd with rfl | hd
    · exact .inl hn
    · exact .inr (weightsAll_of hd n hn)
theorem addr_plain {w : World} {a : Addr} {i : Nat} {v : Value} (h : w.cell? (a.add i) = some v) (h0 : i = 0) : ∃ b off, a = ⟨b, off, none⟩ ∧ b < w.heap.size := by
  obtain ⟨b, off, spot⟩ := a
  subst h0
  have h' : w.cell? ⟨b, off, spot⟩ = some v := by simpa [Addr.add] using h
  have hspot : spot = none := World.cell?_spot h'
  subst hspot
  refine ⟨b, off, rfl, ?_⟩
  rcases Nat.lt_or_ge b w.heap.size with hb | hb
  · exact hb
  · simp [World.cell?, Array.getElem?_eq_none hb] at h'
theorem add_none (b off i : Nat) : (⟨b, off, none⟩ : Addr).add i = ⟨b, off + i, none⟩ := by unfold Addr.add; split <;> simp_all

set_option maxRecDepth 100000 in
theorem open_els {α : Type} {E : Elt α} (hE : E.Ok) {H : Type} {enc : TypeId × Value → H} {w : World} (hce : Tryd.prog.cellsOf E.T = E.c) (hby : Tryd.prog.bytesOf E.T = E.bytes) (Q : α → Prop) {fuel : Nat} {cs : List Value} {x : DataW H × List MemPlace}
    (h : DataW.trod enc Tryd.prog w 0 (fun _ => true) true fuel E.TS cs = some x) (hs : ∀ q ∈ x.1.weights Tryd.prog E.TS, q ≤ reachBytes)
    (hel : ∀ n', n' < fuel → ∀ {cs : List Value} {x : DataW H × List MemPlace}, DataW.trod enc Tryd.prog w 0 (fun _ => true) true n' E.T cs = some x → (∀ q ∈ x.1.weights Tryd.prog E.T, q ≤ reachBytes) → ∃ a, E.El w (· < w.heap.size) a cs ∧ Q a) :
    ∃ v l, cs = [v] ∧ ElsP E w (· < w.heap.size) v l ∧ l.length * E.bytes ≤ 140737488351232 ∧ ∀ a ∈ l, Q a := by
  rcases DataW.trod_slice hE.list h with ⟨rfl, _⟩ | ⟨a, len, cap, elems, rest, n', hn', rfl, rfl, _, hlc, _, hel2, hat, _⟩
  · exact ⟨_, [], rfl, ⟨none, 0, rfl, Nat.le_refl _, .inl rfl⟩, by simp, by simp⟩
  · have hw0 := hs ((elems.length + rest.length) * E.bytes) (by simp [DataW.weights, hE.list, hby])
    have hreach : reachBytes = 140737488351232 := rfl
    rw [hce] at hat
    have hi : ∀ i, i < len → ∃ kc : α × List Value, E.El w (· < w.heap.size) kc.1 kc.2 ∧ Q kc.1 ∧ ∀ j v, kc.2[j]? = some v → w.cell? (a.add (i * E.c + j)) = some v := by
      intro i hi
      have h1 := hat i hi
      rw [List.getElem?_eq_getElem (by omega)] at h1
      obtain ⟨cs', h2, h3⟩ := Option.bind_eq_some_iff.1 h1
      obtain ⟨_, hl', hc⟩ := World.cells?_some h2
      obtain ⟨k, hk1, hk2⟩ := hel n' (by omega) h3 (fun q hq => hs q (by
        simp only [DataW.weights, hE.list, List.mem_cons, List.mem_append]
        exact .inr (.inl (weightsAll_of (List.mem_map_of_mem (List.getElem_mem (show i < elems.length by omega))) q hq))))
      refine ⟨(k, cs'), hk1, hk2, fun j v hj => ?_⟩
      have hj7 : j < E.c := by rw [← hl']; exact (List.getElem?_eq_some_iff.1 hj).1
      have := hc j hj7
      rw [Go.Deep.add_add] at this
      rw [this, hj]
    have hlen : len * E.bytes ≤ 140737488351232 := by
      have h1 : len * E.bytes ≤ (elems.length + rest.length) * E.bytes := Nat.mul_le_mul_right _ (by omega)
      omega
    by_cases h0 : len = 0
    · subst h0
      exact ⟨_, [], rfl, ⟨_, cap, rfl, Nat.zero_le _, .inl rfl⟩, by simp, by simp⟩
    · obtain ⟨kc0, h01, _, h00⟩ := hi 0 (by omega)
      have hl0 := hE.len h01
      have hp0 := hE.pos
      obtain ⟨b, off, rfl, hb⟩ := addr_plain (h00 0 _ (List.getElem?_eq_getElem (by omega))) (by simp)
      have : Inhabited (α × List Value) := ⟨kc0⟩
      obtain ⟨f, hf⟩ := Go.Deep.choose_lt hi
      refine ⟨_, (List.range len).map fun i => (f i).1, rfl, ⟨_, cap, by simp, by simpa using hlc, .inr ⟨b, off, rfl, hb, fun i k hk => ?_⟩⟩, by simpa using hlen, fun k hk => ?_⟩
      · have hil : i < len := by have := (List.getElem?_eq_some_iff.1 hk).1; simpa using this
        simp [hil] at hk
        subst hk
        refine ⟨(f i).2, (hf i hil).1, fun j v hj => ?_⟩
        have := (hf i hil).2.2 j v hj
        rw [add_none] at this
        rw [show off + i * E.c + j = off + (i * E.c + j) by omega]
        exact this
      · simp only [List.mem_map, List.mem_range] at hk
        obtain ⟨i, hil, rfl⟩ := hk
        exact (hf i hil).2.1
end Go.Proofs.YthlppbpccldikaaDoor
