/-
  Plain functions of chapter 7 (xmltree): the tree of a list of tokens. No program.
-/
import Derived.Test.YtaghipnheomggaaDoorTok
set_option linter.unusedVariables false
namespace Go.Proofs.YtaghipnheomggaaDoor

def zNodeN : Node := .mk 0 [] [] [] [] [] 0
/-- Text joins the text ahead of it. -/
def addText (ks : List Node) (u : Tok) : List Node :=
  match ks.getLast? with
  | some (.mk k s n ats kk t p) => if k = 1 then ks.dropLast ++ [.mk k s n ats kk (t ++ u.text) p] else ks ++ [.mk 1 [] [] [] [] u.text u.pos]
  | none => ks ++ [.mk 1 [] [] [] [] u.text u.pos]
mutual
def elemF (ts : List Tok) (en : Nat) : Nat → Nat → Nat → Except (Int × Nat) (Node × Nat)
  | 0, _, _ => .error (0, 0)
  | f + 1, d, i =>
    match ts[i]? with
    | none => .error (0, 0)
    | some t =>
      if 100 < d then .error (t.pos, 9)
      else if t.empty = true then .ok (.mk 0 [] t.name t.attrs [] [] t.pos, i + 1)
      else match kidsF ts en f d t.name (i + 1) [] with
        | .error e => .error e
        | .ok (ks, j) => .ok (.mk 0 [] t.name t.attrs ks [] t.pos, j)
def kidsF (ts : List Tok) (en : Nat) : Nat → Nat → Bytes → Nat → List Node → Except (Int × Nat) (List Node × Nat)
  | 0, _, _, _, _ => .error (0, 0)
  | f + 1, d, nm, i, ks =>
    match ts[i]? with
    | none => .error ((en : Int), 8)
    | some u =>
      if u.kind = 2 then (if u.name = nm then .ok (ks, i + 1) else .error (u.pos, 14))
      else if u.kind = 1 then
        match elemF ts en f (d + 1) i with
        | .error e => .error e
        | .ok (k, j) => kidsF ts en f d nm j (ks ++ [k])
      else kidsF ts en f d nm (i + 1) (addText ks u)
end
def blank (l : Bytes) : Bool := l.all isSp
/-- The document's parts. -/
def parL (ts : List Tok) (en : Nat) : Nat → Nat → Option Node → Except (Int × Nat) Node
  | 0, _, _ => .error (0, 0)
  | f + 1, i, r =>
    match ts[i]? with
    | none => (match r with | some n => .ok n | none => .error ((en : Int), 8))
    | some t =>
      if t.kind = 1 ∧ r.isSome = true then .error (t.pos, 17)
      else if t.kind = 2 then .error (t.pos, 14)
      else if t.kind = 3 ∧ blank t.text = false then .error (t.pos, 7)
      else if t.kind = 3 then parL ts en f (i + 1) r
      else match elemF ts en (2 * ts.length) 1 i with
        | .error e => .error e
        | .ok (n, j) => parL ts en f j (some n)
def parse (l : Bytes) : Except (Int × Nat) Node :=
  if (toks l).2.2 ≠ 0 then .error (((toks l).2.1 : Int), (toks l).2.2)
  else parL (toks l).1 l.length ((toks l).1.length + 1) 0 none
/-- What Parse returns. -/
def parR (l : Bytes) : Node × Int × Int := match parse l with | .error e => (zNodeN, e.1, e.2) | .ok n => (n, l.length, 0)

/-! How far an element reaches, and errors are errors. -/
mutual
theorem elemF_ok {ts : List Tok} {en : Nat} : ∀ {f d i : Nat} {n : Node} {j : Nat}, elemF ts en f d i = .ok (n, j) → i < j ∧ j ≤ ts.length
  | 0, _, _, _, _, h => by rw [elemF] at h; cases h
  | f + 1, d, i, n, j, h => by
    rw [elemF] at h
    cases ht : ts[i]? with
    | none => rw [ht] at h; cases h
    | some t =>
      have hi := (List.getElem?_eq_some_iff.1 ht).1
      rw [ht] at h
      simp only at h
      split at h
      · cases h
      · split at h
        · cases h; omega
        · cases hk : kidsF ts en f d t.name (i + 1) [] with
          | error e => rw [hk] at h; cases h
          | ok p =>
            obtain ⟨ks, j'⟩ := p
            rw [hk] at h
            cases h
            have := kidsF_ok hk
            omega
theorem kidsF_ok {ts : List Tok} {en : Nat} : ∀ {f d : Nat} {nm : Bytes} {i : Nat} {ks ks' : List Node} {j : Nat}, kidsF ts en f d nm i ks = .ok (ks', j) → i < j ∧ j ≤ ts.length
  | 0, _, _, _, _, _, _, h => by rw [kidsF] at h; cases h
  | f + 1, d, nm, i, ks, ks', j, h => by
    rw [kidsF] at h
    cases ht : ts[i]? with
    | none => rw [ht] at h; cases h
    | some t =>
      have hi := (List.getElem?_eq_some_iff.1 ht).1
      rw [ht] at h
      simp only at h
      split at h
      · split at h
        · cases h; omega
        · cases h
      · split at h
        · cases he : elemF ts en f (d + 1) i with
          | error e => rw [he] at h; cases h
          | ok p =>
            obtain ⟨k, j'⟩ := p
            rw [he] at h
            have h1 := elemF_ok he
            have h2 := kidsF_ok h
            omega
        · have h2 := kidsF_ok h
          omega
end
mutual
theorem elemF_err {ts : List Tok} {en : Nat} : ∀ {f d i : Nat} {e : Int × Nat}, i < ts.length → 2 * (ts.length - i) ≤ f → elemF ts en f d i = .error e → e.2 ≠ 0
  | 0, _, i, _, hi, hf, h => by omega
  | f + 1, d, i, e, hi, hf, h => by
    rw [elemF] at h
    rw [List.getElem?_eq_getElem hi] at h
    simp only at h
    split at h
    · cases h; simp
    · split at h
      · cases h
      · cases hk : kidsF ts en f d ts[i].name (i + 1) [] with
        | error e => rw [hk] at h; cases h; exact kidsF_err (by omega) (by omega) hk
        | ok p =>
          rw [hk] at h
          cases h
theorem kidsF_err {ts : List Tok} {en : Nat} : ∀ {f d : Nat} {nm : Bytes} {i : Nat} {ks : List Node} {e : Int × Nat}, i ≤ ts.length → 2 * (ts.length - i) + 1 ≤ f → kidsF ts en f d nm i ks = .error e → e.2 ≠ 0
  | 0, _, _, _, _, _, hi, hf, h => by omega
  | f + 1, d, nm, i, ks, e, hi, hf, h => by
    rw [kidsF] at h
    cases ht : ts[i]? with
    | none => rw [ht] at h; cases h; simp
    | some t =>
      have hi := (List.getElem?_eq_some_iff.1 ht).1
      rw [ht] at h
      simp only at h
      split at h
      · split at h
        · cases h
        · cases h; simp
      · split at h
        · cases he : elemF ts en f (d + 1) i with
          | error e => rw [he] at h; cases h; exact elemF_err hi (by omega) he
          | ok p =>
            obtain ⟨k, j'⟩ := p
            rw [he] at h
            have h1 := elemF_ok he
            exact kidsF_err (by omega) (by omega) h
        · exact kidsF_err (by omega) (by omega) h
end
end Go.Proofs.YtaghipnheomggaaDoor
