/-
  Several texts in one file, in build order:
  - Plain functions of chapter 8 (xmlns): names, splitting, scopes, resolving a tree. No program.
  - Walks of chapter 1: names without a colon (reference, program).
  - Walks of strings.Cut at ":" and of strings.CutPrefix.
  - Walks of chapter 8: Split (program, reference), declared, declares.
  - Walks of chapter 8: declared (program), declares (reference): the prefix that an attribute declares.
  - Rows of elements of any kind: slices that lie in memory, slices that a call builds itself, appending one element or a whole row.
  - Plain laws of chapter 8: errors are errors, resolving a row of kids one by one, trees whose texts bear nothing; nodes as elements of rows.
  - Walk of chapter 8: the program's enter.
  - Walk of chapter 8: the closure of the program's resolve that adds an attribute.
  - Storing a whole element into a row that the call has built itself.
  - A statement 'x.f = append(x.f, v)' of nodes, v a variable in memory, in whatever order its operations come: over a frame and a post that are letters.
  - Walk of chapter 8: the program's resolve.
  - Walk of chapter 8: the program's Resolve.
  - Plain laws of chapters 6 and 7: how large the tree of a document is; its texts bear nothing. No program.
  - Chapter 8's statements: documents that are accepted; the example of the chapter.
  - Resolving keeps sizes; a tree equals itself. No function of the program.
-/
import Derived.Test.YtaghipnheomggaaDoorSpec01
import Derived.Test.YtaghipnheomggaaDoorTree
import Derived.Test.YtaghipnheomggaaDoorRef05
import Derived.Test.YtaghipnheomggaaDoorText4
import Derived.Lib.TrimUEq
import Derived.Lib.OthersKept
import Derived.Deep.LoopGhost
import Derived.Test.YtaghipnheomggaaDoorMem
import Derived.Test.YtaghipnheomggaaDoorLoad
import Derived.Test.YtaghipnheomggaaDoorMap
import Derived.Test.YtaghipnheomggaaDoorRow
import Derived.Maps.AppendAt
import Derived.Test.YtaghipnheomggaaDoorPar4
import Derived.Test.YtaghipnheomggaaDoorTokR5
import Derived.Test.YtaghipnheomggaaDoorApp2
import Derived.Test.YtaghipnheomggaaDoorPar1
import Derived.Test.YtaghipnheomggaaDoorTre7
import Derived.Test.YtaghipnheomggaaDoorTok3
import Derived.Test.YtaghipnheomggaaDoorSpec07
import Derived.Test.YtaghipnheomggaaDoorPar5
set_option linter.unusedVariables false
namespace Go.Proofs.YtaghipnheomggaaDoor

/-! Names without a colon. -/
def nm1 : Nat → Bool → Bytes → Bool
  | _, _, [] => true
  | k + 1, f, _ :: t => nm1 k f t
  | 0, f, a :: t => if (dec (a :: t)).2 = 0 then false else if nameChar (dec (a :: t)).1 && (!f || nameStart (dec (a :: t)).1) then nm1 ((dec (a :: t)).2 - 1) false t else false
def isNm (l : Bytes) : Bool := l != [] && nm1 0 true l
theorem nm1_skip : ∀ (k : Nat) (f : Bool) (l : Bytes), k ≤ l.length → nm1 k f l = nm1 0 f (l.drop k)
  | 0, f, l, _ => by simp
  | k + 1, f, [], h => by simp at h
  | k + 1, f, a :: t, h => by
    rw [nm1, nm1_skip k f t (by simpa using h), List.drop_succ_cons]
theorem nm1_bad {l : Bytes} {f : Bool} (h0 : l ≠ []) (h : (dec l).2 = 0) : nm1 0 f l = false := by
  cases l with
  | nil => exact absurd rfl h0
  | cons a t => rw [nm1, if_pos h]
theorem nm1_char {l : Bytes} {f : Bool} (h0 : l ≠ []) (hc : (nameChar (dec l).1 && (!f || nameStart (dec l).1)) = false) : nm1 0 f l = false := by
  cases l with
  | nil => exact absurd rfl h0
  | cons a t =>
    rw [nm1]
    split
    · rfl
    · rw [if_neg (by rw [hc]; decide)]
theorem nm1_next {l : Bytes} {f : Bool} (h : (dec l).2 ≠ 0) (hc : (nameChar (dec l).1 && (!f || nameStart (dec l).1)) = true) : nm1 0 f l = nm1 0 false (l.drop (dec l).2) := by
  cases l with
  | nil => exact absurd rfl h
  | cons a t =>
    have hl := (dec_le (a :: t)).1
    rw [nm1, if_neg h, if_pos hc, nm1_skip _ _ _ (by simp at hl; omega)]
    obtain ⟨k, hk⟩ : ∃ k, (dec (a :: t)).2 = k + 1 := ⟨(dec (a :: t)).2 - 1, by omega⟩
    rw [hk]
    simp only [Nat.add_sub_cancel, List.drop_succ_cons]

/-! Splitting. -/
def bXml : Bytes := [120, 109, 108]
def bXmlns : Bytes := [120, 109, 108, 110, 115]
def bXmlnsC : Bytes := [120, 109, 108, 110, 115, 58]
def xmlSpace : Bytes := [104, 116, 116, 112, 58, 47, 47, 119, 119, 119, 46, 119, 51, 46, 111, 114, 103, 47, 88, 77, 76, 47, 49, 57, 57, 56, 47, 110, 97, 109, 101, 115, 112, 97, 99, 101]
def splitF (l : Bytes) : Option (Bytes × Bytes) :=
  match upto 58 l with
  | some p => if isNm p && isNm (l.drop (p.length + 1)) then some (p, l.drop (p.length + 1)) else none
  | none => if isNm l then some ([], l) else none
/-- What Split returns. -/
def splR (l : Bytes) : Bytes × Bytes × Bool := match splitF l with | some (p, q) => (p, q, true) | none => ([], [], false)
/-- The prefix that an attribute declares. -/
def declF (nm : Bytes) : Option Bytes := match splitF nm with | some (p, q) => if p = [] ∧ q = bXmlns then some [] else if p = bXmlns then some q else none | none => none

/-! Scopes. -/
abbrev Scope := Bytes → Option Bytes
def scope0 : Scope := fun k => if k = bXml then some xmlSpace else if k = [] then some [] else none
def Scope.put (g : Scope) (p v : Bytes) : Scope := fun k => if k = p then some v else g k
/-- The declarations of an element. -/
def enterL (g : Scope) : List Att → Except (Int × Nat) Scope
  | [] => .ok g
  | a :: ats =>
    if splitF a.name = none then .error (a.pos, 13)
    else match declF a.name with
      | none => enterL g ats
      | some d => if d = bXml ∨ d = bXmlns ∨ (d ≠ [] ∧ a.value = []) then .error (a.pos, 13) else enterL (g.put d a.value) ats
/-- An attribute's resolved name, behind those that stand already. -/
def attrsL (g : Scope) : List Att → List Att → Except (Int × Nat) (List Att)
  | acc, [] => .ok acc
  | acc, a :: ats =>
    match declF a.name with
    | some _ => attrsL g acc ats
    | none =>
      match (if (splR a.name).1 = [] then some [] else g (splR a.name).1) with
      | none => .error (a.pos, 13)
      | some sp => if acc.any (fun b => b.space == sp && b.name == (splR a.name).2.1) = true then .error (a.pos, 10) else attrsL g (acc ++ [⟨sp, (splR a.name).2.1, a.value, a.pos⟩]) ats
/-- The head of an element: its space, its local name, its attributes, the scope within it. -/
def headF (g : Scope) (n : Node) : Except (Int × Nat) (Bytes × Bytes × List Att × Scope) :=
  match splitF n.name with
  | none => .error (n.pos, 13)
  | some (p, q) =>
    if p = bXmlns then .error (n.pos, 13)
    else match enterL g n.attrs with
      | .error e => .error e
      | .ok g' =>
        match g' p with
        | none => .error (n.pos, 13)
        | some sp =>
          match attrsL g' [] n.attrs with
          | .error e => .error e
          | .ok ats => .ok (sp, q, ats, g')
mutual
def resN (g : Scope) : Node → Except (Int × Nat) Node
  | .mk k s nm ats ks t q =>
    match headF g (.mk k s nm ats [] t q) with
    | .error e => .error e
    | .ok (sp, l, bs, g') =>
      match resL g' ks with
      | .error e => .error e
      | .ok ks' => .ok (.mk 0 sp l bs ks' [] q)
def resL (g : Scope) : List Node → Except (Int × Nat) (List Node)
  | [] => .ok []
  | k :: ks =>
    if k.kind = 0 then
      match resN g k with
      | .error e => .error e
      | .ok k' => (match resL g ks with | .error e => .error e | .ok ks' => .ok (k' :: ks'))
    else match resL g ks with | .error e => .error e | .ok ks' => .ok (k :: ks')
end
def resolveF (n : Node) : Except (Int × Nat) Node := resN scope0 n

/-! Children, Attr. -/
def childrenF (n : Node) (sp nm : Bytes) : List Node := n.kids.filter fun k => decide (k.kind = 0) && k.space == sp && k.name == nm
def attrF (n : Node) (sp nm : Bytes) : Option Bytes := (n.attrs.find? fun a => a.space == sp && a.name == nm).map (·.value)
end Go.Proofs.YtaghipnheomggaaDoor
set_option linter.unusedVariables false
namespace Go.Proofs.YtaghipnheomggaaDoor
open Go.RowKit

theorem isNm_ne {l : Bytes} (h : l ≠ []) : isNm l = nm1 0 true l := by
  unfold isNm
  cases l with
  | nil => exact absurd rfl h
  | cons a t => rfl
set_option maxHeartbeats 1000000 in
theorem refIsName_any (l : Bytes) (w : World) (hl : l.length ≤ 4611686018427387904) :
    Calls Tryd.prog 24 #[.string (S l)] w fun e w' => e = .returned (.bool (isNm l)) ∧ Below w.heap.size w w' := by
  obtain ⟨c, hc⟩ : ∃ c, isNm l = c := ⟨_, rfl⟩
  rw [hc]
  have HC := Lib.hid hc
  clear hc
  go_enter Tryd.func24, Tryd.ntmps24
  go_wp2
  go_loopw [3] (fun a3 wr => ∃ n : Nat, n ≤ l.length ∧ a3 = .int .i64 n ∧ (n < l.length → nm1 0 (decide (n = 0)) (l.drop n) = c) ∧ (n = l.length → decide ((0 : Int) < n) = c) ∧ Below w.heap.size w wr) (fun a3 _ => l.length - (intOf a3).toNat)
  case atStart =>
    refine ⟨0, by omega, rfl, fun h => ?_, fun h => ?_, Below.refl _ _⟩
    · rw [← HC.out, isNm_ne (by intro e; rw [e] at h; exact absurd h (by decide))]; rfl
    · have : l = [] := List.eq_nil_of_length_eq_zero h.symm
      rw [← HC.out, this]; rfl
  case round =>
    obtain ⟨n, hn, rfl, hch, hend, hb⟩ := hrel
    have HB := Lib.hid hb
    have hsz := hb.size
    clear hb
    by_cases hlt : n < l.length
    · have hch := hch hlt
      have hle := dec_le (l.drop n)
      have hne := drop_ne hlt
      have hd := refDecode_in l n wr hl hlt
      have HD := Lib.hid hd
      clear hd hend
      by_cases h0 : (dec (l.drop n)).2 = 0
      · have hcc := nm1_bad (f := decide (n = 0)) hne h0
        rw [hch] at hcc
        have t0 : (((dec (l.drop n)).2 : Int) == 0) = true := by rw [h0]; rfl
        have HCC := Lib.hid hcc
        clear hcc hch h0 hne
        generalize dec (l.drop n) = d at *
        obtain ⟨r, k⟩ := d
        go_wp2_with (go_at_call 39; refine HD.out.mono ?_; rintro e w' ⟨rfl, hb⟩)
        go_ret
        exact ⟨by rw [HCC.out]; rfl, HB.out.trans (hb.mono hsz)⟩
      · have t0 : (((dec (l.drop n)).2 : Int) == 0) = false := by rw [beq_eq_false_iff_ne]; omega
        cases hi : nameChar (dec (l.drop n)).1
        · have hcc := nm1_char (f := decide (n = 0)) hne (by rw [hi, Bool.false_and])
          rw [hch] at hcc
          have HCC := Lib.hid hcc
          have HI := Lib.hid hi
          clear hcc hch h0 hne hi
          generalize dec (l.drop n) = d at *
          obtain ⟨r, k⟩ := d
          go_wp2_with (first | (go_at_call 39; refine HD.out.mono ?_; rintro e w' ⟨rfl, hb⟩) | (go_at_call 40; refine (refNameChar_any _ _).mono ?_; rintro e w2 ⟨rfl, rfl⟩; rw [HI.out]))
          go_ret
          exact ⟨by rw [HCC.out]; rfl, HB.out.trans (hb.mono hsz)⟩
        · by_cases hn0 : n = 0
          · cases hs : nameStart (dec (l.drop n)).1
            · have hcc := nm1_char (f := decide (n = 0)) hne (by rw [hi, hs, hn0]; rfl)
              rw [hch] at hcc
              have HCC := Lib.hid hcc
              have HI := Lib.hid hi
              have HS := Lib.hid hs
              have t1 : ((n : Int) == 0) = true := by rw [hn0]; rfl
              clear hcc hch h0 hne hi hs hn0
              generalize dec (l.drop n) = d at *
              obtain ⟨r, k⟩ := d
              go_wp2_with (first | (go_at_call 39; refine HD.out.mono ?_; rintro e w' ⟨rfl, hb⟩) | (go_at_call 40; refine (refNameChar_any _ _).mono ?_; rintro e w2 ⟨rfl, rfl⟩; rw [HI.out]) | (go_at_call 41; refine (refNameStart_any _ _).mono ?_; rintro e w2 ⟨rfl, rfl⟩; rw [HS.out]))
              go_ret
              exact ⟨by rw [HCC.out]; rfl, HB.out.trans (hb.mono hsz)⟩
            · have hcc := nm1_next (f := decide (n = 0)) h0 (by rw [hi, hs]; simp)
              rw [hch] at hcc
              have HCC := Lib.hid hcc
              have HI := Lib.hid hi
              have HS := Lib.hid hs
              have t1 : ((n : Int) == 0) = true := by rw [hn0]; rfl
              have hle1 : n + (dec (l.drop n)).2 ≤ l.length := by have := hle.1; simp at this; omega
              have hpos : 1 ≤ (dec (l.drop n)).2 := by omega
              clear hcc hch h0 hne hi hs hn0
              generalize hg : dec (l.drop n) = d at *
              have HG := Lib.hid hg
              clear hg
              obtain ⟨r, k⟩ := d
              go_wp2_with (first | (go_at_call 39; refine HD.out.mono ?_; rintro e w' ⟨rfl, hb⟩) | (go_at_call 40; refine (refNameChar_any _ _).mono ?_; rintro e w2 ⟨rfl, rfl⟩; rw [HI.out]) | (go_at_call 41; refine (refNameStart_any _ _).mono ?_; rintro e w2 ⟨rfl, rfl⟩; rw [HS.out]))
              go_roundw
              case rel => exact ⟨n + k, by omega, by go_num, fun h => by rw [HCC.out, List.drop_drop, show decide (n + k = 0) = false from decide_eq_false (by omega)], fun h => by rw [HCC.out, List.drop_drop, h, List.drop_length]; exact decide_eq_true (by omega), HB.out.trans (hb.mono hsz)⟩
              case measure => simp [intOf]; omega
          · have hcc := nm1_next (f := decide (n = 0)) h0 (by rw [hi]; simp [hn0])
            rw [hch] at hcc
            have HCC := Lib.hid hcc
            have HI := Lib.hid hi
            have t1 : ((n : Int) == 0) = false := by rw [beq_eq_false_iff_ne]; omega
            have hle1 : n + (dec (l.drop n)).2 ≤ l.length := by have := hle.1; simp at this; omega
            have hpos : 1 ≤ (dec (l.drop n)).2 := by omega
            clear hcc hch h0 hne hi hn0
            generalize hg : dec (l.drop n) = d at *
            have HG := Lib.hid hg
            clear hg
            obtain ⟨r, k⟩ := d
            go_wp2_with (first | (go_at_call 39; refine HD.out.mono ?_; rintro e w' ⟨rfl, hb⟩) | (go_at_call 40; refine (refNameChar_any _ _).mono ?_; rintro e w2 ⟨rfl, rfl⟩; rw [HI.out]))
            go_roundw
            case rel => exact ⟨n + k, by omega, by go_num, fun h => by rw [HCC.out, List.drop_drop, show decide (n + k = 0) = false from decide_eq_false (by omega)], fun h => by rw [HCC.out, List.drop_drop, h, List.drop_length]; exact decide_eq_true (by omega), HB.out.trans (hb.mono hsz)⟩
            case measure => simp [intOf]; omega
    · obtain rfl : n = l.length := by omega
      have HCH := Lib.hid (hend rfl)
      clear hch hend
      go_wp2
      go_ret
      exact ⟨ret_bool (by rw [← HCH.out]; simp), HB.out⟩

/-! The library's word on valid UTF-8, in terms of the decoder. -/
theorem decodeL_dec {l : Bytes} (h : l ≠ []) : Lib.decodeL l = if (dec l).2 = 0 then (65533, 1) else dec l := utf8_dec l h
theorem decodeL_bad {l : Bytes} (h : l ≠ []) (hd : (Lib.decodeL l).1 = 65533 ∧ (Lib.decodeL l).2 = 1) : (dec l).2 = 0 := by
  by_cases h0 : (dec l).2 = 0
  · exact h0
  · rw [decodeL_dec h, if_neg h0] at hd
    have := dec_one l hd.2
    omega
theorem decodeL_ok {l : Bytes} (h : l ≠ []) (hd : ¬ ((Lib.decodeL l).1 = 65533 ∧ (Lib.decodeL l).2 = 1)) : (dec l).2 ≠ 0 ∧ Lib.decodeL l = dec l := by
  by_cases h0 : (dec l).2 = 0
  · rw [decodeL_dec h, if_pos h0] at hd
    exact absurd ⟨rfl, rfl⟩ hd
  · exact ⟨h0, by rw [decodeL_dec h, if_neg h0]⟩
theorem valid_no : ∀ (n : Nat) (l : Bytes) (f : Bool), Lib.validGoD n l = false → nm1 0 f l = false ∧ l ≠ []
  | 0, l, f, h => by simp [Lib.validGoD] at h
  | n + 1, l, f, h => by
    rw [Lib.validGoD] at h
    by_cases hl : l = []
    · rw [if_pos hl] at h; cases h
    · rw [if_neg hl] at h
      refine ⟨?_, hl⟩
      by_cases hd : (Lib.decodeL l).1 = 65533 ∧ (Lib.decodeL l).2 = 1
      · exact nm1_bad hl (decodeL_bad hl hd)
      · rw [if_neg hd] at h
        obtain ⟨h0, he⟩ := decodeL_ok hl hd
        rw [he] at h
        cases hc : (nameChar (dec l).1 && (!f || nameStart (dec l).1))
        · exact nm1_char hl hc
        · rw [nm1_next h0 hc]
          exact (valid_no n _ false h).1
theorem valid_yes {n : Nat} {l : Bytes} (hl : l ≠ []) (h : Lib.validGoD (n + 1) l = true) : (dec l).2 ≠ 0 ∧ Lib.decodeL l = dec l ∧ Lib.validGoD n (l.drop (dec l).2) = true := by
  rw [Lib.validGoD, if_neg hl] at h
  by_cases hd : (Lib.decodeL l).1 = 65533 ∧ (Lib.decodeL l).2 = 1
  · rw [if_pos hd] at h; cases h
  · rw [if_neg hd] at h
    obtain ⟨h0, he⟩ := decodeL_ok hl hd
    rw [he] at h
    exact ⟨h0, he, h⟩

set_option maxHeartbeats 2000000 in
theorem isName_any (l : Bytes) (w : World) (hT : Tabs w) (hl : l.length ≤ 4611686018427387904) :
    Calls Tryd.prog 23 #[.string (S l)] w fun e w' => e = .returned (.bool (isNm l)) ∧ Below w.heap.size w w' := by
  obtain ⟨c, hc⟩ : ∃ c, isNm l = c := ⟨_, rfl⟩
  rw [hc]
  have HC := Lib.hid hc
  clear hc
  have hv := Tryd.utf8_ValidString (S l) w (by rw [S_size]; omega) hT.utf
  rw [S_data] at hv
  have HT := Lib.hid hT
  clear hT
  cases hvd : Lib.validD l
  · have hcf : isNm l = false := by
      have := valid_no l.length l true hvd
      rw [isNm_ne this.2, this.1]
    rw [HC.out] at hcf
    rw [hvd] at hv
    have HV := Lib.hid hv
    have HCF := Lib.hid hcf
    clear hv hvd hcf
    go_enter Tryd.func23, Tryd.ntmps23
    go_wp2_with (go_at_call 36; refine HV.out.mono ?_; rintro e w1 ⟨rfl, hb⟩)
    go_ret
    exact ⟨by rw [HCF.out]; rfl, hb⟩
  · rw [hvd] at hv
    have HV := Lib.hid hv
    have HVD := Lib.hid hvd
    clear hv hvd
    go_enter Tryd.func23, Tryd.ntmps23
    go_wp2_with fail
    refine HV.out.mono ?_
    rintro e w1 ⟨rfl, hb1⟩
    have HB1 := Lib.hid hb1
    have HT1 := Lib.hid (HT.out.next hb1)
    have hs1 := hb1.size
    clear hb1
    go_wp2_with fail
    go_loopg [] l.length (fun gf wx => ∃ pos n : Nat, pos ≤ l.length ∧ l.length ≤ pos + gf ∧ l.length ≤ pos + n ∧ Lib.validGoD n (l.drop pos) = true ∧ (pos < l.length → nm1 0 (decide (pos = 0)) (l.drop pos) = c) ∧ (pos = l.length → decide (l ≠ []) = c) ∧ wx.heap[w1.heap.size]? = some (.stringIter (S l) pos) ∧ Below w.heap.size w wx)
    case atStart =>
      refine ⟨0, l.length, Nat.zero_le _, by omega, by omega, HVD.out, fun h => ?_, fun h => ?_, World.iter_heap w1 _ 0, HB1.out.trans (((Below.refl _ w1).alloc (Nat.le_refl _) _).mono hs1)⟩
      · rw [← HC.out, isNm_ne (by intro e; rw [e] at h; exact absurd h (by decide))]; rfl
      · have : l = [] := List.eq_nil_of_length_eq_zero h.symm
        rw [← HC.out, this]; rfl
    case round =>
      obtain ⟨pos, n, hpl, hgf, hn, hvg, hch, hend, hit, hbw⟩ := hrel
      have HIT := Lib.hid hit
      have HBW0 := Lib.hid hbw
      have hk0 := (Array.getElem?_eq_some_iff.1 hit).1
      have hzw := hbw.size
      clear hit hbw
      by_cases hlt : pos < l.length
      · have hch := hch hlt
        obtain ⟨n', rfl⟩ : ∃ n', n = n' + 1 := ⟨n - 1, by omega⟩
        obtain ⟨g', rfl⟩ : ∃ g', gk = g' + 1 := ⟨gk - 1, by omega⟩
        have hne := drop_ne hlt
        obtain ⟨h0, he, hv2⟩ := valid_yes hne hvg
        have hdc : Utf8.decode (S l) pos = dec (l.drop pos) := by rw [← Lib.decodeL_drop, S_data]; exact he
        have hle := dec_le (l.drop pos)
        have hle1 : pos + (dec (l.drop pos)).2 ≤ l.length := by have := hle.1; simp at this; omega
        have hpos : 1 ≤ (dec (l.drop pos)).2 := by omega
        have hnx : ∀ ty, (Instr.next (.pointer (some ⟨w1.heap.size, 0, none⟩)) true ty).run Tryd.prog wr = .ok (.tuple #[.bool true, .int .i64 pos, .int .i32 (dec (l.drop pos)).1]) (wr.iterAt w1.heap.size (S l) (pos + (dec (l.drop pos)).2)) := fun ty => by
          have := Lib.run_next_any_at (P := Tryd.prog) wr w1.heap.size (S l) pos ty HIT.out (by rw [S_size]; exact hlt)
          rw [hdc] at this
          exact this
        have hit2 := Lib.iterAt_heap wr w1.heap.size (S l) pos (pos + (dec (l.drop pos)).2) HIT.out
        have hbw2 := Lib.below_iterAt HBW0.out (k := w1.heap.size) hs1 (S l) (pos + (dec (l.drop pos)).2)
        have hV2 := Lib.hid hv2
        clear hdc he hvg hend
        obtain ⟨W, hWd⟩ : ∃ W, wr.iterAt w1.heap.size (S l) (pos + (dec (l.drop pos)).2) = W := ⟨_, rfl⟩
        rw [hWd] at hnx hit2 hbw2
        have HIT2 := Lib.hid hit2
        have HBW := Lib.hid hbw2
        have HTW := Lib.hid (HT.out.below hbw2 (Nat.le_refl _))
        have hkW := (Array.getElem?_eq_some_iff.1 hit2).1
        have hzW := hbw2.size
        clear hit2 hbw2 hWd hv2
        cases hi : nameChar (dec (l.drop pos)).1
        · have hcc := nm1_char (f := decide (pos = 0)) hne (by rw [hi, Bool.false_and])
          rw [hch] at hcc
          have HCC := Lib.hid hcc
          have HI := Lib.hid hi
          clear hcc hch h0 hne hi
          generalize dec (l.drop pos) = d at *
          obtain ⟨r, k⟩ := d
          go_wp2_with (go_at_call 37; refine (nameChar_any _ _ HTW.out).mono ?_; rintro e w2 ⟨rfl, hb2⟩; have HTW2 := Lib.hid (HTW.out.next hb2); have hz2 := hb2.size; have HB2 := Lib.hid (HBW.out.trans (hb2.mono hzW)); have HI2 := Lib.hid ((hb2.block _ hkW).trans HIT2.out); rw [HI.out])
          go_ret
          exact ⟨by rw [HCC.out]; rfl, HB2.out⟩
        · by_cases hn0 : pos = 0
          · have t1 : ((pos : Int) == 0) = true := by rw [hn0]; rfl
            cases hs : nameStart (dec (l.drop pos)).1
            · have hcc := nm1_char (f := decide (pos = 0)) hne (by rw [hi, hs, hn0]; rfl)
              rw [hch] at hcc
              have HCC := Lib.hid hcc
              have HI := Lib.hid hi
              have HS := Lib.hid hs
              clear hcc hch h0 hne hi hs hn0
              generalize dec (l.drop pos) = d at *
              obtain ⟨r, k⟩ := d
              go_wp2_with (first | (go_at_call 37; refine (nameChar_any _ _ HTW.out).mono ?_; rintro e w2 ⟨rfl, hb2⟩; have HTW2 := Lib.hid (HTW.out.next hb2); have hz2 := hb2.size; have HB2 := Lib.hid (HBW.out.trans (hb2.mono hzW)); have HI2 := Lib.hid ((hb2.block _ hkW).trans HIT2.out); rw [HI.out]) | (go_at_call 38; refine (nameStart_any _ _ HTW2.out).mono ?_; rintro e w3 ⟨rfl, hb3⟩; have HB3 := Lib.hid (HB2.out.trans (hb3.mono (by omega))); have HI3 := Lib.hid ((hb3.block _ (by omega)).trans HI2.out); rw [HS.out]))
              go_ret
              exact ⟨by rw [HCC.out]; rfl, HB3.out⟩
            · have hcc := nm1_next (f := decide (pos = 0)) h0 (by rw [hi, hs]; simp)
              rw [hch] at hcc
              have HCC := Lib.hid hcc
              have HI := Lib.hid hi
              have HS := Lib.hid hs
              clear hcc hch h0 hne hi hs hn0
              generalize hg : dec (l.drop pos) = d at *
              have HG := Lib.hid hg
              clear hg
              obtain ⟨r, k⟩ := d
              go_wp2_with (first | (go_at_call 37; refine (nameChar_any _ _ HTW.out).mono ?_; rintro e w2 ⟨rfl, hb2⟩; have HTW2 := Lib.hid (HTW.out.next hb2); have hz2 := hb2.size; have HB2 := Lib.hid (HBW.out.trans (hb2.mono hzW)); have HI2 := Lib.hid ((hb2.block _ hkW).trans HIT2.out); rw [HI.out]) | (go_at_call 38; refine (nameStart_any _ _ HTW2.out).mono ?_; rintro e w3 ⟨rfl, hb3⟩; have HB3 := Lib.hid (HB2.out.trans (hb3.mono (by omega))); have HI3 := Lib.hid ((hb3.block _ (by omega)).trans HI2.out); rw [HS.out]))
              go_roundg g'
              case measure => omega
              case rel => exact ⟨pos + k, n', by omega, by omega, by omega, by rw [← List.drop_drop]; exact hV2.out, fun h => by rw [HCC.out, List.drop_drop, show decide (pos + k = 0) = false from decide_eq_false (by omega)], fun h => by rw [HCC.out, List.drop_drop, h, List.drop_length]; exact decide_eq_true (by intro e; rw [e] at hlt; exact absurd hlt (by simp)), HI3.out, HB3.out⟩
          · have t1 : ((pos : Int) == 0) = false := by rw [beq_eq_false_iff_ne]; omega
            have hcc := nm1_next (f := decide (pos = 0)) h0 (by rw [hi]; simp [hn0])
            rw [hch] at hcc
            have HCC := Lib.hid hcc
            have HI := Lib.hid hi
            clear hcc hch h0 hne hi hn0
            generalize hg : dec (l.drop pos) = d at *
            have HG := Lib.hid hg
            clear hg
            obtain ⟨r, k⟩ := d
            go_wp2_with (go_at_call 37; refine (nameChar_any _ _ HTW.out).mono ?_; rintro e w2 ⟨rfl, hb2⟩; have HTW2 := Lib.hid (HTW.out.next hb2); have hz2 := hb2.size; have HB2 := Lib.hid (HBW.out.trans (hb2.mono hzW)); have HI2 := Lib.hid ((hb2.block _ hkW).trans HIT2.out); rw [HI.out])
            go_roundg g'
            case measure => omega
            case rel => exact ⟨pos + k, n', by omega, by omega, by omega, by rw [← List.drop_drop]; exact hV2.out, fun h => by rw [HCC.out, List.drop_drop, show decide (pos + k = 0) = false from decide_eq_false (by omega)], fun h => by rw [HCC.out, List.drop_drop, h, List.drop_length]; exact decide_eq_true (by intro e; rw [e] at hlt; exact absurd hlt (by simp)), HI2.out, HB2.out⟩
      · have hnx : ∀ ty, (Instr.next (.pointer (some ⟨w1.heap.size, 0, none⟩)) true ty).run Tryd.prog wr = _ := fun ty => Lib.run_next_end_at wr w1.heap.size (S l) pos ty HIT.out (by rw [S_size]; exact hlt)
        have HE := Lib.hid (hend (by omega))
        clear hend hch hvg
        go_wp2_with fail
        go_ret
        exact ⟨ret_bool (by rw [← HE.out]; cases l <;> simp), HBW0.out⟩
end Go.Proofs.YtaghipnheomggaaDoor
set_option linter.unusedVariables false
namespace Go.Proofs.YtaghipnheomggaaDoor
open Go.RowKit

theorem indexByte_upto8 (c : UInt8) : ∀ l : Bytes, Lib.indexByte l c = match upto c l with | some x => (x.length : Int) | none => -1
  | [] => rfl
  | a :: l => by
    have ih := indexByte_upto8 c l
    unfold Lib.indexByte upto
    by_cases h : a = c
    · rw [if_pos (by simpa using h), if_pos h]; rfl
    · rw [if_neg (by simpa using h), if_neg h]
      cases hu : upto c l with
      | none => rw [hu] at ih; rw [ih]; rfl
      | some x =>
        rw [hu] at ih
        rw [ih, if_neg (by simp)]
        simp
/-- What strings.Cut gives at ":": what lies ahead, what lies behind, found. -/
def cutC (l : Bytes) : Bytes × Bytes × Bool := match upto 58 l with | some x => (x, l.drop (x.length + 1), true) | none => (l, [], false)

theorem ret_cut8 {a b : Bytes} {c : Bool} {r : Bytes × Bytes × Bool} (h : r = (a, b, c)) : Ending.returned (.tuple #[.string (S a), .string (S b), .bool c]) = .returned (.tuple #[.string (S r.1), .string (S r.2.1), .bool r.2.2]) := by rw [h]
theorem below_drewN8 {B : Nat} {w w' : World} (h : Below B w w') (n : Nat) : Below B w (w'.drewN n) := ⟨h.os, h.tape, h.output, h.size, h.block⟩

set_option maxHeartbeats 1000000 in
theorem slCut8_any (l : Bytes) (w : World) (hl : l.length ≤ 4611686018427387904) :
    Calls Tryd.prog 35 #[.string (S l), .string ⟨#[58]⟩] w fun e w' => e = .returned (.tuple #[.string (S (cutC l).1), .string (S (cutC l).2.1), .bool (cutC l).2.2]) ∧ Below w.heap.size w w' := by
  obtain ⟨r, hr⟩ : ∃ r, cutC l = r := ⟨_, rfl⟩
  rw [hr]
  have HR := Lib.hid hr
  clear hr
  have hix := indexByte_upto8 58 l
  cases hu : upto 58 l with
  | none =>
    rw [hu] at hix
    have h1 := HR.out
    unfold cutC at h1
    rw [hu] at h1
    have H1 := Lib.hid h1
    have hcall : ∀ w, Calls Tryd.prog 54 #[.string (S l), .string ⟨#[58]⟩] w fun e w' => e = .returned (.int .i64 (-1)) ∧ w' = w := fun w => by
      have := Tryd.stringslite_Index_one (S l) 58 w
      rw [S_data, hix] at this
      exact this
    have HC := Lib.hid hcall
    clear hix hu h1 hcall
    go_enter Tryd.func35, Tryd.ntmps35
    go_wp2_with (go_at_call 54; refine (HC.out _).mono ?_; rintro e w' ⟨rfl, rfl⟩)
    go_ret3
    exact ⟨ret_cut8 (b := []) H1.out.symm, Below.refl _ _⟩
  | some x =>
    rw [hu] at hix
    have h1 := HR.out
    unfold cutC at h1
    rw [hu] at h1
    have H1 := Lib.hid h1
    obtain ⟨t, ht, _⟩ := upto_some hu
    have hxl : (x.length : Int) + 1 ≤ l.length := by rw [ht]; simp; omega
    have htk : l.take x.length = x := by rw [ht]; simp
    have HT := Lib.hid htk
    have c1 : (0 : Int) ≤ x.length := by omega
    have c2 : (x.length : Int) ≤ l.length := by omega
    have c3 : (0 : Int) ≤ x.length + 1 := by omega
    have hcall : ∀ w, Calls Tryd.prog 54 #[.string (S l), .string ⟨#[58]⟩] w fun e w' => e = .returned (.int .i64 x.length) ∧ w' = w := fun w => by
      have := Tryd.stringslite_Index_one (S l) 58 w
      rw [S_data, hix] at this
      exact this
    have HC := Lib.hid hcall
    clear hix hu h1 hcall ht htk
    go_enter Tryd.func35, Tryd.ntmps35
    go_wp2_with (go_at_call 54; refine (HC.out _).mono ?_; rintro e w' ⟨rfl, rfl⟩)
    go_region
    go_wp2
    go_ret3
    exact ⟨ret_cut8 (by rw [HT.out]; exact H1.out.symm), below_drewN8 (Below.refl _ _) _⟩

set_option maxHeartbeats 1000000 in
theorem cut8_any (l : Bytes) (w : World) (hl : l.length ≤ 4611686018427387904) :
    Calls Tryd.prog 22 #[.string (S l), .string ⟨#[58]⟩] w fun e w' => e = .returned (.tuple #[.string (S (cutC l).1), .string (S (cutC l).2.1), .bool (cutC l).2.2]) ∧ Below w.heap.size w w' := by
  go_enter Tryd.func22, Tryd.ntmps22
  go_wp2_with (go_at_call 35; refine (slCut8_any l _ hl).mono ?_; rintro e w' ⟨rfl, hb⟩)
  go_ret3
  exact ⟨rfl, hb⟩

end Go.Proofs.YtaghipnheomggaaDoor
set_option linter.unusedVariables false
namespace Go.Proofs.YtaghipnheomggaaDoor
open Go.RowKit

theorem ret_spl {a b : Bytes} {c : Bool} {r : Bytes × Bytes × Bool} (h : r = (a, b, c)) : Ending.returned (.tuple #[.string (S a), .string (S b), .bool c]) = .returned (.tuple #[.string (S r.1), .string (S r.2.1), .bool r.2.2]) := by rw [h]
set_option maxHeartbeats 1000000 in
theorem split_any (l : Bytes) (w : World) (hT : Tabs w) (hl : l.length ≤ 4611686018427387904) :
    Calls Tryd.prog 10 #[.string (S l)] w fun e w' => e = .returned (.tuple #[.string (S (splR l).1), .string (S (splR l).2.1), .bool (splR l).2.2]) ∧ Below w.heap.size w w' := by
  obtain ⟨R, hR⟩ : ∃ R, splR l = R := ⟨_, rfl⟩
  rw [hR]
  unfold splR splitF at hR
  have hc := cut8_any l w hl
  have HT := Lib.hid hT
  clear hT
  cases hu : upto 58 l with
  | some p =>
    rw [hu] at hR
    unfold cutC at hc
    rw [hu] at hc
    simp only at hR hc
    obtain ⟨t, ht, _⟩ := upto_some hu
    have hpl : p.length ≤ 4611686018427387904 := by have := congrArg List.length ht; simp at this; omega
    have hql : (l.drop (p.length + 1)).length ≤ 4611686018427387904 := by simp; omega
    have HC := Lib.hid hc
    generalize l.drop (p.length + 1) = q at *
    have i1 := fun W (h : Tabs W) => isName_any p W h hpl
    have i2 := fun W (h : Tabs W) => isName_any q W h hql
    clear hc hu ht
    cases hp : isNm p
    · rw [hp] at hR
      have HR := Lib.hid hR
      have I1 := Lib.hid i1
      have HP := Lib.hid hp
      clear hR i1 i2 hp
      go_enter Tryd.func10, Tryd.ntmps10
      go_wp2_with (first
        | (go_at_call 22; refine HC.out.mono ?_; rintro e w1 ⟨rfl, hb1⟩; have HT1 := Lib.hid (HT.out.next hb1); have hz1 := hb1.size)
        | (go_at_call 23; refine (I1.out _ HT1.out).mono ?_; rintro e w2 ⟨rfl, hb2⟩; rw [HP.out]))
      go_ret3
      exact ⟨ret_spl HR.out.symm, hb1.trans (hb2.mono hz1)⟩
    · cases hq : isNm q
      all_goals
        rw [hp, hq] at hR
        have HR := Lib.hid hR
        have I1 := Lib.hid i1
        have I2 := Lib.hid i2
        have HP := Lib.hid hp
        have HQ := Lib.hid hq
        clear hR i1 i2 hp hq
        go_enter Tryd.func10, Tryd.ntmps10
        go_wp2_with fail
        refine HC.out.mono ?_
        rintro e w1 ⟨rfl, hb1⟩
        have HT1 := Lib.hid (HT.out.next hb1)
        have hz1 := hb1.size
        go_wp2_with fail
        refine (I1.out _ HT1.out).mono ?_
        rintro e w2 ⟨rfl, hb2⟩
        rw [HP.out]
        have HT2 := Lib.hid (HT1.out.next hb2)
        have hz2 := hb2.size
        go_wp2_with fail
        refine (I2.out _ HT2.out).mono ?_
        rintro e w3 ⟨rfl, hb3⟩
        rw [HQ.out]
        go_wp2_with fail
        go_ret3
        exact ⟨ret_spl HR.out.symm, (hb1.trans (hb2.mono hz1)).trans (hb3.mono (by omega))⟩
  | none =>
    rw [hu] at hR
    unfold cutC at hc
    rw [hu] at hc
    simp only at hR hc
    have HC := Lib.hid hc
    have i1 := fun W (h : Tabs W) => isName_any l W h hl
    clear hc hu
    cases hp : isNm l
    all_goals
      rw [hp] at hR
      have HR := Lib.hid hR
      have I1 := Lib.hid i1
      have HP := Lib.hid hp
      clear hR i1 hp
      go_enter Tryd.func10, Tryd.ntmps10
      go_wp2_with fail
      refine HC.out.mono ?_
      rintro e w1 ⟨rfl, hb1⟩
      have HT1 := Lib.hid (HT.out.next hb1)
      have hz1 := hb1.size
      go_wp2_with fail
      refine (I1.out _ HT1.out).mono ?_
      rintro e w2 ⟨rfl, hb2⟩
      rw [HP.out]
      go_wp2_with fail
      go_ret3
      exact ⟨ret_spl HR.out.symm, hb1.trans (hb2.mono hz1)⟩

theorem upto_at8 {l : Bytes} {i : Nat} (h : i < l.length) (hc : l[i] = 58) : upto 58 (l.drop i) = some [] := by
  rw [List.drop_eq_getElem_cons h, upto, if_pos hc]
theorem upto_step8 {l : Bytes} {i : Nat} (h : i < l.length) (hc : l[i] ≠ 58) (hu : upto 58 l = (upto 58 (l.drop i)).map (l.take i ++ ·)) : upto 58 l = (upto 58 (l.drop (i + 1))).map (l.take (i + 1) ++ ·) := by
  rw [hu, List.drop_eq_getElem_cons h, upto, if_neg hc]
  cases upto 58 (l.drop (i + 1)) with
  | none => rfl
  | some x =>
    simp only [Option.map_some]
    rw [List.take_succ_eq_append_getElem h, List.append_assoc]
    rfl
set_option maxHeartbeats 1000000 in
theorem refSplit_any (l : Bytes) (w : World) (hl : l.length ≤ 4611686018427387904) :
    Calls Tryd.prog 11 #[.string (S l)] w fun e w' => e = .returned (.tuple #[.string (S (splR l).1), .string (S (splR l).2.1), .bool (splR l).2.2]) ∧ Below w.heap.size w w' := by
  obtain ⟨R, hR⟩ : ∃ R, splR l = R := ⟨_, rfl⟩
  rw [hR]
  unfold splR splitF at hR
  have HR := Lib.hid hR
  clear hR
  go_enter Tryd.func11, Tryd.ntmps11
  go_wp2
  go_loop [5] (fun i5 => ∃ i : Nat, i ≤ l.length ∧ i5 = .int .i64 i ∧ upto 58 l = (upto 58 (l.drop i)).map (l.take i ++ ·)) (fun i5 => l.length - (intOf i5).toNat)
  case atStart => exact ⟨0, Nat.zero_le _, rfl, by rw [List.drop_zero, List.take_zero]; simp⟩
  case round =>
    obtain ⟨i, hi, rfl, hu⟩ := hrel
    by_cases hlt : i < l.length
    · have hlt' : (i : Int) < l.length := by omega
      by_cases hc : l[i] = 58
      · have t1 : ((l[i].toNat : Int) == 58) = true := by rw [hc]; rfl
        rw [upto_at8 hlt hc, Option.map_some, List.append_nil] at hu
        have hr := HR.out
        rw [hu] at hr
        simp only [List.length_take, Nat.min_eq_left hi] at hr
        have hle1 : (i : Int) + 1 ≤ l.length := by omega
        have i1 := fun W => refIsName_any (l.take i) W (by simp; omega)
        have i2 := fun W => refIsName_any (l.drop (i + 1)) W (by simp; omega)
        have I1 := Lib.hid i1
        have I2 := Lib.hid i2
        clear hu i1 i2 hc HR
        cases hp : isNm (l.take i)
        · rw [hp] at hr
          have HRR := Lib.hid hr
          have HP := Lib.hid hp
          clear hr hp
          go_wp2_with (go_at_call 24; refine (I1.out _).mono ?_; rintro e w1 ⟨rfl, hb1⟩; rw [HP.out])
          go_ret3
          exact ⟨ret_spl HRR.out.symm, hb1⟩
        · cases hq : isNm (l.drop (i + 1))
          · rw [hp, hq] at hr
            have HRR := Lib.hid hr
            have HP := Lib.hid hp
            have HQ := Lib.hid hq
            clear hr hp hq
            go_wp2_with fail
            refine (I1.out _).mono ?_
            rintro e w1 ⟨rfl, hb1⟩
            rw [HP.out]
            go_wp2_with fail
            refine (I2.out _).mono ?_
            rintro e w2 ⟨rfl, hb2⟩
            rw [HQ.out]
            go_wp2_with fail
            go_ret3
            exact ⟨ret_spl HRR.out.symm, hb1.trans (hb2.mono hb1.size)⟩
          · rw [hp, hq] at hr
            have HRR := Lib.hid hr
            have HP := Lib.hid hp
            have HQ := Lib.hid hq
            clear hr hp hq
            go_wp2_with fail
            refine (I1.out _).mono ?_
            rintro e w1 ⟨rfl, hb1⟩
            rw [HP.out]
            go_wp2_with fail
            refine (I2.out _).mono ?_
            rintro e w2 ⟨rfl, hb2⟩
            rw [HQ.out]
            go_wp2_with fail
            go_quiet (fail)
            go_wp2
            go_ret3
            exact ⟨ret_spl HRR.out.symm, below_drewN8 (hb1.trans (hb2.mono hb1.size)) _⟩
      · have t1 : ((l[i].toNat : Int) == 58) = false := by
          rw [beq_eq_false_iff_ne]; intro e; exact hc (UInt8.toNat_inj.1 (by have : (58 : UInt8).toNat = 58 := rfl; omega))
        have HU := Lib.hid (upto_step8 hlt hc hu)
        clear hc hu
        go_wp2
        go_round
        case rel => exact ⟨i + 1, by omega, by go_num, HU.out⟩
        case measure => simp [intOf]; omega
    · have hil : i = l.length := by omega
      rw [hil, List.drop_length] at hu
      have hr := HR.out
      rw [hu] at hr
      simp only [upto, Option.map_none] at hr
      have i1 := fun W => refIsName_any l W hl
      have I1 := Lib.hid i1
      clear hu i1 hil HR
      cases hp : isNm l
      all_goals
        rw [hp] at hr
        have HRR := Lib.hid hr
        have HP := Lib.hid hp
        clear hr hp
        go_wp2_with (go_at_call 24; refine (I1.out _).mono ?_; rintro e w1 ⟨rfl, hb1⟩; rw [HP.out])
        go_ret3
        exact ⟨ret_spl HRR.out.symm, hb1⟩
end Go.Proofs.YtaghipnheomggaaDoor
set_option linter.unusedVariables false
namespace Go.Proofs.YtaghipnheomggaaDoor
open Go.RowKit

theorem below_box8 (w : World) (a : Att) : Below w.heap.size w (w.alloc (.cells #[.string (S a.space), .string (S a.name), .string (S a.value), .int .i64 a.pos] 41)) := (Below.refl _ _).alloc (Nat.le_refl _) _

/-- What declared returns. -/
def dclP (l : Bytes) : Bytes × Bool := if l = bXmlns then ([], true) else (Lib.trimPrefix l bXmlnsC, Lib.hasPrefix l bXmlnsC)
theorem S_xmlns : (⟨#[120, 109, 108, 110, 115]⟩ : ByteArray) = S bXmlns := rfl
set_option maxHeartbeats 1000000 in
theorem declared_any (a : Att) (w : World) :
    Calls Tryd.prog 47 #[.agg #[.string (S a.space), .string (S a.name), .string (S a.value), .int .i64 a.pos]] w fun e w' => e = .returned (.tuple #[.string (S (dclP a.name).1), .bool (dclP a.name).2]) ∧ Below w.heap.size w w' := by
  obtain ⟨R, hR⟩ : ∃ R, dclP a.name = R := ⟨_, rfl⟩
  rw [hR]
  unfold dclP at hR
  have hc := fun w => Tryd.strings_CutPrefix (S a.name) ⟨#[120, 109, 108, 110, 115, 58]⟩ w
  rw [S_data, show (⟨#[120, 109, 108, 110, 115, 58]⟩ : ByteArray).data.toList = bXmlnsC from rfl] at hc
  have HC := Lib.hid hc
  have F := Lib.hid (below_box8 w a)
  clear hc
  by_cases h : a.name = bXmlns
  · rw [if_pos h] at hR
    have t1 : (a.name == [120, 109, 108, 110, 115]) = true := by rw [h]; rfl
    have HR := Lib.hid hR
    clear hR h
    go_enter Tryd.func47, Tryd.ntmps47
    go_wp2
    go_ret2
    exact ⟨by rw [← HR.out]; rfl, F.out⟩
  · rw [if_neg h] at hR
    have t1 : (a.name == [120, 109, 108, 110, 115]) = false := by rw [beq_eq_false_iff_ne]; exact h
    have HR := Lib.hid hR
    clear hR h
    go_enter Tryd.func47, Tryd.ntmps47
    go_wp2_with (go_at_call 63; refine (HC.out _).mono ?_; rintro e w' ⟨rfl, rfl⟩)
    go_ret2
    exact ⟨by rw [← HR.out]; rfl, F.out⟩
/-- What declares returns. -/
def dclR (l : Bytes) : Bytes × Bool := if (splR l).1 = [] ∧ (splR l).2.1 = bXmlns then ([], true) else ((splR l).2.1, (splR l).1 == bXmlns)
set_option maxHeartbeats 1000000 in
theorem declares_any (a : Att) (w : World) (hl : a.name.length ≤ 4611686018427387904) :
    Calls Tryd.prog 64 #[.agg #[.string (S a.space), .string (S a.name), .string (S a.value), .int .i64 a.pos]] w fun e w' => e = .returned (.tuple #[.string (S (dclR a.name).1), .bool (dclR a.name).2]) ∧ Below w.heap.size w w' := by
  obtain ⟨R, hR⟩ : ∃ R, dclR a.name = R := ⟨_, rfl⟩
  rw [hR]
  unfold dclR at hR
  have hc := fun w => refSplit_any a.name w hl
  generalize splR a.name = r at *
  obtain ⟨p, q, c⟩ := r
  simp only at hR hc
  have HC := Lib.hid hc
  have F := Lib.hid (below_box8 w a)
  clear hc
  by_cases hp : p = []
  · by_cases hq : q = bXmlns
    · rw [if_pos ⟨hp, hq⟩] at hR
      have t1 : (p == []) = true := by rw [hp]; rfl
      have t2 : (q == [120, 109, 108, 110, 115]) = true := by rw [hq]; rfl
      have HR := Lib.hid hR
      clear hR hp hq
      go_enter Tryd.func64, Tryd.ntmps64
      go_wp2_with (go_at_call 11; refine (HC.out _).mono ?_; rintro e w1 ⟨rfl, hb1⟩)
      go_ret2
      exact ⟨by rw [← HR.out]; rfl, F.out.trans (hb1.mono F.out.size)⟩
    · rw [if_neg (fun h => hq h.2)] at hR
      have t1 : (p == []) = true := by rw [hp]; rfl
      have t2 : (q == [120, 109, 108, 110, 115]) = false := by rw [beq_eq_false_iff_ne]; exact hq
      have HR := Lib.hid hR
      clear hR hp hq
      go_enter Tryd.func64, Tryd.ntmps64
      go_wp2_with (go_at_call 11; refine (HC.out _).mono ?_; rintro e w1 ⟨rfl, hb1⟩)
      go_ret2
      exact ⟨by rw [← HR.out]; rfl, F.out.trans (hb1.mono F.out.size)⟩
  · rw [if_neg (fun h => hp h.1)] at hR
    have t1 : (p == []) = false := by rw [beq_eq_false_iff_ne]; exact hp
    have HR := Lib.hid hR
    clear hR hp
    go_enter Tryd.func64, Tryd.ntmps64
    go_wp2_with (go_at_call 11; refine (HC.out _).mono ?_; rintro e w1 ⟨rfl, hb1⟩)
    go_ret2
    exact ⟨by rw [← HR.out]; rfl, F.out.trans (hb1.mono F.out.size)⟩
end Go.Proofs.YtaghipnheomggaaDoor
set_option linter.unusedVariables false
namespace Go.Proofs.YtaghipnheomggaaDoor
open Go.RowKit

/-- A kind of element: its type, the slices' type, cells, bytes, and what its cells are. -/
structure Elt (α : Type) where
  T : TypeId
  TS : TypeId
  c : Nat
  bytes : Nat
  zero : Value
  El : World → (Nat → Prop) → α → List Value → Prop
structure Elt.Ok {α : Type} (E : Elt α) : Prop where
  info : (Tryd.prog.info? E.T).map (fun i => (i.zero, i.size, i.bytes)) = some (some E.zero, E.c, E.bytes)
  list : Tryd.prog.underlying E.TS = some (.slice E.T)
  zc : E.zero.cells.size = E.c
  pos : 0 < E.c
  small : E.bytes ≤ 1400
  keep : ∀ {w w' : World} {p p' : Nat → Prop} {a : α} {cs : List Value}, E.El w p a cs → (∀ k, p k → w'.heap[k]? = w.heap[k]?) → (∀ k, p k → p' k) → E.El w' p' a cs
  len : ∀ {w : World} {p : Nat → Prop} {a : α} {cs : List Value}, E.El w p a cs → cs.length = E.c
  one : ∀ {w : World} {p : Nat → Prop} {a : α} {cs : List Value}, E.El w p a cs → ∀ u ∈ cs, u.oneCell' = true

/-- The value v is a slice of these elements; all lies in blocks that satisfy p. -/
def ElsP {α : Type} (E : Elt α) (w : World) (p : Nat → Prop) (v : Value) (l : List α) : Prop :=
  ∃ A cap, v = .slice A l.length cap ∧ l.length ≤ cap ∧ (l = [] ∨ ∃ b off, A = some ⟨b, off, none⟩ ∧ p b ∧ ∀ (i : Nat) a, l[i]? = some a → ∃ cs, E.El w p a cs ∧ w.rangeAt b (off + i * E.c) cs)
/-- A slice that the call has built itself, in a block of its own from 'base' on; what its elements hold lies in blocks that satisfy p. -/
def ElRow {α : Type} (E : Elt α) (w : World) (base : Nat) (p : Nat → Prop) (v : Value) (l : List α) : Prop :=
  ∃ css : List (List Value), css.length = l.length ∧ (∀ (i : Nat) a cs, l[i]? = some a → css[i]? = some cs → E.El w p a cs) ∧ w.ownsRow base E.T E.c v l.length css.flatten

section
variable {α : Type} {E : Elt α} {w w' : World} {p p' : Nat → Prop} {v : Value} {l : List α} {base : Nat}
theorem ElsP.keep (hE : E.Ok) (h : ElsP E w p v l) (hb : ∀ k, p k → w'.heap[k]? = w.heap[k]?) (hp : ∀ k, p k → p' k) : ElsP E w' p' v l := by
  obtain ⟨A, cap, hv, hc, h⟩ := h
  refine ⟨A, cap, hv, hc, h.imp id ?_⟩
  rintro ⟨b, off, hA, hlt, hr⟩
  refine ⟨b, off, hA, hp b hlt, fun i a hi => ?_⟩
  obtain ⟨cs, h1, h2⟩ := hr i a hi
  exact ⟨cs, hE.keep h1 hb hp, rangeAt_keep h2 (hb b hlt)⟩
theorem ElsP.nil (E : Elt α) (w : World) (p : Nat → Prop) : ElsP E w p (.slice none 0 0) [] := ⟨none, 0, rfl, Nat.le_refl _, .inl rfl⟩
theorem ElsP.slice (h : ElsP E w p v l) : ∃ A cap, v = .slice A l.length cap ∧ l.length ≤ cap := by
  obtain ⟨A, cap, hv, hc, _⟩ := h; exact ⟨A, cap, hv, hc⟩
theorem ElsP.at_ {A : Option Addr} {n cap i : Nat} (h : ElsP E w p (.slice A n cap) l) (hi : i < l.length) :
    ∃ b off cs, A = some ⟨b, off, none⟩ ∧ p b ∧ w.rangeAt b (off + i * E.c) cs ∧ E.El w p l[i] cs := by
  obtain ⟨A', cap', hv, _, h⟩ := h
  cases hv
  rcases h with h | ⟨b, off, hA, hlt, hr⟩
  · subst h; simp at hi
  · obtain ⟨cs, h1, h2⟩ := hr i _ (List.getElem?_eq_getElem hi)
    exact ⟨b, off, cs, hA, hlt, h2, h1⟩
theorem ElRow.nil (E : Elt α) (w : World) (base : Nat) (p : Nat → Prop) : ElRow E w base p (.slice none 0 0) [] := ⟨[], rfl, by simp, World.ownsRow_nil w base _ _⟩
theorem ElRow.fresh (E : Elt α) (w : World) (base : Nat) (p : Nat → Prop) (hb : base ≤ w.heap.size) : ElRow E (w.alloc (.cells #[] E.T)) base p (.slice (some ⟨w.heap.size, 0, none⟩) 0 0) [] :=
  ⟨[], rfl, by simp, by simp, .inr ⟨w.heap.size, 0, #[], rfl, hb, heap_alloc_new w _, Nat.le_refl _, by decide, by simp, by simp⟩⟩
theorem ElRow.below (hE : E.Ok) (h : ElRow E w base p v l) (hb : Below w.heap.size w w') (hp : ∀ k, p k → k < w.heap.size) : ElRow E w' base p v l := by
  obtain ⟨css, h1, h2, h3⟩ := h
  exact ⟨css, h1, fun i k cs hk hc => hE.keep (h2 i k cs hk hc) (fun j hj => hb.block j (hp j hj)) (fun _ h => h), ownsRow_below h3 hb⟩
theorem ElRow.heap (hE : E.Ok) (h : ElRow E w base p v l) (hb : ∀ k, v.ownBlock = some k → w'.heap[k]? = w.heap[k]?) (hp : ∀ k, p k → w'.heap[k]? = w.heap[k]?) : ElRow E w' base p v l := by
  obtain ⟨css, h1, h2, h3⟩ := h
  exact ⟨css, h1, fun i k cs hk hc => hE.keep (h2 i k cs hk hc) hp (fun _ h => h), ownsRow_heap h3 hb⟩
theorem ElRow.more (hE : E.Ok) (h : ElRow E w base p v l) (hp : ∀ k, p k → p' k) : ElRow E w base p' v l := by
  obtain ⟨css, h1, h2, h3⟩ := h
  exact ⟨css, h1, fun i k cs hk hc => hE.keep (h2 i k cs hk hc) (fun _ _ => rfl) hp, h3⟩
theorem ElRow.base_ {base' : Nat} (h : ElRow E w base p v l) (hb : base' ≤ base) : ElRow E w base' p v l := by
  obtain ⟨css, h1, h2, h3⟩ := h
  exact ⟨css, h1, h2, ownsRow_base h3 hb⟩
theorem ElRow.lt (h : ElRow E w base p v l) : ∀ k, v.ownBlock = some k → base ≤ k ∧ k < w.heap.size := by
  obtain ⟨css, _, _, h3⟩ := h; exact h3.lt
theorem ElRow.slice (h : ElRow E w base p v l) : ∃ A cap, v = .slice A l.length cap ∧ l.length ≤ cap := by
  obtain ⟨css, _, _, h⟩ := h
  rcases h.2 with ⟨hv, hn⟩ | ⟨g, cap, cur, hv, _, _, hc, _⟩
  · exact ⟨none, 0, by rw [hv, hn], by omega⟩
  · exact ⟨_, cap, hv, hc⟩
theorem ElRow.elsP (hE : E.Ok) (h : ElRow E w base p v l) (hp : ∀ k, p k → p' k) (hr : ∀ k, v.ownBlock = some k → p' k) : ElsP E w p' v l := by
  obtain ⟨css, hl, hin, h⟩ := h
  rcases h.2 with ⟨hv, hn⟩ | ⟨g, cap, cur, hv, hg, hh, hc, _⟩
  · have : l = [] := List.eq_nil_of_length_eq_zero hn
    subst this
    exact ⟨none, 0, hv, by simp, .inl rfl⟩
  · have hlen : ∀ cs ∈ css, cs.length = E.c := fun cs hcs => by
      obtain ⟨i, hi⟩ := List.getElem?_of_mem hcs
      have hik : i < l.length := by rw [← hl]; exact (List.getElem?_eq_some_iff.1 hi).1
      exact hE.len (hin i _ cs (List.getElem?_eq_getElem hik) hi)
    refine ⟨_, cap, hv, hc, .inr ⟨g, 0, rfl, hr g (by rw [hv]; rfl), fun i k hi => ?_⟩⟩
    have hik : i < css.length := by rw [hl]; exact (List.getElem?_eq_some_iff.1 hi).1
    refine ⟨css[i], hE.keep (hin i k _ hi (List.getElem?_eq_getElem hik)) (fun _ _ => rfl) hp, fun j u hu => ?_⟩
    have hj : j < E.c := by have := (List.getElem?_eq_some_iff.1 hu).1; rw [hlen _ (List.getElem_mem hik)] at this; exact this
    have hx := flat_at (c := E.c) (css := css) hlen (i := i) (j := j) (List.getElem?_eq_getElem hik) hj
    have := h.cells (g := g) (by rw [hv]; rfl) (i * E.c + j) u (by rw [hx]; exact hu)
    rw [add_zero_block] at this
    rw [show 0 + i * E.c + j = i * E.c + j by omega]
    exact this
/-- The block of a row that is not empty. -/
theorem ElRow.ptr {A : Option Addr} {n c : Nat} (h : ElRow E w base p (.slice A n c) l) (hne : 1 ≤ l.length) : ∃ g, A = some ⟨g, 0, none⟩ ∧ base ≤ g ∧ g < w.heap.size := by
  obtain ⟨css, _, _, hown⟩ := h
  rcases hown.2 with ⟨_, h0⟩ | ⟨g, cap, cur, hv, hg, hh, _⟩
  · omega
  · cases hv; exact ⟨g, rfl, hg, heap_lt hh⟩
theorem ElRow.free {g n c : Nat} (h : ElRow E w base p (.slice (some ⟨g, 0, none⟩) n c) l) (j : Nat) : w.frozen? ⟨g, j, none⟩ = false := by
  obtain ⟨css, _, _, hown⟩ := h
  rcases hown.2 with ⟨hv, h0⟩ | ⟨g', cap, cur, hv, hg, hh, _⟩
  · cases hv
  · cases hv; exact Lib.frozen_of_heap hh j
theorem ElRow.at_ (hE : E.Ok) {g n c : Nat} (h : ElRow E w base p (.slice (some ⟨g, 0, none⟩) n c) l) {i : Nat} (hi : i < l.length) : ∃ cs, E.El w p l[i] cs ∧ w.rangeAt g (i * E.c) cs := by
  obtain ⟨css, hl, hin, hown⟩ := h
  have hic : i < css.length := by omega
  have hlen : ∀ cs ∈ css, cs.length = E.c := fun cs hcs => by
    obtain ⟨i, hi⟩ := List.getElem?_of_mem hcs
    have hik : i < l.length := by rw [← hl]; exact (List.getElem?_eq_some_iff.1 hi).1
    exact hE.len (hin i _ cs (List.getElem?_eq_getElem hik) hi)
  refine ⟨css[i], hin i _ _ (List.getElem?_eq_getElem hi) (List.getElem?_eq_getElem hic), fun j u hu => ?_⟩
  have hj : j < E.c := by have := (List.getElem?_eq_some_iff.1 hu).1; rw [hlen _ (List.getElem_mem hic)] at this; exact this
  have := hown.cells (g := g) rfl (i * E.c + j) u (by rw [flat_at hlen (List.getElem?_eq_getElem hic) hj]; exact hu)
  rw [add_zero_block] at this
  exact this
/-- The cells of a slice, one behind the other. -/
theorem ElsP.css (hE : E.Ok) {ad : Addr} {n c : Nat} (h : ElsP E w p (.slice (some ad) n c) l) : ∃ css : List (List Value), css.length = l.length ∧ (∀ (i : Nat) a cs, l[i]? = some a → css[i]? = some cs → E.El w p a cs) ∧ ∀ j u, css.flatten[j]? = some u → w.cell? (ad.add j) = some u := by
  obtain ⟨A', cap', hv, hcl, h⟩ := h
  rcases h with h | ⟨b, off, hA, hlt, hr⟩
  · subst h; exact ⟨[], rfl, by simp, by simp⟩
  · cases hv
    cases hA
    clear hlt hcl
    have hadd : ∀ j, (⟨b, off, none⟩ : Addr).add j = ⟨b, off + j, none⟩ := fun j => by unfold Addr.add; split <;> simp_all
    simp only [hadd]
    clear hadd
    induction l generalizing off with
    | nil => exact ⟨[], rfl, by simp, by simp⟩
    | cons x l ih =>
      obtain ⟨cs, h1, h2⟩ := hr 0 x rfl
      obtain ⟨css, h3, h4, h5⟩ := ih (off + E.c) (fun i a hi => by
        obtain ⟨cs, q1, q2⟩ := hr (i + 1) a (by simpa using hi)
        exact ⟨cs, q1, by rw [show off + E.c + i * E.c = off + (i + 1) * E.c by rw [Nat.succ_mul]; omega]; exact q2⟩)
      refine ⟨cs :: css, by simp [h3], ?_, ?_⟩
      · intro i a c' ha hc
        cases i with
        | zero => simp at ha hc; subst ha hc; exact h1
        | succ i => exact h4 i a c' (by simpa using ha) (by simpa using hc)
      · intro j u hu
        have hl := hE.len h1
        rw [List.flatten_cons] at hu
        by_cases hj : j < E.c
        · rw [List.getElem?_append_left (by omega)] at hu
          have := h2 j u hu
          rw [show off + 0 * E.c + j = off + j by omega] at this
          exact this
        · rw [List.getElem?_append_right (by omega), hl] at hu
          have := h5 _ u hu
          rw [show off + E.c + (j - E.c) = off + j by omega] at this
          exact this
theorem el_flat (hE : E.Ok) {css : List (List Value)} (hl : css.length = l.length) (hin : ∀ (i : Nat) a cs, l[i]? = some a → css[i]? = some cs → E.El w p a cs) : css.flatten.length = l.length * E.c ∧ ∀ u ∈ css.flatten, u.oneCell' = true := by
  have hm : ∀ cs ∈ css, ∃ a, E.El w p a cs := fun cs hcs => by
    obtain ⟨i, hi⟩ := List.getElem?_of_mem hcs
    have hik : i < l.length := by rw [← hl]; exact (List.getElem?_eq_some_iff.1 hi).1
    exact ⟨_, hin i _ cs (List.getElem?_eq_getElem hik) hi⟩
  refine ⟨by rw [flat_len (c := E.c) (fun cs hcs => by obtain ⟨a, h⟩ := hm cs hcs; exact hE.len h), hl], fun u hu => ?_⟩
  obtain ⟨cs, hcs, hu⟩ := List.mem_flatten.1 hu
  obtain ⟨a, h⟩ := hm cs hcs
  exact hE.one h u hu
end

/-! Appending. -/
theorem el_grew {w w' : World} {v v' : Value} {o : Obj} (h2 : (w.alloc o).grownBy w' v.ownBlock) : Grew w v v' w' :=
  ⟨⟨h2.os, h2.tape, h2.output, by have := h2.size; simp at this; omega, fun j hj hne => (h2.block j (by simp; omega) hne).trans (Below.heap_alloc w _ j hj)⟩, by have := h2.size; simp at this; omega⟩
theorem el_append_row {α : Type} {E : Elt α} (hE : E.Ok) {w w' : World} {base : Nat} {p : Nat → Prop} {v' : Value} {l : List α} {css : List (List Value)} (hl : css.length = l.length) (hin : ∀ (i : Nat) a cs, l[i]? = some a → css[i]? = some cs → E.El w p a cs)
    {k : α} {cs : List Value} (hk : E.El w p k cs) (hkeep : ∀ j, p j → w'.heap[j]? = w.heap[j]?) (h1 : w'.ownsRow base E.T E.c v' (l.length + 1) (css.flatten ++ cs)) : ElRow E w' base p v' (l ++ [k]) := by
  refine ⟨css ++ [cs], by simp [hl], ?_, ?_⟩
  · intro i k' cs' hk' hcs'
    by_cases hi : i < l.length
    · rw [List.getElem?_append_left hi] at hk'
      rw [List.getElem?_append_left (by omega)] at hcs'
      exact hE.keep (hin i k' cs' hk' hcs') hkeep (fun _ h => h)
    · have hi2 : i = l.length := by
        have := (List.getElem?_eq_some_iff.1 hk').1
        simp at this; omega
      subst hi2
      rw [List.getElem?_append_right (Nat.le_refl _)] at hk'
      rw [List.getElem?_append_right (by omega), hl] at hcs'
      simp at hk' hcs'
      subst hk' hcs'
      exact hE.keep hk hkeep (fun _ h => h)
  · rw [List.flatten_append, List.length_append]
    simpa using h1
theorem els_append {α : Type} {E : Elt α} (hE : E.Ok) {ops : Array Oper} {rest : List Oper} {o : Oper} {a : Act} {Q : Exit → Act → World → Prop} (hgd : o.guard = none) (s x : Operand)
    (ho : o.op = .call { callee := .builtin .append, args := #[s, x], argTypes := #[E.TS, E.TS] })
    (w : World) (base : Nat) (p : Nat → Prop) (v : Value) (l : List α) (hs : a.eval s = v) (h : ElRow E w base p v l) (t : α) (cs : List Value) (H : Nat) (hH : w.heap.size = H) (hx : a.eval x = .slice (some ⟨H, 0, none⟩) 1 1) (ht : E.El w p t cs) (hB : ∀ j, p j → v.ownBlock ≠ some j) (hB2 : ∀ j, p j → j < w.heap.size) (hbase : base ≤ w.heap.size) (hlen : l.length < 10000000000)
    (hK : ∀ g cap w', (v.ownBlock = some g ∨ w.heap.size ≤ g) → g < w'.heap.size → ElRow E w' base p (.slice (some ⟨g, 0, none⟩) (l.length + 1) cap) (l ++ [t]) → Grew w v (.slice (some ⟨g, 0, none⟩) (l.length + 1) cap) w' → Below base w w' → wpList Tryd.prog ops Q rest (a.put o.dst (.slice (some ⟨g, 0, none⟩) (l.length + 1) cap)) w') :
    wpList Tryd.prog ops Q (o :: rest) a (w.alloc (.cells cs.toArray E.T)) := by
  subst hH
  obtain ⟨i0, hi0, hz0, hz1, hz2⟩ := info_parts hE.info
  obtain ⟨css, hl, hin, hown⟩ := h
  have hsm := hE.small
  have hby : (l.length + 1) * E.bytes ≤ 140737488355328 := Nat.le_trans (Nat.mul_le_mul_left _ hsm) (by omega)
  refine wpList_append_lies _ hgd s x E.TS ho base E.T i0 _ E.c E.bytes hE.list hi0 hz0 hz1 hz2 hE.zc hE.pos v l.length css.flatten hs (ownsRow_below hown ((Below.refl _ _).alloc (Nat.le_refl _) _)) ⟨w.heap.size, 0, none⟩ 1 1 cs hx (by rw [hE.len ht, Nat.one_mul]) ?_ (hE.one ht) (by omega) (by unfold maxLen; omega) hby (by simp; omega) _ rfl ?_
  · intro j u hu
    exact World.news_of_block (heap_alloc_new w (.cells cs.toArray E.T)) j u (by simpa using hu)
  · intro g cap w' h1 h2 hat hlt'
    have hlt := hown.lt
    have hbelow : Below base w w' := ((Below.refl _ _).alloc hbase _).trans (row_grown h2 (by simp; omega) (fun k hk => by have := hlt k hk; simp; omega))
    exact hK g cap w' (hat.imp id (fun e => by rw [e]; simp)) hlt' (el_append_row hE hl hin ht (fun j hj => (h2.block j (by simp; have := hB2 j hj; omega) (fun e => hB j hj e.symm)).trans (Below.heap_alloc w _ j (hB2 j hj))) h1) (el_grew h2) hbelow
theorem els_append_step {α : Type} {E : Elt α} (hE : E.Ok) {ops : Array Oper} {o : Oper} {a : Act} {K : Act → World → Prop} {Q : Exit → Act → World → Prop} {Z : Prop} (hgd : o.guard = none) (s x : Operand)
    (ho : o.op = .call { callee := .builtin .append, args := #[s, x], argTypes := #[E.TS, E.TS] })
    (w : World) (base : Nat) (p : Nat → Prop) (v : Value) (l : List α) (hs : a.eval s = v) (h : ElRow E w base p v l) (t : α) (cs : List Value) (H : Nat) (hH : w.heap.size = H) (hx : a.eval x = .slice (some ⟨H, 0, none⟩) 1 1) (ht : E.El w p t cs) (hB : ∀ j, p j → v.ownBlock ≠ some j) (hB2 : ∀ j, p j → j < w.heap.size) (hbase : base ≤ w.heap.size) (hlen : l.length < 10000000000)
    (hK : ∀ g cap w', (v.ownBlock = some g ∨ w.heap.size ≤ g) → g < w'.heap.size → ElRow E w' base p (.slice (some ⟨g, 0, none⟩) (l.length + 1) cap) (l ++ [t]) → Grew w v (.slice (some ⟨g, 0, none⟩) (l.length + 1) cap) w' → Below base w w' → K (a.put o.dst (.slice (some ⟨g, 0, none⟩) (l.length + 1) cap)) w') :
    if Region.wanted o (yielded ops a.tmps) = true then Oper.wp Tryd.prog o a (w.alloc (.cells cs.toArray E.T)) K Q else Z := by
  subst hH
  obtain ⟨i0, hi0, hz0, hz1, hz2⟩ := info_parts hE.info
  obtain ⟨css, hl, hin, hown⟩ := h
  have hsm := hE.small
  have hby : (l.length + 1) * E.bytes ≤ 140737488355328 := Nat.le_trans (Nat.mul_le_mul_left _ hsm) (by omega)
  refine step_append_lies _ hgd s x E.TS ho base E.T i0 _ E.c E.bytes hE.list hi0 hz0 hz1 hz2 hE.zc hE.pos v l.length css.flatten hs (ownsRow_below hown ((Below.refl _ _).alloc (Nat.le_refl _) _)) ⟨w.heap.size, 0, none⟩ 1 1 cs hx (by rw [hE.len ht, Nat.one_mul]) ?_ (hE.one ht) (by omega) (by unfold maxLen; omega) hby (by simp; omega) _ rfl ?_
  · intro j u hu
    exact World.news_of_block (heap_alloc_new w (.cells cs.toArray E.T)) j u (by simpa using hu)
  · intro g cap w' h1 h2 hat hlt'
    have hlt := hown.lt
    have hbelow : Below base w w' := ((Below.refl _ _).alloc hbase _).trans (row_grown h2 (by simp; omega) (fun k hk => by have := hlt k hk; simp; omega))
    exact hK g cap w' (hat.imp id (fun e => by rw [e]; simp)) hlt' (el_append_row hE hl hin ht (fun j hj => (h2.block j (by simp; have := hB2 j hj; omega) (fun e => hB j hj e.symm)).trans (Below.heap_alloc w _ j (hB2 j hj))) h1) (el_grew h2) hbelow

/-- Appending all elements of a slice. -/
theorem run_append_els {α : Type} {E : Elt α} (hE : E.Ok) (w : World) (ty : TypeId) (base : Nat) (p : Nat → Prop) (v : Value) (xs : List α) (hx : ElRow E w base p v xs) (A : Option Addr) (n c : Nat) (l : List α) (h : ElsP E w p (.slice A n c) l) (hbase : base ≤ w.heap.size) (hl : xs.length + l.length < 10000000000)
    (hB : ∀ j, p j → v.ownBlock ≠ some j) (hB2 : ∀ j, p j → j < w.heap.size) :
    ∃ v' w', (Builtin.append_ #[E.TS, E.TS] ty #[v, .slice A n c]).run Tryd.prog w = .ok v' w' ∧ ElRow E w' base p v' (xs ++ l) ∧ Grew w v v' w' ∧ Below base w w' ∧ (v'.ownBlock = v.ownBlock ∨ v'.ownBlock = some w.heap.size) := by
  obtain ⟨i0, hi0, hz0, hz1, hz2⟩ := info_parts hE.info
  have hnl : n = l.length := by obtain ⟨A', c', hv, _⟩ := h; cases hv; rfl
  subst hnl
  have hsm := hE.small
  have hby : (xs.length + l.length) * E.bytes ≤ 140737488355328 := Nat.le_trans (Nat.mul_le_mul_left _ hsm) (by omega)
  cases A with
  | none =>
    have hn : l = [] := by
      obtain ⟨A', c', hv, _, h⟩ := h
      rcases h with h | ⟨b, off, hA, _⟩
      · exact h
      · cases hv; cases hA
    subst hn
    refine ⟨v, w, ?_, by rw [List.append_nil]; exact hx, ⟨⟨rfl, rfl, rfl, Nat.le_refl _, fun _ _ _ => rfl⟩, Nat.le_refl _⟩, Below.refl _ _, .inl rfl⟩
    obtain ⟨css, _, _, hx⟩ := hx
    rcases hx.2 with ⟨rfl, hn⟩ | ⟨g, cap, cur, rfl, _, _, hnc, _⟩
    · simp [Builtin.append_, run_underlying hE.list, sizeOf, typeInfo, hi0, Builtin.lenOf, Builtin.firstCells]
    · simp [Builtin.append_, run_underlying hE.list, sizeOf, typeInfo, hi0, Builtin.lenOf, Builtin.firstCells, hnc, storeCells]
  | some ad =>
    obtain ⟨css, hl1, hin1, hown⟩ := hx
    obtain ⟨dss, hl2, hin2, hcells⟩ := h.css hE
    obtain ⟨v', w', h1, h2, h3, _, h5⟩ := run_append_own_at (P := Tryd.prog) w base E.TS ty E.T i0 _ E.c E.bytes hE.list hi0 hz0 hz1 hz2 hE.zc hE.pos v xs.length _ hown ad l.length c dss.flatten (el_flat hE hl2 hin2).1 hcells (el_flat hE hl2 hin2).2 (by unfold maxLen; omega) hby hbase
    have hkeep : ∀ j, p j → w'.heap[j]? = w.heap[j]? := fun j hj => h3.block j (hB2 j hj) (fun e => hB j hj e.symm)
    refine ⟨v', w', h1, ⟨css ++ dss, by simp [hl1, hl2], ?_, ?_⟩, ⟨h3, h3.size⟩, row_grown h3 hbase hown.lt, h5⟩
    · intro i a cs ha hc
      by_cases hi : i < xs.length
      · rw [List.getElem?_append_left hi] at ha
        rw [List.getElem?_append_left (by omega)] at hc
        exact hE.keep (hin1 i a cs ha hc) hkeep (fun _ h => h)
      · rw [List.getElem?_append_right (by omega)] at ha
        rw [List.getElem?_append_right (by omega), hl1] at hc
        exact hE.keep (hin2 _ a cs ha hc) hkeep (fun _ h => h)
    · rw [List.flatten_append, List.length_append]
      exact h2
theorem els_append_all {α : Type} {E : Elt α} (hE : E.Ok) {ops : Array Oper} {rest : List Oper} {o : Oper} {a : Act} {Q : Exit → Act → World → Prop} (hgd : o.guard = none) (d s : Operand)
    (ho : o.op = .call { callee := .builtin .append, args := #[d, s], argTypes := #[E.TS, E.TS] })
    (w : World) (base : Nat) (p : Nat → Prop) (v : Value) (xs : List α) (hd : a.eval d = v) (hx : ElRow E w base p v xs) (A : Option Addr) (n c : Nat) (l : List α) (hs : a.eval s = .slice A n c) (h : ElsP E w p (.slice A n c) l) (hbase : base ≤ w.heap.size) (hl : xs.length + l.length < 10000000000)
    (hB : ∀ j, p j → v.ownBlock ≠ some j) (hB2 : ∀ j, p j → j < w.heap.size)
    (hK : ∀ v' w', ElRow E w' base p v' (xs ++ l) → Grew w v v' w' → Below base w w' → (v'.ownBlock = v.ownBlock ∨ v'.ownBlock = some w.heap.size) → wpList Tryd.prog ops Q rest (a.put o.dst v') w') : wpList Tryd.prog ops Q (o :: rest) a w := by
  refine wpList_plain hgd fun K hK' => ?_
  obtain ⟨v', w', hrun, h1, h2, h3, h4⟩ := run_append_els hE w o.type base p v xs hx A n c l h hbase hl hB hB2
  unfold Oper.wp
  simp [execOp, ho, resolve, invoke, builtin, hd, hs, hrun, Result.andThen]
  exact hK' _ _ (hK v' w' h1 h2 h3 h4)
end Go.Proofs.YtaghipnheomggaaDoor
set_option linter.unusedVariables false
namespace Go.Proofs.YtaghipnheomggaaDoor
open Go.RowKit

theorem enterL_err : ∀ {ats : List Att} {g : Scope} {e : Int × Nat}, enterL g ats = .error e → e.2 ≠ 0
  | [], g, e, h => by rw [enterL] at h; cases h
  | a :: ats, g, e, h => by
    rw [enterL] at h
    split at h
    · cases h; simp
    · split at h
      · exact enterL_err h
      · split at h
        · cases h; simp
        · exact enterL_err h
theorem attrsL_err : ∀ {ats acc : List Att} {g : Scope} {e : Int × Nat}, attrsL g acc ats = .error e → e.2 ≠ 0
  | [], acc, g, e, h => by rw [attrsL] at h; cases h
  | a :: ats, acc, g, e, h => by
    rw [attrsL] at h
    split at h
    · exact attrsL_err h
    · split at h
      · cases h; simp
      · split at h
        · cases h; simp
        · exact attrsL_err h
theorem headF_err {g : Scope} {n : Node} {e : Int × Nat} (h : headF g n = .error e) : e.2 ≠ 0 := by
  unfold headF at h
  split at h
  · cases h; simp
  · split at h
    · cases h; simp
    · split at h
      · cases h; exact enterL_err (by assumption)
      · split at h
        · cases h; simp
        · split at h
          · cases h; exact attrsL_err (by assumption)
          · cases h
theorem resN_eq (g : Scope) (n : Node) : resN g n = match headF g n with | .error e => .error e | .ok (sp, l, bs, g') => match resL g' n.kids with | .error e => .error e | .ok ks' => .ok (.mk 0 sp l bs ks' [] n.pos) := by
  cases n with
  | mk k s nm ats ks t q =>
    rw [resN]
    rfl
mutual
theorem resN_err {g : Scope} : ∀ {n : Node} {e : Int × Nat}, resN g n = .error e → e.2 ≠ 0
  | .mk k s nm ats ks t q, e, h => by
    rw [resN] at h
    split at h
    · cases h; exact headF_err (by assumption)
    · split at h
      · cases h; exact resL_err (by assumption)
      · cases h
theorem resL_err {g : Scope} : ∀ {ks : List Node} {e : Int × Nat}, resL g ks = .error e → e.2 ≠ 0
  | [], e, h => by rw [resL] at h; cases h
  | k :: ks, e, h => by
    rw [resL] at h
    split at h
    · split at h
      · cases h; exact resN_err (by assumption)
      · split at h
        · cases h; exact resL_err (by assumption)
        · cases h
    · split at h
      · cases h; exact resL_err (by assumption)
      · cases h
end
theorem resL_other {g : Scope} {k : Node} {ks : List Node} (h : k.kind ≠ 0) : resL g (k :: ks) = (resL g ks).map (k :: ·) := by
  rw [resL, if_neg h]
  cases resL g ks <;> rfl
theorem resL_elem {g : Scope} {k k' : Node} {ks : List Node} (h : k.kind = 0) (hk : resN g k = .ok k') : resL g (k :: ks) = (resL g ks).map (k' :: ·) := by
  rw [resL, if_pos h, hk]
  cases resL g ks <;> rfl
theorem resL_fail {g : Scope} {k : Node} {ks : List Node} {e : Int × Nat} (h : k.kind = 0) (hk : resN g k = .error e) : resL g (k :: ks) = .error e := by
  rw [resL, if_pos h, hk]
theorem map_map_app {r : Except (Int × Nat) (List Node)} {xs : List Node} {k : Node} : (r.map (k :: ·)).map (xs ++ ·) = r.map ((xs ++ [k]) ++ ·) := by
  cases r with
  | error e => rfl
  | ok l => simp [Except.map]

/-! Trees whose nodes other than elements have neither attributes nor kids. -/
mutual
def Clean : Node → Prop
  | .mk k _ _ ats ks _ _ => (k ≠ 0 → ats = [] ∧ ks = []) ∧ CleanL ks
def CleanL : List Node → Prop
  | [] => True
  | k :: ks => Clean k ∧ CleanL ks
end
theorem CleanL.mem : ∀ {ks : List Node}, CleanL ks → ∀ {k : Node}, k ∈ ks → Clean k
  | x :: ks, h, k, hk => by
    rw [CleanL] at h
    rcases List.mem_cons.1 hk with rfl | hk
    · exact h.1
    · exact CleanL.mem h.2 hk
theorem Clean.kid {n : Node} (h : Clean n) {k : Node} (hk : k ∈ n.kids) : Clean k := by
  cases n with
  | mk a b c d ks e f => rw [Clean] at h; exact h.2.mem hk
theorem Clean.bare {n : Node} (h : Clean n) (hk : n.kind ≠ 0) : n.attrs = [] ∧ n.kids = [] := by
  cases n with
  | mk a b c d ks e f => rw [Clean] at h; exact h.1 hk
theorem CleanL.of : ∀ {ks : List Node}, (∀ k ∈ ks, Clean k) → CleanL ks
  | [], _ => by rw [CleanL]; trivial
  | k :: ks, h => by rw [CleanL]; exact ⟨h k (by simp), CleanL.of fun x hx => h x (by simp [hx])⟩

/-! Nodes as elements of rows. -/
abbrev nodeE : Elt Node where
  T := 29
  TS := 27
  c := 7
  bytes := 112
  zero := .agg #[.int .i64 0, .string ByteArray.empty, .string ByteArray.empty, .slice none 0 0, .slice none 0 0, .string ByteArray.empty, .int .i64 0]
  El := fun w p n cs => NodeP w p n cs
theorem nodeE_ok : nodeE.Ok where
  info := infoNode
  list := Tryd.underlying27
  zc := rfl
  pos := by decide
  small := by decide
  keep := fun {w w' p p' a cs} h hb hp => NodeP.keep hb hp a cs h
  len := fun h => h.len
  one := fun h => h.one
theorem ElsP.nodesP {w : World} {p : Nat → Prop} {v : Value} {ks : List Node} (h : ElsP nodeE w p v ks) : NodesP w p v ks := by
  obtain ⟨A, cap, hv, hc, h⟩ := h
  exact ⟨A, cap, hv, hc, h.imp id fun ⟨b, off, hA, hp, hr⟩ => ⟨b, off, hA, hp, KidsP.of_at hr⟩⟩
theorem NodesP.elsP {w : World} {p : Nat → Prop} {v : Value} {ks : List Node} (h : NodesP w p v ks) : ElsP nodeE w p v ks := by
  obtain ⟨A, cap, hv, hc, h⟩ := h
  exact ⟨A, cap, hv, hc, h.imp id fun ⟨b, off, hA, hp, hr⟩ => ⟨b, off, hA, hp, fun i a hi => hr.at_ hi⟩⟩
/-- A node without attributes and kids leads nowhere. -/
theorem NodeP.bare {w w' : World} {p p' : Nat → Prop} {n : Node} {cs : List Value} (h : NodeP w p n cs) (h1 : n.attrs = []) (h2 : n.kids = []) : NodeP w' p' n cs := by
  obtain ⟨va, vk, hcs, ⟨A, c, ha, hc, _⟩, ⟨K, d, hk, hd, _⟩⟩ := h.form
  rw [hcs]
  exact NodeP.of_form ⟨A, c, ha, hc, .inl h1⟩ ⟨K, d, hk, hd, .inl h2⟩
end Go.Proofs.YtaghipnheomggaaDoor
set_option linter.unusedVariables false
namespace Go.Proofs.YtaghipnheomggaaDoor
open Go.RowKit

/-! What declared returns, and what an attribute declares. -/
theorem upto_app {c : UInt8} : ∀ {x t : Bytes}, c ∉ x → upto c (x ++ c :: t) = some x
  | [], t, _ => by rw [List.nil_append, upto, if_pos rfl]
  | a :: x, t, h => by
    rw [List.cons_append, upto, if_neg (fun e => h (by simp [e])), upto_app (fun e => h (by simp [e]))]
    rfl
theorem isNm_nil : isNm [] = false := rfl
theorem dclP_decl {l : Bytes} {r : Bytes × Bytes} (h : splitF l = some r) : declF l = if (dclP l).2 = true then some (dclP l).1 else none := by
  obtain ⟨p, q⟩ := r
  unfold declF dclP
  rw [h]
  simp only
  by_cases h1 : l = bXmlns
  · rw [if_pos h1]
    subst h1
    have : splitF bXmlns = some ([], bXmlns) := by
      have h2 : upto 58 bXmlns = none := by decide
      unfold splitF at h ⊢
      rw [h2] at h ⊢
      simp only at h ⊢
      split at h
      · rename_i h3; rw [if_pos h3]
      · cases h
    rw [this] at h
    cases h
    rfl
  · rw [if_neg h1]
    by_cases h2 : Lib.hasPrefix l bXmlnsC = true
    · rw [show Lib.trimPrefix l bXmlnsC = l.drop 6 by unfold Lib.trimPrefix; rw [if_pos h2]; rfl, h2, if_pos rfl]
      obtain ⟨t, rfl⟩ : ∃ t, bXmlnsC ++ t = l := by
        have := List.isPrefixOf_iff_prefix.1 h2
        exact this
      have h3 : upto 58 (bXmlnsC ++ t) = some bXmlns := upto_app (x := bXmlns) (by decide)
      have h4 : (bXmlnsC ++ t).drop (bXmlns.length + 1) = t := rfl
      unfold splitF at h
      rw [h3] at h
      simp only [h4] at h
      split at h
      · cases h
        rw [if_neg (fun e => absurd e.1 (by decide)), if_pos rfl]
        rfl
      · cases h
    · have h2' : Lib.hasPrefix l bXmlnsC = false := by simpa using h2
      rw [h2']
      simp only [Bool.false_eq_true, if_false]
      unfold splitF at h
      cases hu : upto 58 l with
      | none =>
        rw [hu] at h
        simp only at h
        split at h
        · cases h
          rw [if_neg (fun e => h1 e.2), if_neg (fun e => absurd e (by decide))]
        · cases h
      | some x =>
        rw [hu] at h
        simp only at h
        split at h
        · rename_i h3
          cases h
          rw [Bool.and_eq_true] at h3
          rw [if_neg (fun e => by rw [e.1, isNm_nil] at h3; exact absurd h3.1 (by decide)), if_neg]
          intro e
          obtain ⟨t, ht, _⟩ := upto_some hu
          refine h2 (List.isPrefixOf_iff_prefix.2 ⟨t, ?_⟩)
          rw [ht, e]
          rfl
        · cases h
theorem dclP_flag {l : Bytes} (h : splitF l ≠ none) : (declF l).isSome = (dclP l).2 := by
  cases hs : splitF l with
  | none => exact absurd hs h
  | some r =>
    rw [dclP_decl hs]
    cases (dclP l).2 <;> rfl

/-! Scopes in memory. -/
/-- Block b is a map that holds this scope. -/
def ScopeM (w : World) (b : Nat) (g : Scope) : Prop := ∃ l, MapOf w b l ∧ ∀ k, look k l = (g k).map fun s => Value.string (S s)
theorem look_put (k j : Bytes) (v : Value) : ∀ l, look j (putM k v l) = if j = k then some v else look j l
  | [] => by
    unfold putM look
    by_cases h : j = k
    · subst h; simp
    · rw [if_neg (by simpa using h), if_neg h]; rfl
  | p :: l => by
    rw [putM]
    by_cases hk : (k == p.1) = true
    · rw [if_pos hk, look]
      have hkp : k = p.1 := by simpa using hk
      by_cases h : j = k
      · subst h; simp
      · rw [if_neg (by simpa using h), if_neg h]
        rw [look, if_neg (by rw [← hkp]; simpa using h)]
    · rw [if_neg hk, look, look]
      have hkp : k ≠ p.1 := by simpa using hk
      by_cases hj : (j == p.1) = true
      · have : j = p.1 := by simpa using hj
        rw [if_pos hj, if_pos hj, if_neg (by rw [this]; exact fun e => hkp e.symm)]
      · rw [if_neg hj, if_neg hj, look_put k j v l]
theorem ScopeM.lt {w : World} {b : Nat} {g : Scope} (h : ScopeM w b g) : b < w.heap.size := by obtain ⟨l, h1, _⟩ := h; exact h1.lt
theorem ScopeM.keep {w w' : World} {b : Nat} {g : Scope} (h : ScopeM w b g) (hb : w'.heap[b]? = w.heap[b]?) : ScopeM w' b g := by
  obtain ⟨l, h1, h2⟩ := h; exact ⟨l, h1.keep hb, h2⟩
theorem ScopeM.below {w w' : World} {b : Nat} {g : Scope} (h : ScopeM w b g) (hb : Below w.heap.size w w') : ScopeM w' b g := h.keep (hb.block b h.lt)
theorem ScopeM.put {w' : World} {b : Nat} {g : Scope} {l : List (Bytes × Value)} {k v : Bytes} (h : MapOf w' b (putM k (.string (S v)) l)) (hl : ∀ j, look j l = (g j).map fun s => Value.string (S s)) : ScopeM w' b (g.put k v) := by
  refine ⟨_, h, fun j => ?_⟩
  rw [look_put]
  unfold Scope.put
  split
  · rfl
  · exact hl j
theorem ScopeM.clone {w : World} {b : Nat} {g : Scope} (h : ScopeM w b g) : ∃ es clock, w.heap[b]? = some (.map es clock) ∧ ScopeM (w.alloc (.map es clock)) w.heap.size g := by
  obtain ⟨l, ⟨es, clock, h1, h2⟩, h3⟩ := h
  exact ⟨es, clock, h1, l, ⟨es, clock, heap_alloc_new w _, h2⟩, h3⟩

theorem faultSize : (Tryd.prog.info? 52).map (·.size) = some 2 := by kernel_rfl
theorem res_tmp_cell {P : Program} {fn : Func} {p q : Tmp} {ty : TypeId} (h : fn.results = #[.tmp q, .cell p ty]) (tmps : Array Value) (w : World) (g : Nat) (ht : tmps.getD p undef = .pointer (some ⟨g, 0, none⟩)) (t : TypeId) (cells : Array Value) (hg : w.heap[g]? = some (.cells cells t (0, 0)))
    {d : TypeDesc} (hu : P.underlying ty = some d) (hd : d.isRow = true) (hi : (P.info? ty).map (·.size) = some cells.size) (x : Value) (hx : tmps.getD q undef = x) : (results fn tmps).run P w = .ok (.tuple #[x, .agg cells]) w := by
  have hc : w.rangeAt g 0 cells.toList := fun j v hv => by rw [Nat.zero_add, Lib.cell_of_heap hg]; simpa using hv
  have hl := run_loadVar_mid (P := P) w g 0 ty cells.toList d hc hu hd (by simpa using hi)
  rw [Array.toArray_toList] at hl
  subst hx
  have ht' : tmps[p]?.getD undef = .pointer (some ⟨g, 0, none⟩) := by simpa using ht
  simp only [results, h]
  simp [ht', asAddr, hl]
/-- Checking an element's names, and what it declares. -/
def enterF (g : Scope) (n : Node) : Except (Int × Nat) Scope :=
  match splitF n.name with
  | none => .error (n.pos, 13)
  | some (p, _) => if p = bXmlns then .error (n.pos, 13) else enterL g n.attrs
/-- What enter returns. -/
def EntRes (w w' : World) (r : Except (Int × Nat) Scope) (e : Ending) : Prop :=
  match r with
  | .error q => e = .returned (.tuple #[.map none, .agg #[.int .i64 q.1, .int .i64 q.2]])
  | .ok g => ∃ b, e = .returned (.tuple #[.map (some b), .agg #[.int .i64 0, .int .i64 0]]) ∧ w.heap.size ≤ b ∧ ScopeM w' b g
/-- Where enter stands: the box of its argument, its fault. -/
structure ELe (w0 : World) (n : Node) (A : Option Addr) (c : Nat) (K : Option Addr) (d : Nat) (wr : World) : Prop where
  box : wr.heap[w0.heap.size]? = some (nodeBox n A c K d)
  res : wr.heap[w0.heap.size + 1]? = some (.cells #[.int .i64 0, .int .i64 0] 52 (0, 0))
  below : Below w0.heap.size w0 wr
theorem ELe.new (w : World) (n : Node) (A : Option Addr) (c : Nat) (K : Option Addr) (d : Nat) : ELe w n A c K d ((w.alloc (nodeBox n A c K d)).alloc (.cells #[.int .i64 0, .int .i64 0] 52)) :=
  ⟨alloc_old (heap_alloc_new w _), alloc_at (by simp), ((Below.refl _ _).alloc (Nat.le_refl _) _).alloc (by simp) _⟩
theorem ELe.next {w0 : World} {n : Node} {A : Option Addr} {c : Nat} {K : Option Addr} {d : Nat} {wr w' : World} (h : ELe w0 n A c K d wr) (hb : Below wr.heap.size wr w') : ELe w0 n A c K d w' :=
  ⟨(hb.block _ (heap_lt h.box)).trans h.box, (hb.block _ (heap_lt h.res)).trans h.res, h.below.trans (hb.mono h.below.size)⟩
theorem two_set {W : World} {b : Nat} {t : TypeId} {c0 c1 : Value} (h : W.heap[b]? = some (.cells #[c0, c1] t (0, 0))) (v0 v1 : Value) :
    ((W.setCell ⟨b, 0, none⟩ v0).setCell ⟨b, 1, none⟩ v1).drew.heap[b]? = some (.cells #[v0, v1] t (0, 0)) := by
  rw [drew_heap]
  exact heap_set (i := 1) (heap_set (i := 0) h v0) v1
theorem below_two {B b : Nat} {w W : World} (h : Below B w W) (hb : B ≤ b) (v0 v1 : Value) : Below B w ((W.setCell ⟨b, 0, none⟩ v0).setCell ⟨b, 1, none⟩ v1).drew :=
  ((h.setCell (p := ⟨b, 0, none⟩) hb _).setCell (p := ⟨b, 1, none⟩) hb _).drew
theorem cells2 {w : World} {b : Nat} {c0 c1 : Value} {t : TypeId} {fr : Nat × Nat} (h : w.heap[b]? = some (.cells #[c0, c1] t fr)) :
    w.cell? ⟨b, 0, none⟩ = some c0 ∧ w.cell? ⟨b, 1, none⟩ = some c1 := by
  refine ⟨?_, ?_⟩ <;> (rw [Lib.cell_of_heap h]; rfl)

theorem attF_in8 {ats : List Att} {i : Nat} (h : i < ats.length) : attF ats[i] ≤ attsF ats := attsF_mem (List.getElem_mem h)
set_option maxHeartbeats 4000000 in
set_option maxRecDepth 100000 in
theorem enter_any (n : Node) (v : Value) (mb : Nat) (g : Scope) (w : World) (hs : full n ≤ 1000000000) (hT : Tabs w) (hg : ScopeM w mb g) (hv : NodeV w w.heap.size n v) :
    Calls Tryd.prog 45 #[.map (some mb), v] w fun e w' => EntRes w w' (enterF g n) e ∧ Below w.heap.size w w' := by
  obtain ⟨R, hR⟩ : ∃ R, enterF g n = R := ⟨_, rfl⟩
  rw [hR]
  unfold enterF at hR
  obtain ⟨A, c, K, d, rfl, ha, hk, hc, hd⟩ := hv.open_
  have hsz := full_form n
  have hal := attsF_len n.attrs
  have L0 := Lib.hid (ELe.new w n A c K d)
  have csp := fun W (hW : Tabs W) => split_any n.name W hW (by omega)
  have CSP := Lib.hid (csp _ (hT.next L0.out.below))
  have HT := Lib.hid hT
  have HG := Lib.hid hg
  clear hv hk csp hT hg
  cases hsp : splitF n.name with
  | none =>
    rw [hsp] at hR
    have HR : Hid (R = .error (n.pos, 13)) := hR.symm
    have hspr : splR n.name = ([], [], false) := by unfold splR; rw [hsp]
    have CS2 := Lib.hid (hspr ▸ CSP.out)
    clear hR hsp ha CSP hspr
    go_enter Tryd.func45, Tryd.ntmps45
    go_wp2_with fail
    refine (CS2.out).mono ?_
    rintro e w1 ⟨rfl, hb1⟩
    have L1 := Lib.hid (L0.out.next hb1)
    clear hb1 L0
    obtain ⟨s0, s1⟩ := cells2 L1.out.res
    obtain ⟨b0, b1, b2, b3, b4, b5, b6⟩ := box_cells L1.out.box
    have hfr : ∀ i, w1.frozen? ⟨w.heap.size + 1, i, none⟩ = false := Lib.frozen_of_heap L1.out.res
    go_wp2_with fail
    go_region
    all_goals
      go_wp2_with fail
      refine bodyPost_ret (v := .tuple #[_, .agg _]) (res_tmp_cell Tryd.results45 _ _ (w.heap.size + 1) rfl 52 _ (two_set L1.out.res _ _) Tryd.underlying52 rfl faultSize _ rfl) rfl ⟨?_, ?_⟩
      · rw [HR.out]; rfl
      · exact below_two L1.out.below (by omega) _ _
  | some pq =>
    obtain ⟨p, q⟩ := pq
    rw [hsp] at hR
    simp only at hR
    have hspr : splR n.name = (p, q, true) := by unfold splR; rw [hsp]
    have CS2 := Lib.hid (hspr ▸ CSP.out)
    clear hsp CSP hspr
    by_cases hp : p = bXmlns
    · rw [if_pos hp] at hR
      have HRR : Hid (R = .error (n.pos, 13)) := hR.symm
      have t1 : (p == [120, 109, 108, 110, 115]) = true := by rw [hp]; rfl
      clear hR hp ha
      go_enter Tryd.func45, Tryd.ntmps45
      go_wp2_with fail
      refine (CS2.out).mono ?_
      rintro e w1 ⟨rfl, hb1⟩
      have L1 := Lib.hid (L0.out.next hb1)
      clear hb1 L0
      obtain ⟨s0, s1⟩ := cells2 L1.out.res
      obtain ⟨b0, b1, b2, b3, b4, b5, b6⟩ := box_cells L1.out.box
      have hfr : ∀ i, w1.frozen? ⟨w.heap.size + 1, i, none⟩ = false := Lib.frozen_of_heap L1.out.res
      go_wp2_with fail
      go_region
      all_goals
        go_wp2_with fail
        refine bodyPost_ret (v := .tuple #[_, .agg _]) (res_tmp_cell Tryd.results45 _ _ (w.heap.size + 1) rfl 52 _ (two_set L1.out.res _ _) Tryd.underlying52 rfl faultSize _ rfl) rfl ⟨?_, ?_⟩
        · rw [HRR.out]; rfl
        · exact below_two L1.out.below (by omega) _ _
    · rw [if_neg hp] at hR
      have t1 : (p == [120, 109, 108, 110, 115]) = false := by rw [beq_eq_false_iff_ne]; exact hp
      have HE := Lib.hid hR
      have HA := Lib.hid ha
      clear hR hp ha
      go_enter Tryd.func45, Tryd.ntmps45
      go_wp2_with fail
      refine (CS2.out).mono ?_
      rintro e w1 ⟨rfl, hb1⟩
      have L1 := Lib.hid (L0.out.next hb1)
      obtain ⟨es, clock, hes, hcl⟩ := (HG.out.keep (L1.out.below.block mb HG.out.lt)).clone
      have HES := Lib.hid hes
      have G2 := Lib.hid hcl
      have L2 := Lib.hid (L1.out.next ((Below.refl _ w1).alloc (Nat.le_refl _) (.map es clock)))
      have hz1 : w.heap.size + 2 ≤ w1.heap.size := heap_lt L1.out.res
      clear hb1 L0 L1 hes hcl
      obtain ⟨b0, b1, b2, b3, b4, b5, b6⟩ := box_cells L2.out.box
      go_wp2_with fail
      refine (Tryd.maps_Clone mb es clock w1 HES.out).mono ?_
      rintro e w2 ⟨rfl, rfl⟩
      go_wp2_with fail
      generalize w1.alloc (.map es clock) = W2 at *
      generalize w1.heap.size = nb at *
      clear b0 b1 b2 b3 b4 b5 b6 HES CS2
      go_loopw [38] (fun i38 wr => ∃ (i : Nat) (g1 : Scope), i ≤ n.attrs.length ∧ i38 = .int .i64 i ∧ enterL g1 (n.attrs.drop i) = R ∧ ScopeM wr nb g1 ∧ ELe w n A c K d wr) (fun i38 _ => n.attrs.length - (intOf i38).toNat)
      case atStart => exact ⟨0, g, Nat.zero_le _, rfl, HE.out, G2.out, L2.out⟩
      case round =>
        obtain ⟨i, g1, hi, rfl, hent, hsc, hlo⟩ := hrel
        clear HE G2 L2 HG
        have HLO := Lib.hid hlo
        have HSC := Lib.hid hsc
        have hzr := hsc.lt
        have HTR := Lib.hid (HT.out.next hlo.below)
        clear hlo hsc
        by_cases hlt : i < n.attrs.length
        · have hlt' : (i : Int) < n.attrs.length := by omega
          obtain ⟨ab, off, rfl, hab, hra⟩ := HA.out.at_ hlt
          have hra := rangeAt_keep hra (HLO.out.below.block ab hab)
          have haf := attF_in8 hlt
          rw [List.drop_eq_getElem_cons hlt, enterL] at hent
          unfold attF at haf
          generalize n.attrs[i] = a at *
          obtain ⟨asp, anm, avl, apos⟩ := a
          simp only at hent haf
          have hb4 := (Below.refl _ wr).alloc (Nat.le_refl _) (.cells #[.string (S asp), .string (S anm), .string (S avl), .int .i64 apos] 41)
          have csp := split_any anm _ (HTR.out.next hb4) (by omega)
          have cdc := fun w => declared_any ⟨asp, anm, avl, apos⟩ w
          simp only at cdc
          have L4 := Lib.hid (HLO.out.next hb4)
          have G4 := Lib.hid (HSC.out.below hb4)
          have X4 := Lib.hid (heap_alloc_new wr (.cells #[.string (S asp), .string (S anm), .string (S avl), .int .i64 apos] 41))
          have Z4 : Hid ((wr.alloc (.cells #[.string (S asp), .string (S anm), .string (S avl), .int .i64 apos] 41)).heap.size = wr.heap.size + 1) := Lib.hid (by simp)
          have HRA := Lib.hid hra
          clear hra hb4
          cases hsp : splitF anm with
          | none =>
            rw [hsp, if_pos rfl] at hent
            rw [show splR anm = ([], [], false) by unfold splR; rw [hsp]] at csp
            have HRR : Hid (R = .error (apos, 13)) := hent.symm
            have CSA := Lib.hid csp
            clear hent csp cdc hsp
            go_wp2_with (with_reducible refine gate ?_; refine wp_load_att rfl _ rfl ab (off + i * 4) rfl ⟨asp, anm, avl, apos⟩ HRA.out ?_)
            refine (CSA.out).mono ?_
            rintro e w3 ⟨rfl, hb3⟩
            have X3 := Lib.hid ((hb3.block _ (by have := Z4.out; omega)).trans X4.out)
            have hr3 : w3.rangeAt wr.heap.size 0 (attCells ⟨asp, anm, avl, apos⟩) := range_of_heap X3.out
            have L3 := Lib.hid (L4.out.next hb3)
            have hz3 : wr.heap.size < w3.heap.size := heap_lt X3.out
            have G3 := Lib.hid (G4.out.below hb3)
            clear hb3
            obtain ⟨q0, q1, q2, q3⟩ := cells4 X3.out
            obtain ⟨s0, s1⟩ := cells2 L3.out.res
            have hfr : ∀ i, w3.frozen? ⟨w.heap.size + 1, i, none⟩ = false := Lib.frozen_of_heap L3.out.res
            clear hr3
            generalize wr.heap.size = gg at *
            go_wp2_with fail
            go_region
            all_goals
              go_wp2_with fail
              refine bodyPost_ret (v := .tuple #[_, .agg _]) (res_tmp_cell Tryd.results45 _ _ (w.heap.size + 1) rfl 52 _ (two_set L3.out.res _ _) Tryd.underlying52 rfl faultSize _ rfl) rfl ⟨?_, ?_⟩
              · rw [HRR.out]; rfl
              · exact below_two L3.out.below (by omega) _ _
          | some pq2 =>
            rw [hsp, if_neg (by simp), dclP_decl hsp] at hent
            obtain ⟨pa, qa⟩ := pq2
            rw [show splR anm = (pa, qa, true) by unfold splR; rw [hsp]] at csp
            generalize dclP anm = D at *
            obtain ⟨dn, dd⟩ := D
            simp only at hent cdc
            have CSA := Lib.hid csp
            have CDC := Lib.hid cdc
            clear csp cdc hsp
            cases dd
            case false =>
              have HENT : Hid (enterL g1 (n.attrs.drop (i + 1)) = R) := hent
              clear hent
              go_wp2_with (with_reducible refine gate ?_; refine wp_load_att rfl _ rfl ab (off + i * 4) rfl ⟨asp, anm, avl, apos⟩ HRA.out ?_)
              refine (CSA.out).mono ?_
              rintro e w3 ⟨rfl, hb3⟩
              have X3 := Lib.hid ((hb3.block _ (by have := Z4.out; omega)).trans X4.out)
              have hr3 : w3.rangeAt wr.heap.size 0 (attCells ⟨asp, anm, avl, apos⟩) := range_of_heap X3.out
              have L3 := Lib.hid (L4.out.next hb3)
              have hz3 : wr.heap.size < w3.heap.size := heap_lt X3.out
              have G3 := Lib.hid (G4.out.below hb3)
              clear hb3
              go_wp2_with (with_reducible refine gate ?_; refine wp_load_att rfl _ rfl wr.heap.size 0 rfl ⟨asp, anm, avl, apos⟩ hr3 ?_)
              refine (CDC.out _).mono ?_
              rintro e w5 ⟨rfl, hb5⟩
              have X5 := Lib.hid ((hb5.block _ hz3).trans X3.out)
              have L5 := Lib.hid (L3.out.next hb5)
              have G5 := Lib.hid (G3.out.below hb5)
              clear hb5 hr3
              obtain ⟨q0, q1, q2, q3⟩ := cells4 X5.out
              go_wp2_with fail
              go_roundw
              case rel => exact ⟨i + 1, g1, by omega, by go_num, HENT.out, G5.out, L5.out⟩
              case measure => simp [intOf]; omega
            case true =>
              simp only [if_true] at hent
              by_cases hbad : dn = bXml ∨ dn = bXmlns ∨ (dn ≠ [] ∧ avl = [])
              · rw [if_pos hbad] at hent
                have HRR : Hid (R = .error (apos, 13)) := hent.symm
                have ht : (dn == [120, 109, 108]) = true ∨ ((dn == [120, 109, 108]) = false ∧ (dn == [120, 109, 108, 110, 115]) = true) ∨ ((dn == [120, 109, 108]) = false ∧ (dn == [120, 109, 108, 110, 115]) = false ∧ (dn == []) = false ∧ (avl == []) = true) := by
                  by_cases h1 : dn = bXml
                  · exact .inl (by rw [h1]; rfl)
                  · by_cases h2 : dn = bXmlns
                    · exact .inr (.inl ⟨by rw [h2]; rfl, by rw [h2]; rfl⟩)
                    · obtain ⟨h3, h4⟩ := (hbad.resolve_left h1).resolve_left h2
                      exact .inr (.inr ⟨by rw [beq_eq_false_iff_ne]; exact h1, by rw [beq_eq_false_iff_ne]; exact h2, by rw [beq_eq_false_iff_ne]; exact h3, by rw [h4]; rfl⟩)
                clear hent hbad
                rcases ht with u1 | ⟨u1, u2⟩ | ⟨u1, u2, u3, u4⟩
                all_goals
                  try have u5 : (dn != []) = true := by rw [bne, u3]; rfl
                  go_wp2_with (with_reducible refine gate ?_; refine wp_load_att rfl _ rfl ab (off + i * 4) rfl ⟨asp, anm, avl, apos⟩ HRA.out ?_)
                  refine (CSA.out).mono ?_
                  rintro e w3 ⟨rfl, hb3⟩
                  have X3 := Lib.hid ((hb3.block _ (by have := Z4.out; omega)).trans X4.out)
                  have hr3 : w3.rangeAt wr.heap.size 0 (attCells ⟨asp, anm, avl, apos⟩) := range_of_heap X3.out
                  have L3 := Lib.hid (L4.out.next hb3)
                  have hz3 : wr.heap.size < w3.heap.size := heap_lt X3.out
                  have G3 := Lib.hid (G4.out.below hb3)
                  clear hb3
                  go_wp2_with (with_reducible refine gate ?_; refine wp_load_att rfl _ rfl wr.heap.size 0 rfl ⟨asp, anm, avl, apos⟩ hr3 ?_)
                  refine (CDC.out _).mono ?_
                  rintro e w5 ⟨rfl, hb5⟩
                  have X5 := Lib.hid ((hb5.block _ hz3).trans X3.out)
                  have L5 := Lib.hid (L3.out.next hb5)
                  have G5 := Lib.hid (G3.out.below hb5)
                  clear hb5 hr3
                  obtain ⟨q0, q1, q2, q3⟩ := cells4 X5.out
                  obtain ⟨s0, s1⟩ := cells2 L5.out.res
                  have hfr : ∀ i, w5.frozen? ⟨w.heap.size + 1, i, none⟩ = false := Lib.frozen_of_heap L5.out.res
                  generalize wr.heap.size = gg at *
                  go_wp2_with fail
                  go_region
                  all_goals
                    go_wp2_with fail
                    refine bodyPost_ret (v := .tuple #[_, .agg _]) (res_tmp_cell Tryd.results45 _ _ (w.heap.size + 1) rfl 52 _ (two_set L5.out.res _ _) Tryd.underlying52 rfl faultSize _ rfl) rfl ⟨?_, ?_⟩
                    · rw [HRR.out]; rfl
                    · exact below_two L5.out.below (by omega) _ _
              · rw [if_neg hbad] at hent
                have ht : ((dn == []) = true ∧ (dn != []) = false) ∨ ((dn == []) = false ∧ (dn != []) = true ∧ (avl == []) = false) := by
                  by_cases h1 : dn = []
                  · exact .inl ⟨by rw [h1]; rfl, by rw [h1]; rfl⟩
                  · have h2 : (dn == []) = false := by rw [beq_eq_false_iff_ne]; exact h1
                    refine .inr ⟨h2, by rw [bne, h2]; rfl, ?_⟩
                    rw [beq_eq_false_iff_ne]; exact fun e => hbad (.inr (.inr ⟨h1, e⟩))
                have u1 : (dn == [120, 109, 108]) = false := by rw [beq_eq_false_iff_ne]; exact fun e => hbad (.inl e)
                have u2 : (dn == [120, 109, 108, 110, 115]) = false := by rw [beq_eq_false_iff_ne]; exact fun e => hbad (.inr (.inl e))
                have HENT := Lib.hid hent
                clear hent hbad
                rcases ht with ⟨u3, u4⟩ | ⟨u3, u4, u5⟩
                all_goals
                  go_wp2_with (with_reducible refine gate ?_; refine wp_load_att rfl _ rfl ab (off + i * 4) rfl ⟨asp, anm, avl, apos⟩ HRA.out ?_)
                  refine (CSA.out).mono ?_
                  rintro e w3 ⟨rfl, hb3⟩
                  have X3 := Lib.hid ((hb3.block _ (by have := Z4.out; omega)).trans X4.out)
                  have hr3 : w3.rangeAt wr.heap.size 0 (attCells ⟨asp, anm, avl, apos⟩) := range_of_heap X3.out
                  have L3 := Lib.hid (L4.out.next hb3)
                  have hz3 : wr.heap.size < w3.heap.size := heap_lt X3.out
                  have G3 := Lib.hid (G4.out.below hb3)
                  clear hb3
                  go_wp2_with (with_reducible refine gate ?_; refine wp_load_att rfl _ rfl wr.heap.size 0 rfl ⟨asp, anm, avl, apos⟩ hr3 ?_)
                  refine (CDC.out _).mono ?_
                  rintro e w5 ⟨rfl, hb5⟩
                  have X5 := Lib.hid ((hb5.block _ hz3).trans X3.out)
                  have L5 := Lib.hid (L3.out.next hb5)
                  have G5 := Lib.hid (G3.out.below hb5)
                  clear hb5 hr3
                  obtain ⟨q0, q1, q2, q3⟩ := cells4 X5.out
                  obtain ⟨l5, hm5, hl5⟩ := G5.out
                  have HM5 := Lib.hid hm5
                  have HL5 := Lib.hid hl5
                  clear hm5 hl5
                  go_wp2_with (with_reducible refine gate ?_; refine wpList_map_put rfl _ _ _ _ rfl Tryd.underlying55 Tryd.underlying9 nb l5 HM5.out rfl dn rfl (.string (S avl)) rfl ?_; intro w6 hm6 hu6 hz6)
                  go_roundw
                  case rel => exact ⟨i + 1, g1.put dn avl, by omega, by go_num, HENT.out, ScopeM.put hm6 HL5.out, ⟨(hu6.block _ (heap_lt L5.out.box) (by omega)).trans L5.out.box, (hu6.block _ (heap_lt L5.out.res) (by omega)).trans L5.out.res, L5.out.below.trans (hu6.below (by omega) L5.out.below.size)⟩⟩
                  case measure => simp [intOf]; omega
        · have hil : i = n.attrs.length := by omega
          have hlt' : ¬ (i : Int) < n.attrs.length := by omega
          rw [hil, List.drop_length, enterL] at hent
          have HRR : Hid (R = .ok g1) := hent.symm
          obtain ⟨s0, s1⟩ := cells2 HLO.out.res
          have hfr : ∀ i, wr.frozen? ⟨w.heap.size + 1, i, none⟩ = false := Lib.frozen_of_heap HLO.out.res
          clear hent hil hlt
          go_wp2_with fail
          refine bodyPost_ret (v := .tuple #[_, .agg _]) (res_tmp_cell Tryd.results45 _ _ (w.heap.size + 1) rfl 52 _ (heap_set (i := 1) (heap_set (i := 0) HLO.out.res _) _) Tryd.underlying52 rfl faultSize _ rfl) rfl ⟨?_, ?_⟩
          · rw [HRR.out]
            exact ⟨nb, rfl, by omega, HSC.out.keep ((Below.heap_setCell _ _ _ _ (by show nb ≠ w.heap.size + 1; omega)).trans (Below.heap_setCell _ _ _ _ (by show nb ≠ w.heap.size + 1; omega)))⟩
          · exact (HLO.out.below.setCell (p := ⟨w.heap.size + 1, 0, none⟩) (by simp) _).setCell (p := ⟨w.heap.size + 1, 1, none⟩) (by simp) _
end Go.Proofs.YtaghipnheomggaaDoor
set_option linter.unusedVariables false
namespace Go.Proofs.YtaghipnheomggaaDoor
open Go.RowKit

/-! Adding one attribute. -/
def addF (g : Scope) (acc : List Att) (a : Att) : Except (Int × Nat) (List Att) :=
  match declF a.name with
  | some _ => .ok acc
  | none =>
    match (if (splR a.name).1 = [] then some [] else g (splR a.name).1) with
    | none => .error (a.pos, 13)
    | some sp => if acc.any (fun b => b.space == sp && b.name == (splR a.name).2.1) = true then .error (a.pos, 10) else .ok (acc ++ [⟨sp, (splR a.name).2.1, a.value, a.pos⟩])
theorem attrsL_add (g : Scope) (acc : List Att) (a : Att) (ats : List Att) : attrsL g acc (a :: ats) = match addF g acc a with | .error e => .error e | .ok acc' => attrsL g acc' ats := by
  rw [attrsL]
  unfold addF
  cases declF a.name with
  | some d => rfl
  | none =>
    simp only
    generalize (if (splR a.name).1 = [] then some [] else g (splR a.name).1) = o
    cases o with
    | none => rfl
    | some s =>
      simp only
      generalize (acc.any fun b => b.space == s && b.name == (splR a.name).2.1) = z
      cases z <;> rfl
theorem addF_len {g : Scope} {acc acc' : List Att} {a : Att} (h : addF g acc a = .ok acc') : acc'.length ≤ acc.length + 1 := by
  unfold addF at h
  split at h
  · cases h; omega
  · split at h
    · cases h
    · split at h
      · cases h
      · cases h; simp
theorem enterL_split : ∀ {ats : List Att} {g g' : Scope}, enterL g ats = .ok g' → ∀ a ∈ ats, splitF a.name ≠ none
  | [], g, g', h, a, ha => by simp at ha
  | x :: ats, g, g', h, a, ha => by
    rw [enterL] at h
    split at h
    · cases h
    · rename_i hx
      rcases List.mem_cons.1 ha with rfl | ha
      · exact hx
      · split at h
        · exact enterL_split h a ha
        · split at h
          · cases h
          · exact enterL_split h a ha

/-- What the closure works on: the scope's variable, ok, the node. -/
structure AddS (w : World) (sb ob nb : Nat) (g : Scope) (sp q : ByteArray) (pos : Int) (MA : Option Addr) (mc : Nat) (ats : List Att) : Prop where
  sc : w.heap[sb]? = some (.cells #[.map (some nb)] 55 (0, 0))
  ok : ∃ b, w.heap[ob]? = some (.cells #[.bool b] 4 (0, 0))
  m : w.heap[ob + 1]? = some (.cells #[.int .i64 0, .string sp, .string q, .slice MA ats.length mc, .slice none 0 0, .string ⟨#[]⟩, .int .i64 pos] 29 (0, 0))
  map : ScopeM w nb g
  row : AttRow w (ob + 2) (.slice MA ats.length mc) ats
  lt : nb < sb ∧ sb < ob
theorem AddS.next {w w' : World} {sb ob nb : Nat} {g : Scope} {sp q : ByteArray} {pos : Int} {MA : Option Addr} {mc : Nat} {ats : List Att} (h : AddS w sb ob nb g sp q pos MA mc ats) (hb : Below w.heap.size w w') : AddS w' sb ob nb g sp q pos MA mc ats := by
  obtain ⟨b, hok⟩ := h.ok
  exact ⟨(hb.block _ (heap_lt h.sc)).trans h.sc, ⟨b, (hb.block _ (heap_lt hok)).trans hok⟩, (hb.block _ (heap_lt h.m)).trans h.m, h.map.below hb, h.row.below hb, h.lt⟩
theorem AddS.set_ok {w : World} {sb ob nb : Nat} {g : Scope} {sp q : ByteArray} {pos : Int} {MA : Option Addr} {mc : Nat} {ats : List Att} (h : AddS w sb ob nb g sp q pos MA mc ats) (b : Bool) : AddS (w.setCell ⟨ob, 0, none⟩ (.bool b)) sb ob nb g sp q pos MA mc ats := by
  obtain ⟨b0, hok⟩ := h.ok
  have hl := h.lt
  have hk : ∀ k, k ≠ ob → (w.setCell ⟨ob, 0, none⟩ (.bool b)).heap[k]? = w.heap[k]? := fun k hk => Below.heap_setCell _ _ _ _ hk
  exact ⟨(hk _ (by omega)).trans h.sc, ⟨b, heap_set (i := 0) hok _⟩, (hk _ (by omega)).trans h.m, h.map.keep (hk _ (by omega)), h.row.heap (fun k hk' => hk k (by have := h.row.lt k hk'; omega)), h.lt⟩
/-- A block beside all of it is written to. -/
theorem AddS.beside {w w' : World} {sb ob nb f : Nat} {g : Scope} {sp q : ByteArray} {pos : Int} {MA : Option Addr} {mc : Nat} {ats : List Att} (h : AddS w sb ob nb g sp q pos MA mc ats) (hu : Upd f w w') (hf : ob + 2 ≤ f) (hr : (Value.slice MA ats.length mc).ownBlock ≠ some f) : AddS w' sb ob nb g sp q pos MA mc ats := by
  obtain ⟨b, hok⟩ := h.ok
  have hl := h.lt
  have hz := heap_lt h.m
  exact ⟨(hu.block _ (heap_lt h.sc) (by omega)).trans h.sc, ⟨b, (hu.block _ (heap_lt hok) (by omega)).trans hok⟩, (hu.block _ hz (by omega)).trans h.m, h.map.keep (hu.block _ h.map.lt (by omega)), h.row.heap (fun k hk' => hu.block k (h.row.lt k hk').2 (fun e => hr (by rw [← e]; exact hk'))), h.lt⟩
theorem AddS.grew {w w8 : World} {sb ob nb g8 c8 : Nat} {g : Scope} {sp q : ByteArray} {pos : Int} {MA : Option Addr} {mc : Nat} {ats : List Att} {x : Att} (h : AddS w sb ob nb g sp q pos MA mc ats) (hr : AttRow w8 (ob + 2) (.slice (some ⟨g8, 0, none⟩) (ats.length + 1) c8) (ats ++ [x])) (hb : Below (ob + 2) w w8) :
    AddS (w8.setCell ⟨ob + 1, 3, none⟩ (.slice (some ⟨g8, 0, none⟩) (ats.length + 1) c8)) sb ob nb g sp q pos (some ⟨g8, 0, none⟩) c8 (ats ++ [x]) := by
  obtain ⟨b, hok⟩ := h.ok
  have hl := h.lt
  have hk : ∀ k, k ≠ ob + 1 → (w8.setCell ⟨ob + 1, 3, none⟩ (.slice (some ⟨g8, 0, none⟩) (ats.length + 1) c8)).heap[k]? = w8.heap[k]? := fun k hk => Below.heap_setCell _ _ _ _ hk
  have hlen : (ats ++ [x]).length = ats.length + 1 := by simp
  refine ⟨((hk _ (by omega)).trans (hb.block _ (by omega))).trans h.sc, ⟨b, ((hk _ (by omega)).trans (hb.block _ (by omega))).trans hok⟩, ?_, h.map.keep ((hk _ (by omega)).trans (hb.block _ (by omega))), ?_, h.lt⟩
  · rw [hlen]; exact heap_set (i := 3) ((hb.block _ (by omega)).trans h.m) _
  · rw [hlen]; exact hr.heap (fun k hk' => hk k (by have := hr.lt k hk'; omega))
/-- What the closure returns. -/
def AddRes (w' : World) (sb ob nb : Nat) (g : Scope) (sp q : ByteArray) (pos : Int) (r : Except (Int × Nat) (List Att)) (e : Ending) : Prop :=
  match r with
  | .error x => e = .returned (.agg #[.int .i64 x.1, .int .i64 x.2])
  | .ok ats => e = .returned (.agg #[.int .i64 0, .int .i64 0]) ∧ ∃ MA mc, AddS w' sb ob nb g sp q pos MA mc ats
theorem zeroStr (w : World) : (zeroValue 9).run Tryd.prog w = .ok (.string ⟨#[]⟩) w := by kernel_rfl

set_option maxHeartbeats 4000000 in
set_option maxRecDepth 100000 in
theorem add_any (a : Att) (sb ob nb : Nat) (g : Scope) (sp q : ByteArray) (pos : Int) (MA : Option Addr) (mc : Nat) (ats : List Att) (w : World) (hT : Tabs w) (hsp : splitF a.name ≠ none) (hl : a.name.length ≤ 1000000000) (hal : ats.length < 1000000000)
    (h : AddS w sb ob nb g sp q pos MA mc ats) :
    Calls Tryd.prog 46 #[.agg #[.string (S a.space), .string (S a.name), .string (S a.value), .int .i64 a.pos], .pointer (some ⟨sb, 0, none⟩), .pointer (some ⟨ob, 0, none⟩), .pointer (some ⟨ob + 1, 0, none⟩)] w fun e w' =>
      AddRes w' sb ob nb g sp q pos (addF g ats a) e ∧ Below ob w w' := by
  obtain ⟨R, hR⟩ : ∃ R, addF g ats a = R := ⟨_, rfl⟩
  rw [hR]
  unfold addF at hR
  have hfl := dclP_flag hsp
  have cdc := fun w => declared_any a w
  have csp := fun W (hW : Tabs W) => split_any a.name W hW (by omega)
  obtain ⟨asp, anm, avl, apos⟩ := a
  simp only at *
  have hb0 := ((Below.refl _ w).alloc (Nat.le_refl _) (.cells #[.string (S asp), .string (S anm), .string (S avl), .int .i64 apos] 41)).alloc (by simp) (.cells #[.int .i64 0, .int .i64 0] 52)
  have A0 := Lib.hid (h.next hb0)
  have X0 := Lib.hid (show ((w.alloc (.cells #[.string (S asp), .string (S anm), .string (S avl), .int .i64 apos] 41)).alloc (.cells #[.int .i64 0, .int .i64 0] 52)).heap[w.heap.size]? = _ from alloc_old (heap_alloc_new w _))
  have F0 := Lib.hid (show ((w.alloc (.cells #[.string (S asp), .string (S anm), .string (S avl), .int .i64 apos] 41)).alloc (.cells #[.int .i64 0, .int .i64 0] 52)).heap[w.heap.size + 1]? = _ from alloc_at (by simp))
  have HB0 := Lib.hid hb0
  have hra0 : ((w.alloc (.cells #[.string (S asp), .string (S anm), .string (S avl), .int .i64 apos] 41)).alloc (.cells #[.int .i64 0, .int .i64 0] 52)).rangeAt w.heap.size 0 (attCells ⟨asp, anm, avl, apos⟩) := range_of_heap X0.out
  have HT := Lib.hid (hT.next hb0)
  have hob : ob + 2 ≤ w.heap.size := heap_lt h.m
  have hlt := h.lt
  have HA := Lib.hid h
  clear hT hsp h hb0
  cases hdf : declF anm with
  | some d0 =>
    rw [hdf] at hR hfl
    generalize dclP anm = D at *
    obtain ⟨dn, dd⟩ := D
    simp only [Option.isSome_some] at hfl hR
    subst hfl
    simp only at cdc
    have HRR : Hid (R = .ok ats) := hR.symm
    have CDC := Lib.hid cdc
    clear hR csp cdc hdf
    go_enter Tryd.func46, Tryd.ntmps46
    go_wp2_with (with_reducible refine gate ?_; refine wp_load_att rfl _ rfl w.heap.size 0 rfl ⟨asp, anm, avl, apos⟩ hra0 ?_)
    refine (CDC.out _).mono ?_
    rintro e w5 ⟨rfl, hb5⟩
    have A5 := Lib.hid (A0.out.next hb5)
    have F5 := Lib.hid ((hb5.block _ (heap_lt F0.out)).trans F0.out)
    have HB5 := Lib.hid (HB0.out.trans (hb5.mono HB0.out.size))
    obtain ⟨s0, s1⟩ := cells2 F5.out
    have hfr : ∀ i, w5.frozen? ⟨w.heap.size + 1, i, none⟩ = false := Lib.frozen_of_heap F5.out
    clear hb5 A0 F0 HB0 X0 hra0
    go_wp2_with fail
    refine bodyPost_ret (v := .agg _) (res_whole Tryd.results46 _ _ (w.heap.size + 1) rfl 52 _ (heap_set (i := 1) (heap_set (i := 0) F5.out _) _) Tryd.underlying52 rfl faultSize) rfl ⟨?_, ?_⟩
    · rw [HRR.out]
      exact ⟨rfl, MA, mc, HA.out.next ((HB5.out.setCell (p := ⟨w.heap.size + 1, 0, none⟩) (by simp) _).setCell (p := ⟨w.heap.size + 1, 1, none⟩) (by simp) _)⟩
    · exact ((HB5.out.setCell (p := ⟨w.heap.size + 1, 0, none⟩) (by simp) _).setCell (p := ⟨w.heap.size + 1, 1, none⟩) (by simp) _).mono (by omega)
  | none =>
    rw [hdf] at hR hfl
    generalize dclP anm = D at *
    obtain ⟨dn, dd⟩ := D
    simp only [Option.isSome_none] at hfl hR
    subst hfl
    simp only at cdc
    generalize splR anm = T at *
    obtain ⟨q2, loc, ok2⟩ := T
    simp only at csp hR
    have CDC := Lib.hid cdc
    have CSP := Lib.hid csp
    clear csp cdc hdf
    go_enter Tryd.func46, Tryd.ntmps46
    go_wp2_with (with_reducible refine gate ?_; refine wp_load_att rfl _ rfl w.heap.size 0 rfl ⟨asp, anm, avl, apos⟩ hra0 ?_)
    refine (CDC.out _).mono ?_
    rintro e w5 ⟨rfl, hb5⟩
    have A5 := Lib.hid (A0.out.next hb5)
    have F5 := Lib.hid ((hb5.block _ (heap_lt F0.out)).trans F0.out)
    have X5 := Lib.hid ((hb5.block _ (heap_lt X0.out)).trans X0.out)
    have HB5 := Lib.hid (HB0.out.trans (hb5.mono HB0.out.size))
    have HT5 := Lib.hid (HT.out.next hb5)
    have hc1 : w5.cell? ⟨w.heap.size, 1, none⟩ = some (.string (S anm)) := (cells4 X5.out).2.1
    clear hb5 A0 F0 HB0 X0 hra0
    go_wp2_with fail
    refine (CSP.out _ HT5.out).mono ?_
    rintro e w6 ⟨rfl, hb6⟩
    have A6 := Lib.hid (A5.out.next hb6)
    have F6 := Lib.hid ((hb6.block _ (heap_lt F5.out)).trans F5.out)
    have X6 := Lib.hid ((hb6.block _ (heap_lt X5.out)).trans X5.out)
    have HB6 := Lib.hid (HB5.out.trans (hb6.mono HB5.out.size))
    have hfx : ∀ i, w6.frozen? ⟨w.heap.size, i, none⟩ = false := Lib.frozen_of_heap X6.out
    obtain ⟨q0, q1, q2', q3⟩ := cells4 X6.out
    -- the world behind the two stores
    obtain ⟨W, hW⟩ : ∃ W, (w6.setCell ⟨w.heap.size, 0, none⟩ (.string ⟨#[]⟩)).setCell ⟨w.heap.size, 1, none⟩ (.string (S loc)) = W := ⟨_, rfl⟩
    have hu6 : Upd w.heap.size w6 W := by rw [← hW]; exact (Upd.set_ w.heap.size 0 _ _).trans (Upd.set_ w.heap.size 1 _ _)
    have X7 : Hid (W.heap[w.heap.size]? = some (.cells #[.string ⟨#[]⟩, .string (S loc), .string (S avl), .int .i64 apos] 41 (0, 0))) := by rw [← hW]; exact heap_set (i := 1) (heap_set (i := 0) X6.out _) _
    have F7 := Lib.hid ((hu6.block _ (heap_lt F6.out) (by omega)).trans F6.out)
    have A7 := Lib.hid (A6.out.beside hu6 hob (fun e => by have := HA.out.row.lt _ e; omega))
    have B7 := Lib.hid ((HB6.out.trans (hu6.below (Nat.le_refl _) HB6.out.size)).mono (show ob ≤ w.heap.size by omega))
    have hz7 : w.heap.size + 2 ≤ W.heap.size := heap_lt F7.out
    have hm6 := A6.out.m
    have n1 : ¬ (ob + 1 = w.heap.size) := by omega
    have n2 : ¬ (w.heap.size = ob + 1) := by omega
    have n3 : ¬ (ob = w.heap.size) := by omega
    have n4 : ¬ (w.heap.size = ob) := by omega
    have n5 : ¬ (sb = w.heap.size) := by omega
    have n6 : ¬ (w.heap.size = sb) := by omega
    clear hb6 A5 F5 X5 HB5 HT5 HT hc1 hu6 A6 HB6 F6
    by_cases hq : q2 = []
    · rw [if_pos hq] at hR
      have t1 : (q2 == []) = true := by rw [hq]; rfl
      have t2 : (q2 != []) = false := by rw [hq]; rfl
      simp only at hR
      have TA := Lib.hid hR
      clear hR hq
      have hm7 := A7.out.m
      obtain ⟨p0, p1, p2, p3, p4, p5, p6⟩ := cells7 hm7
      have HAT7 := Lib.hid A7.out.row.attsIn
      clear hm7
      go_wp2_with fail
      go_loopw [47] (fun i47 wx => ∃ j : Nat, j ≤ ats.length ∧ i47 = .int .i64 j ∧ (ats.take j).any (fun b => b.space == [] && b.name == loc) = false ∧ Below W.heap.size W wx) (fun i47 _ => ats.length - (intOf i47).toNat)
      case atStart => exact ⟨0, Nat.zero_le _, rfl, by simp, Below.refl _ _⟩
      case round =>
        obtain ⟨j, hj, rfl, hany, hbx⟩ := hrel
        have X8 := Lib.hid ((hbx.block _ (heap_lt X7.out)).trans X7.out)
        have F8 := Lib.hid ((hbx.block _ (heap_lt F7.out)).trans F7.out)
        have A8 := Lib.hid (A7.out.next hbx)
        have B8 := Lib.hid (B7.out.trans (hbx.mono (by omega)))
        have HBX := Lib.hid hbx
        have hzx := hbx.size
        clear hbx p0 p1 p2 p3 p4 p5 p6
        by_cases hjl : j < ats.length
        · have hjl' : (j : Int) < ats.length := by omega
          obtain ⟨mb2, moff, rfl, hmb, hmr⟩ := HAT7.out.at_ hjl
          have hmr := rangeAt_keep hmr (HBX.out.block mb2 hmb)
          have hany2 := any_take (p := fun b => b.space == [] && b.name == loc) hjl
          have hhit := fun h => any_hit (p := fun b => b.space == [] && b.name == loc) hjl h
          rw [hany, Bool.false_or] at hany2
          have HAN := Lib.hid hany2
          have HHIT := Lib.hid hhit
          have HMR := Lib.hid hmr
          clear hany hmr hany2 hhit
          generalize ats[j] = z at *
          obtain ⟨zs, zn, zv, zp⟩ := z
          simp only at *
          have X9 := Lib.hid (alloc_old (o := .cells #[.string (S zs), .string (S zn), .string (S zv), .int .i64 zp] 41) X8.out)
          have Y9 := Lib.hid (heap_alloc_new wr (.cells #[.string (S zs), .string (S zn), .string (S zv), .int .i64 zp] 41))
          have B9 := Lib.hid (HBX.out.alloc hzx (.cells #[.string (S zs), .string (S zn), .string (S zv), .int .i64 zp] 41))
          obtain ⟨q0, q1, q2, q3⟩ := cells4 X9.out
          obtain ⟨y0, y1, y2, y3⟩ := cells4 Y9.out
          cases h1 : ([] == zs)
          · go_wp2_with (with_reducible refine gate ?_; refine wp_load_att rfl _ rfl mb2 (moff + j * 4) rfl ⟨zs, zn, zv, zp⟩ HMR.out ?_)
            go_roundw
            case rel => exact ⟨j + 1, by omega, by go_num, by rw [HAN.out, show (zs == []) = ([] == zs) from Bool.beq_comm, h1]; rfl, B9.out⟩
            case measure => simp [intOf]; omega
          · cases h2 : (loc == zn)
            · go_wp2_with (with_reducible refine gate ?_; refine wp_load_att rfl _ rfl mb2 (moff + j * 4) rfl ⟨zs, zn, zv, zp⟩ HMR.out ?_)
              go_roundw
              case rel => exact ⟨j + 1, by omega, by go_num, by rw [HAN.out, show (zn == loc) = (loc == zn) from Bool.beq_comm, h2, Bool.and_false], B9.out⟩
              case measure => simp [intOf]; omega
            · have hf := TA.out
              rw [if_pos (HHIT.out (by rw [show (zs == []) = ([] == zs) from Bool.beq_comm, show (zn == loc) = (loc == zn) from Bool.beq_comm, h1, h2]; rfl))] at hf
              have HRR : Hid (R = .error (apos, 10)) := hf.symm
              have F9 := Lib.hid (alloc_old (o := .cells #[.string (S zs), .string (S zn), .string (S zv), .int .i64 zp] 41) F8.out)
              have C9 := Lib.hid (B8.out.alloc (by omega) (.cells #[.string (S zs), .string (S zn), .string (S zv), .int .i64 zp] 41))
              obtain ⟨s0, s1⟩ := cells2 F9.out
              have hfr : ∀ i, (wr.alloc (.cells #[.string (S zs), .string (S zn), .string (S zv), .int .i64 zp] 41)).frozen? ⟨w.heap.size + 1, i, none⟩ = false := Lib.frozen_of_heap F9.out
              clear hf
              go_wp2_with (with_reducible refine gate ?_; refine wp_load_att rfl _ rfl mb2 (moff + j * 4) rfl ⟨zs, zn, zv, zp⟩ HMR.out ?_)
              refine bodyPost_ret (v := .agg _) (res_whole Tryd.results46 _ _ (w.heap.size + 1) rfl 52 _ (heap_set (i := 1) (heap_set (i := 0) F9.out _) _) Tryd.underlying52 rfl faultSize) rfl ⟨?_, ?_⟩
              · rw [HRR.out]; rfl
              · exact (C9.out.setCell (p := ⟨w.heap.size + 1, 0, none⟩) (by show ob ≤ w.heap.size + 1; omega) _).setCell (p := ⟨w.heap.size + 1, 1, none⟩) (by show ob ≤ w.heap.size + 1; omega) _
        · have hjn : j = ats.length := by omega
          have hjl' : ¬ (j : Int) < ats.length := by omega
          rw [hjn, List.take_length] at hany
          have hf := TA.out
          rw [if_neg (by rw [hany]; decide)] at hf
          have HRR := Lib.hid hf.symm
          have hzb : ob + 2 ≤ wr.heap.size := by omega
          have hzl : ats.length < 1000000000000 := by omega
          have hm8 := A8.out.m
          obtain ⟨p0, p1, p2, p3, p4, p5, p6⟩ := cells7 hm8
          have hrx : wr.rangeAt w.heap.size 0 (attCells ⟨[], loc, avl, apos⟩) := range_of_heap X8.out
          have hown : (Value.slice MA ats.length mc).ownBlock ≠ some (w.heap.size + 1) := fun e => by have := HA.out.row.lt _ e; omega
          clear hany hf hjn hjl TA hm8
          go_wp2_with (first
            | (with_reducible refine gate ?_; refine wp_load_att rfl _ rfl w.heap.size 0 rfl ⟨[], loc, avl, apos⟩ hrx ?_)
            | (with_reducible refine gate ?_; refine atts_append rfl _ _ rfl wr (ob + 2) (.slice MA ats.length mc) ats rfl A8.out.row ⟨[], loc, avl, apos⟩ wr.heap.size rfl rfl hzb hzl ?_; intro g8 c8 w8 hrow8 hgr8 hb8; have hm8 := (hb8.block (ob + 1) (by omega)).trans A8.out.m; have hfm8 : ∀ i, w8.frozen? ⟨ob + 1, i, none⟩ = false := Lib.frozen_of_heap hm8; obtain ⟨d0, d1, d2, d3, d4, d5, d6⟩ := cells7 hm8; have F9 := (Below.heap_setCell w8 ⟨ob + 1, 3, none⟩ (.slice (some ⟨g8, 0, none⟩) (ats.length + 1) c8) (w.heap.size + 1) (by show w.heap.size + 1 ≠ ob + 1; omega)).trans (hgr8.heap F8.out hown); obtain ⟨s0, s1⟩ := cells2 F9; have hfr9 : ∀ i, (w8.setCell ⟨ob + 1, 3, none⟩ (.slice (some ⟨g8, 0, none⟩) (ats.length + 1) c8)).frozen? ⟨w.heap.size + 1, i, none⟩ = false := Lib.frozen_of_heap F9))
          refine bodyPost_ret (v := .agg _) (res_whole Tryd.results46 _ _ (w.heap.size + 1) rfl 52 _ (heap_set (i := 1) (heap_set (i := 0) F9 _) _) Tryd.underlying52 rfl faultSize) rfl ⟨?_, ?_⟩
          · rw [HRR.out]
            have hg9 := A8.out.grew hrow8 hb8
            refine ⟨rfl, some ⟨g8, 0, none⟩, c8, hg9.beside ((Upd.set_ (w.heap.size + 1) 0 _ _).trans (Upd.set_ (w.heap.size + 1) 1 _ _)) (by omega) ?_⟩
            intro e
            have e2 : g8 = w.heap.size + 1 := by simpa [Value.ownBlock] using e
            have hF := hgr8.heap F8.out hown
            rcases hrow8.2 with ⟨hv, hn⟩ | ⟨g9, cap9, cur9, hv9, _, hh9, _⟩
            · cases hv
            · have hgg : g8 = g9 := by injection hv9 with e1; injection e1 with e1; injection e1
              rw [← hgg, e2, hF] at hh9
              injection hh9 with hh9
              injection hh9 with _ h9
              exact absurd h9 (by decide)
          · exact (((B8.out.trans (hb8.mono (by omega))).setCell (p := ⟨ob + 1, 3, none⟩) (by simp) _).setCell (p := ⟨w.heap.size + 1, 0, none⟩) (by show ob ≤ w.heap.size + 1; omega) _).setCell (p := ⟨w.heap.size + 1, 1, none⟩) (by show ob ≤ w.heap.size + 1; omega) _
    · rw [if_neg hq] at hR
      have t1 : (q2 == []) = false := by rw [beq_eq_false_iff_ne]; exact hq
      have t2 : (q2 != []) = true := by rw [bne, t1]; rfl
      obtain ⟨l7, hml7, hll7⟩ := A7.out.map
      have hlk := hml7.run_lookup_ok Tryd.underlying55 Tryd.underlying9 (zeroStr W) q2
      rw [hll7] at hlk
      have hsc7 : W.cell? ⟨sb, 0, none⟩ = some (.map (some nb)) := by rw [Lib.cell_of_heap A7.out.sc]; rfl
      clear hq hml7 hll7
      obtain ⟨b7, hok7⟩ := A7.out.ok
      have hfo7 : ∀ i, W.frozen? ⟨ob, i, none⟩ = false := Lib.frozen_of_heap hok7
      have hfx7 : ∀ i, W.frozen? ⟨w.heap.size, i, none⟩ = false := Lib.frozen_of_heap X7.out
      obtain ⟨x0, x1, x2, x3⟩ := cells4 X7.out
      have o0 : W.cell? ⟨ob, 0, none⟩ = some (.bool b7) := by rw [Lib.cell_of_heap hok7]; rfl
      cases hg : g q2 with
      | none =>
        rw [hg] at hR hlk
        simp only [Option.map_none, Option.getD_none, Option.isSome_none] at hlk
        have HRR : Hid (R = .error (apos, 13)) := hR.symm
        have HLK := Lib.hid hlk
        obtain ⟨W2, hW2⟩ : ∃ W2, (W.setCell ⟨w.heap.size, 0, none⟩ (.string ⟨#[]⟩)).setCell ⟨ob, 0, none⟩ (.bool false) = W2 := ⟨_, rfl⟩
        have F8 : Hid (W2.heap[w.heap.size + 1]? = some (.cells #[.int .i64 0, .int .i64 0] 52 (0, 0))) := by rw [← hW2]; exact ((Below.heap_setCell _ _ _ _ (by show w.heap.size + 1 ≠ ob; omega)).trans (Below.heap_setCell _ _ _ _ (by simp))).trans F7.out
        have X8 : Hid (W2.heap[w.heap.size]? = some (.cells #[.string ⟨#[]⟩, .string (S loc), .string (S avl), .int .i64 apos] 41 (0, 0))) := by rw [← hW2]; exact (Below.heap_setCell _ _ _ _ (by show w.heap.size ≠ ob; omega)).trans (heap_set (i := 0) X7.out _)
        have B8 : Hid (Below ob w W2) := by rw [← hW2]; exact (B7.out.setCell (p := ⟨w.heap.size, 0, none⟩) (by show ob ≤ w.heap.size; omega) _).setCell (p := ⟨ob, 0, none⟩) (by simp) _
        have hok8 : ∃ b, W2.heap[ob]? = some (.cells #[.bool b] 4 (0, 0)) := ⟨false, by rw [← hW2]; exact heap_set (i := 0) ((Below.heap_setCell _ _ _ _ (by show ob ≠ w.heap.size; omega)).trans hok7) _⟩
        obtain ⟨b8, hok8⟩ := hok8
        have o8 : W2.cell? ⟨ob, 0, none⟩ = some (.bool false) := by rw [← hW2]; rw [Lib.cell_of_heap (heap_set (i := 0) ((Below.heap_setCell _ _ _ _ (by show ob ≠ w.heap.size; omega)).trans hok7) _)]; rfl
        have x8 : W2.cell? ⟨w.heap.size, 3, none⟩ = some (.int .i64 apos) := (cells4 X8.out).2.2.2
        obtain ⟨s0, s1⟩ := cells2 F8.out
        have hfr : ∀ i, W2.frozen? ⟨w.heap.size + 1, i, none⟩ = false := Lib.frozen_of_heap F8.out
        clear hR hg hok8 hok7
        go_wp2_with fail
        refine bodyPost_ret (v := .agg _) (res_whole Tryd.results46 _ _ (w.heap.size + 1) rfl 52 _ (heap_set (i := 1) (heap_set (i := 0) F8.out _) _) Tryd.underlying52 rfl faultSize) rfl ⟨?_, ?_⟩
        · rw [HRR.out]; rfl
        · exact (B8.out.setCell (p := ⟨w.heap.size + 1, 0, none⟩) (by show ob ≤ w.heap.size + 1; omega) _).setCell (p := ⟨w.heap.size + 1, 1, none⟩) (by show ob ≤ w.heap.size + 1; omega) _
      | some sp2 =>
        rw [hg] at hR hlk
        simp only [Option.map_some, Option.getD_some, Option.isSome_some] at hlk
        have TA := Lib.hid hR
        obtain ⟨W2, hW2⟩ : ∃ W2, (W.setCell ⟨w.heap.size, 0, none⟩ (.string (S sp2))).setCell ⟨ob, 0, none⟩ (.bool true) = W2 := ⟨_, rfl⟩
        have F8 : Hid (W2.heap[w.heap.size + 1]? = some (.cells #[.int .i64 0, .int .i64 0] 52 (0, 0))) := by rw [← hW2]; exact ((Below.heap_setCell _ _ _ _ (by show w.heap.size + 1 ≠ ob; omega)).trans (Below.heap_setCell _ _ _ _ (by simp))).trans F7.out
        have X8 : Hid (W2.heap[w.heap.size]? = some (.cells #[.string (S sp2), .string (S loc), .string (S avl), .int .i64 apos] 41 (0, 0))) := by rw [← hW2]; exact (Below.heap_setCell _ _ _ _ (by show w.heap.size ≠ ob; omega)).trans (heap_set (i := 0) X7.out _)
        have B8 : Hid (Below ob w W2) := by rw [← hW2]; exact (B7.out.setCell (p := ⟨w.heap.size, 0, none⟩) (by show ob ≤ w.heap.size; omega) _).setCell (p := ⟨ob, 0, none⟩) (by simp) _
        have A8 : Hid (AddS W2 sb ob nb g sp q pos MA mc ats) := by rw [← hW2]; exact (A7.out.beside (Upd.set_ w.heap.size 0 _ _) hob (fun e => by have := HA.out.row.lt _ e; omega)).set_ok true
        have o8 : W2.cell? ⟨ob, 0, none⟩ = some (.bool true) := by rw [← hW2]; rw [Lib.cell_of_heap (heap_set (i := 0) ((Below.heap_setCell _ _ _ _ (by show ob ≠ w.heap.size; omega)).trans hok7) _)]; rfl
        have hz8 : w.heap.size + 2 ≤ W2.heap.size := heap_lt F8.out
        clear hR hg hok7 X7 F7 A7 B7
        have X7 := X8
        have F7 := F8
        have A7 := A8
        have B7 := B8
        have hz7 := hz8
        clear X8 F8 A8 B8
        have hm7 := A7.out.m
        obtain ⟨p0, p1, p2, p3, p4, p5, p6⟩ := cells7 hm7
        have HAT7 := Lib.hid A7.out.row.attsIn
        clear hm7
        go_wp2_with fail
        go_loopw [47] (fun i47 wx => ∃ j : Nat, j ≤ ats.length ∧ i47 = .int .i64 j ∧ (ats.take j).any (fun b => b.space == sp2 && b.name == loc) = false ∧ Below W2.heap.size W2 wx) (fun i47 _ => ats.length - (intOf i47).toNat)
        case atStart => exact ⟨0, Nat.zero_le _, rfl, by simp, Below.refl _ _⟩
        case round =>
          obtain ⟨j, hj, rfl, hany, hbx⟩ := hrel
          have X8 := Lib.hid ((hbx.block _ (heap_lt X7.out)).trans X7.out)
          have F8 := Lib.hid ((hbx.block _ (heap_lt F7.out)).trans F7.out)
          have A8 := Lib.hid (A7.out.next hbx)
          have B8 := Lib.hid (B7.out.trans (hbx.mono (by omega)))
          have HBX := Lib.hid hbx
          have hzx := hbx.size
          clear hbx p0 p1 p2 p3 p4 p5 p6
          by_cases hjl : j < ats.length
          · have hjl' : (j : Int) < ats.length := by omega
            obtain ⟨mb2, moff, rfl, hmb, hmr⟩ := HAT7.out.at_ hjl
            have hmr := rangeAt_keep hmr (HBX.out.block mb2 hmb)
            have hany2 := any_take (p := fun b => b.space == sp2 && b.name == loc) hjl
            have hhit := fun h => any_hit (p := fun b => b.space == sp2 && b.name == loc) hjl h
            rw [hany, Bool.false_or] at hany2
            have HAN := Lib.hid hany2
            have HHIT := Lib.hid hhit
            have HMR := Lib.hid hmr
            clear hany hmr hany2 hhit
            generalize ats[j] = z at *
            obtain ⟨zs, zn, zv, zp⟩ := z
            simp only at *
            have X9 := Lib.hid (alloc_old (o := .cells #[.string (S zs), .string (S zn), .string (S zv), .int .i64 zp] 41) X8.out)
            have Y9 := Lib.hid (heap_alloc_new wr (.cells #[.string (S zs), .string (S zn), .string (S zv), .int .i64 zp] 41))
            have B9 := Lib.hid (HBX.out.alloc hzx (.cells #[.string (S zs), .string (S zn), .string (S zv), .int .i64 zp] 41))
            obtain ⟨q0, q1, q2, q3⟩ := cells4 X9.out
            obtain ⟨y0, y1, y2, y3⟩ := cells4 Y9.out
            cases h1 : (sp2 == zs)
            · go_wp2_with (with_reducible refine gate ?_; refine wp_load_att rfl _ rfl mb2 (moff + j * 4) rfl ⟨zs, zn, zv, zp⟩ HMR.out ?_)
              go_roundw
              case rel => exact ⟨j + 1, by omega, by go_num, by rw [HAN.out, show (zs == sp2) = (sp2 == zs) from Bool.beq_comm, h1]; rfl, B9.out⟩
              case measure => simp [intOf]; omega
            · cases h2 : (loc == zn)
              · go_wp2_with (with_reducible refine gate ?_; refine wp_load_att rfl _ rfl mb2 (moff + j * 4) rfl ⟨zs, zn, zv, zp⟩ HMR.out ?_)
                go_roundw
                case rel => exact ⟨j + 1, by omega, by go_num, by rw [HAN.out, show (zn == loc) = (loc == zn) from Bool.beq_comm, h2, Bool.and_false], B9.out⟩
                case measure => simp [intOf]; omega
              · have hf := TA.out
                rw [if_pos (HHIT.out (by rw [show (zs == sp2) = (sp2 == zs) from Bool.beq_comm, show (zn == loc) = (loc == zn) from Bool.beq_comm, h1, h2]; rfl))] at hf
                have HRR : Hid (R = .error (apos, 10)) := hf.symm
                have F9 := Lib.hid (alloc_old (o := .cells #[.string (S zs), .string (S zn), .string (S zv), .int .i64 zp] 41) F8.out)
                have C9 := Lib.hid (B8.out.alloc (by omega) (.cells #[.string (S zs), .string (S zn), .string (S zv), .int .i64 zp] 41))
                obtain ⟨s0, s1⟩ := cells2 F9.out
                have hfr : ∀ i, (wr.alloc (.cells #[.string (S zs), .string (S zn), .string (S zv), .int .i64 zp] 41)).frozen? ⟨w.heap.size + 1, i, none⟩ = false := Lib.frozen_of_heap F9.out
                clear hf
                go_wp2_with (with_reducible refine gate ?_; refine wp_load_att rfl _ rfl mb2 (moff + j * 4) rfl ⟨zs, zn, zv, zp⟩ HMR.out ?_)
                refine bodyPost_ret (v := .agg _) (res_whole Tryd.results46 _ _ (w.heap.size + 1) rfl 52 _ (heap_set (i := 1) (heap_set (i := 0) F9.out _) _) Tryd.underlying52 rfl faultSize) rfl ⟨?_, ?_⟩
                · rw [HRR.out]; rfl
                · exact (C9.out.setCell (p := ⟨w.heap.size + 1, 0, none⟩) (by show ob ≤ w.heap.size + 1; omega) _).setCell (p := ⟨w.heap.size + 1, 1, none⟩) (by show ob ≤ w.heap.size + 1; omega) _
          · have hjn : j = ats.length := by omega
            have hjl' : ¬ (j : Int) < ats.length := by omega
            rw [hjn, List.take_length] at hany
            have hf := TA.out
            rw [if_neg (by rw [hany]; decide)] at hf
            have HRR := Lib.hid hf.symm
            have hzb : ob + 2 ≤ wr.heap.size := by omega
            have hzl : ats.length < 1000000000000 := by omega
            have hm8 := A8.out.m
            obtain ⟨p0, p1, p2, p3, p4, p5, p6⟩ := cells7 hm8
            have hrx : wr.rangeAt w.heap.size 0 (attCells ⟨sp2, loc, avl, apos⟩) := range_of_heap X8.out
            have hown : (Value.slice MA ats.length mc).ownBlock ≠ some (w.heap.size + 1) := fun e => by have := HA.out.row.lt _ e; omega
            clear hany hf hjn hjl TA hm8
            go_wp2_with (first
              | (with_reducible refine gate ?_; refine wp_load_att rfl _ rfl w.heap.size 0 rfl ⟨sp2, loc, avl, apos⟩ hrx ?_)
              | (with_reducible refine gate ?_; refine atts_append rfl _ _ rfl wr (ob + 2) (.slice MA ats.length mc) ats rfl A8.out.row ⟨sp2, loc, avl, apos⟩ wr.heap.size rfl rfl hzb hzl ?_; intro g8 c8 w8 hrow8 hgr8 hb8; have hm8 := (hb8.block (ob + 1) (by omega)).trans A8.out.m; have hfm8 : ∀ i, w8.frozen? ⟨ob + 1, i, none⟩ = false := Lib.frozen_of_heap hm8; obtain ⟨d0, d1, d2, d3, d4, d5, d6⟩ := cells7 hm8; have F9 := (Below.heap_setCell w8 ⟨ob + 1, 3, none⟩ (.slice (some ⟨g8, 0, none⟩) (ats.length + 1) c8) (w.heap.size + 1) (by show w.heap.size + 1 ≠ ob + 1; omega)).trans (hgr8.heap F8.out hown); obtain ⟨s0, s1⟩ := cells2 F9; have hfr9 : ∀ i, (w8.setCell ⟨ob + 1, 3, none⟩ (.slice (some ⟨g8, 0, none⟩) (ats.length + 1) c8)).frozen? ⟨w.heap.size + 1, i, none⟩ = false := Lib.frozen_of_heap F9))
            refine bodyPost_ret (v := .agg _) (res_whole Tryd.results46 _ _ (w.heap.size + 1) rfl 52 _ (heap_set (i := 1) (heap_set (i := 0) F9 _) _) Tryd.underlying52 rfl faultSize) rfl ⟨?_, ?_⟩
            · rw [HRR.out]
              have hg9 := A8.out.grew hrow8 hb8
              refine ⟨rfl, some ⟨g8, 0, none⟩, c8, hg9.beside ((Upd.set_ (w.heap.size + 1) 0 _ _).trans (Upd.set_ (w.heap.size + 1) 1 _ _)) (by omega) ?_⟩
              intro e
              have e2 : g8 = w.heap.size + 1 := by simpa [Value.ownBlock] using e
              have hF := hgr8.heap F8.out hown
              rcases hrow8.2 with ⟨hv, hn⟩ | ⟨g9, cap9, cur9, hv9, _, hh9, _⟩
              · cases hv
              · have hgg : g8 = g9 := by injection hv9 with e1; injection e1 with e1; injection e1
                rw [← hgg, e2, hF] at hh9
                injection hh9 with hh9
                injection hh9 with _ h9
                exact absurd h9 (by decide)
            · exact (((B8.out.trans (hb8.mono (by omega))).setCell (p := ⟨ob + 1, 3, none⟩) (by simp) _).setCell (p := ⟨w.heap.size + 1, 0, none⟩) (by show ob ≤ w.heap.size + 1; omega) _).setCell (p := ⟨w.heap.size + 1, 1, none⟩) (by show ob ≤ w.heap.size + 1; omega) _
end Go.Proofs.YtaghipnheomggaaDoor
set_option linter.unusedVariables false
namespace Go.Proofs.YtaghipnheomggaaDoor
open Go.RowKit

theorem flat_set {c : Nat} : ∀ {css : List (List Value)}, (∀ cs ∈ css, cs.length = c) → ∀ {i : Nat} (cs : List Value), i < css.length → (css.set i cs).flatten = css.flatten.take (i * c) ++ cs ++ css.flatten.drop (i * c + c)
  | [], _, i, cs, hi => by simp at hi
  | x :: css, h, 0, cs, hi => by
    have hx := h x (by simp)
    rw [List.set_cons_zero, List.flatten_cons, List.flatten_cons, Nat.zero_mul, List.take_zero, List.nil_append, Nat.zero_add, ← hx, List.drop_left]
  | x :: css, h, i + 1, cs, hi => by
    have hx := h x (by simp)
    have e1 : (x ++ css.flatten).take (i * c + c) = x ++ css.flatten.take (i * c) := by rw [show i * c + c = x.length + i * c by omega, List.take_length_add_append]
    have e2 : (x ++ css.flatten).drop (i * c + c + c) = css.flatten.drop (i * c + c) := by rw [show i * c + c + c = x.length + (i * c + c) by omega, List.drop_length_add_append]
    rw [List.set_cons_succ, List.flatten_cons, List.flatten_cons, flat_set (fun y hy => h y (by simp [hy])) cs (by simpa using hi), Nat.succ_mul, e1, e2]
    simp only [List.append_assoc]
theorem take_splice (A D cs : List Value) (s : Nat) (h : s + cs.length ≤ A.length) : (((A ++ D).take s ++ cs) ++ (A ++ D).drop (s + cs.length)).take A.length = A.take s ++ cs ++ A.drop (s + cs.length) := by
  rw [List.take_append_of_le_length (by omega : s ≤ A.length), List.drop_append_of_le_length h, ← List.append_assoc, List.take_append_of_le_length (by simp; omega), List.take_of_length_le (by simp; omega)]
/-- A whole element is stored. -/
theorem run_el_store {α : Type} {E : Elt α} (hE : E.Ok) {w : World} {base : Nat} {p : Nat → Prop} {g n cap : Nat} {l : List α} (h : ElRow E w base p (.slice (some ⟨g, 0, none⟩) n cap) l) {i : Nat} (hi : i < l.length) {a : α} {cs : List Value} (ha : E.El w p a cs) (hp : ∀ k, p k → k ≠ g) :
    ∃ w', (storeVar E.T ⟨g, i * E.c, none⟩ (.agg cs.toArray)).run Tryd.prog w = .ok () w' ∧ ElRow E w' base p (.slice (some ⟨g, 0, none⟩) n cap) (l.set i a) ∧ Upd g w w' ∧ w'.heap.size = w.heap.size := by
  obtain ⟨css, hl, hin, hown⟩ := h
  have hlen : ∀ cs ∈ css, cs.length = E.c := fun cs hcs => by
    obtain ⟨i, hi⟩ := List.getElem?_of_mem hcs
    have hik : i < l.length := by rw [← hl]; exact (List.getElem?_eq_some_iff.1 hi).1
    exact hE.len (hin i _ cs (List.getElem?_eq_getElem hik) hi)
  have hfl := flat_len hlen
  obtain ⟨hx, hown⟩ := hown
  rcases hown with ⟨hv, hn⟩ | ⟨g', cap', cur, hv, hg, hh, hc, hm, hcs, htk⟩
  · cases hv
  · have hgg : g = g' := by injection hv with e1; injection e1 with e1; injection e1
    have hnl : n = l.length := by injection hv
    have hcc : cap = cap' := by injection hv
    subst hgg hcc
    have hlc := hE.len ha
    have hle : i * E.c + E.c ≤ l.length * E.c := by rw [← Nat.succ_mul]; exact Nat.mul_le_mul_right _ hi
    have hle2 : l.length * E.c ≤ cap * E.c := Nat.mul_le_mul_right _ hc
    have hst := run_storeCells_at Tryd.prog g (i * E.c) E.T cs 0 cur w hh (by rw [hlc, hcs]; omega) (hE.one ha)
    obtain ⟨i0, hi0, hz0, hz1, hz2⟩ := info_parts hE.info
    have hsc : (storeVar E.T ⟨g, i * E.c, none⟩ (.agg cs.toArray)).run Tryd.prog w = .ok () (w.setRow g (cur.toList.take (i * E.c + 0) ++ cs ++ cur.toList.drop (i * E.c + 0 + cs.length)).toArray) := by
      have hs' : cs.length = i0.size := by rw [hlc, hz1]
      simp [storeVar, sizeOf, typeInfo, hi0, Value.cells, hs']
      rw [hs'] at hst
      simpa using hst
    refine ⟨_, hsc, ⟨css.set i cs, by simp [hl], ?_, ?_⟩, upd_setRow w g _, by simp [World.setRow]⟩
    · intro j b ds hb hd
      have hkeep : ∀ k, p k → (w.setRow g (cur.toList.take (i * E.c + 0) ++ cs ++ cur.toList.drop (i * E.c + 0 + cs.length)).toArray).heap[k]? = w.heap[k]? := fun k hk => setRow_other w g k _ (hp k hk)
      by_cases hj : i = j
      · subst hj
        rw [List.getElem?_set_self (by omega)] at hd
        rw [List.getElem?_set_self hi] at hb
        cases hb; cases hd
        exact hE.keep ha hkeep (fun _ h => h)
      · rw [List.getElem?_set_ne hj] at hb hd
        exact hE.keep (hin j b ds hb hd) hkeep (fun _ h => h)
    · rw [List.length_set]
      refine ⟨?_, .inr ⟨g, cap, _, by rw [hnl], hg, setRow_heap w g cur _ E.T (0, 0) hh, hc, hm, ?_, ?_⟩⟩
      · rw [flat_len (fun ds hd => ?_), List.length_set, hl]
        rcases List.mem_or_eq_of_mem_set hd with h | rfl
        · exact hlen ds h
        · exact hlc
      · simp only [List.size_toArray, List.length_append, List.length_take, List.length_drop, Array.length_toList, hcs, hlc]
        omega
      · have hcur : cur.toList = css.flatten ++ cur.toList.drop (l.length * E.c) := by rw [← htk, List.take_append_drop]
        rw [flat_set hlen cs (by omega)]
        simp only [Nat.add_zero, hlc]
        have hf : css.flatten.length = l.length * E.c := by rw [hfl, hl]
        rw [hcur, ← hf, ← hlc]
        exact take_splice _ _ cs _ (by rw [hlc, hf]; exact hle)
theorem step_el_store {α : Type} {E : Elt α} (hE : E.Ok) {ops : Array Oper} {o : Oper} {a : Act} {K : Act → World → Prop} {Q : Exit → Act → World → Prop} {Z : Prop} (hgd : o.guard = none) (x y : Operand) (ho : o.op = .store E.T x y)
    (w : World) (base : Nat) (p : Nat → Prop) (g n cap : Nat) (l : List α) (h : ElRow E w base p (.slice (some ⟨g, 0, none⟩) n cap) l) (i : Nat) (hi : i < l.length) (t : α) (cs : List Value) (ht : E.El w p t cs) (hp : ∀ k, p k → k ≠ g)
    (hx : a.eval x = .pointer (some ⟨g, i * E.c, none⟩)) (hy : a.eval y = .agg cs.toArray)
    (hK : ∀ w', ElRow E w' base p (.slice (some ⟨g, 0, none⟩) n cap) (l.set i t) → Upd g w w' → w'.heap.size = w.heap.size → K (a.put o.dst undef) w') :
    if Region.wanted o (yielded ops a.tmps) = true then Oper.wp Tryd.prog o a w K Q else Z := by
  have hw : Region.wanted o (yielded ops a.tmps) = true := by simp [Region.wanted, hgd]
  rw [if_pos hw]
  obtain ⟨w', hrun, h1, h2, h3⟩ := run_el_store hE h hi ht hp
  unfold Oper.wp execOp
  simp only [ho, hx, hy, Instr.storeAt, Instr.sureAddr, Sem.run_bind, Sem.run_pure, Result.andThen_ok, hrun]
  exact hK w' h1 h2 h3
end Go.Proofs.YtaghipnheomggaaDoor
set_option linter.unusedVariables false
set_option linter.unusedSimpArgs false
namespace Go.Proofs.YtaghipnheomggaaDoor
open Go.RowKit

section
variable {P : Program} {ops : Array Oper} {Q : Exit → Act → World → Prop} {S : World → Prop} {n : Nat}
theorem wpAnyT_of_any : ∀ (fuel : Nat) (listed : Array Bool) (a : Act) (w : World), (∀ i, i < n → listed.getD i true = true) → wpAny P .any ops Q fuel listed a w → wpAnyT P .any ops Q S n fuel listed a w
  | 0, _, _, _, _, h => h
  | fuel + 1, listed, a, w, hl, h => ⟨h.1, fun i hi => wpOp_mono (fun a' w' h' => ⟨fun hin => by
      have h1 := (mem_ready.1 hi).1
      have h2 := hl i hin
      rcases Nat.lt_or_ge i listed.size with h3 | h3
      · simp [h3] at h1 h2; rw [h1] at h2; cases h2
      · simp [Array.getElem?_eq_none h3] at h1, wpAnyT_of_any fuel _ a' w' (fun j hj => by
      by_cases hij : i = j
      · subst hij
        rcases Nat.lt_or_ge i listed.size with h3 | h3
        · simp [h3]
        · simp [h3]
      · rw [getD_set_ne true hij]; exact hl j hj) h'⟩) (h.2 i hi)⟩
/-- Each operation from n on waits for each one ahead of n. -/
def midB (ops : Array Oper) (n : Nat) : Bool := (List.range ops.size).all fun t => decide (t < n) || (List.range n).all fun i => Region.waitsFor .any ops t i
theorem mid_waits {n : Nat} {listed : Array Bool} (hm : midB ops n = true) {i t : Nat} (hi : i < n) (hun : listed.getD i true = false) (ht : n ≤ t) : t ∉ Region.ready .any ops listed := by
  intro hr
  obtain ⟨_, ot, hot, hall⟩ := mem_ready.1 hr
  have htlt : t < ops.size := (Array.getElem?_eq_some_iff.1 hot).1
  have h1 := List.all_eq_true.1 hm t (List.mem_range.2 htlt)
  have hnt : decide (t < n) = false := by simp; omega
  rw [hnt, Bool.false_or] at h1
  have h2 := List.all_eq_true.1 h1 i (List.mem_range.2 hi)
  obtain ⟨oj, hoj, e, he, hb, hon⟩ := Region.waitsFor_spec h2
  have : oj = ot := Option.some.inj (hoj.symm.trans hot)
  subst this
  have h3 := hall e he hb
  rw [hon, getD_both hun] at h3
  cases h3
theorem wpAnyM_first {i : Nat} {oi : Oper} {v : Value} (hi : ops[i]? = some oi) (hsel : ∀ (j : Nat) (o : Oper) cs b, ops[j]? = some o → o.op ≠ .select cs b)
    (hQ : ∀ c a w, Q (.panic c) (a.put oi.dst v) w → Q (.panic c) a w) (hm : midB ops n = true) (hin : i < n) :
    ∀ (fuel : Nat) (listed : Array Bool) (a : Act) (w : World),
      (∀ j oj, ops[j]? = some oj → j ≠ i → listed.getD j true = false → (∀ e ∈ oj.after, Region.binds .any e = true → e.on ≠ i) → oi.apart ops oj = true) →
      i ∈ Region.ready .any ops listed → YieldsIf P ops S oi v a → S w →
      wpAnyT P .any ops Q S n fuel (listed.setIfInBounds i true) (a.put oi.dst v) w → wpAnyT P .any ops Q S n (fuel + 1) listed a w := by
  intro fuel
  induction fuel with
  | zero =>
    intro listed a w _ hr hy hS H
    refine ⟨fun h => (by rw [h] at hr; cases hr), fun j hj => ?_⟩
    by_cases hji : j = i
    · subst hji; exact hy.wpOp hi hS ⟨fun _ => hS, H⟩
    · have := ready_mono hj hji
      rw [H.1] at this
      cases this
  | succ fuel ih =>
    intro listed a w hfree hr hy hS H
    refine ⟨fun h => (by rw [h] at hr; cases hr), fun j hj => ?_⟩
    by_cases hji : j = i
    · subst hji; exact hy.wpOp hi hS ⟨fun _ => hS, H⟩
    · have hjn : j < n := by
        rcases Nat.lt_or_ge j n with h | h
        · exact h
        · exact absurd hj (mid_waits hm hin (mem_ready.1 hr).1 h)
      have h1 := H.2 j (ready_mono hj hji)
      obtain ⟨hjun, oj, hoj, hall⟩ := mem_ready.1 hj
      have hnot : ∀ e ∈ oj.after, Region.binds .any e = true → e.on ≠ i := fun e he hb heq => by
        have h1 := hall e he hb
        have h0 := (mem_ready.1 hr).1
        rw [heq] at h1
        rcases Nat.lt_or_ge i listed.size with h' | h'
        · simp [h'] at h0 h1; rw [h0] at h1; cases h1
        · simp [Array.getElem?_eq_none h'] at h1
      have h2 := wpOp_putIf hoj (hfree j oj hoj hji hjun hnot) (fun cs b => hsel i oi cs b hi) (fun cs b => hsel j oj cs b hoj) hQ hy h1
      have hfree' : ∀ k ok, ops[k]? = some ok → k ≠ i → (listed.setIfInBounds j true).getD k true = false →
          (∀ e ∈ ok.after, Region.binds .any e = true → e.on ≠ i) → oi.apart ops ok = true := fun k ok hk hki hun hno => by
        refine hfree k ok hk hki ?_ hno
        by_cases hjk : j = k
        · subst hjk; exact hjun
        · rw [getD_set_ne true hjk] at hun; exact hun
      refine wpOp_mono (fun a' w' h3 => ⟨h3.2.1, ih (listed.setIfInBounds j true) a' w' hfree' (ready_mono hr (Ne.symm hji)) h3.1 (h3.2.1 hjn) ?_⟩) h2
      rw [Array.setIfInBounds_comm _ _ hji]
      exact h3.2.2
theorem regM_start {id : Nat} {a : Act} {w : World} (hm : P.follows .mixedOrders = true) (h : wpAnyT P .any ops Q S n ops.size (Array.replicate ops.size false) a w.drew) : (Code.region id ops true).wp P Q a w :=
  wp_region_any hm (wpAny_of_T _ _ _ _ h)
theorem regM_take {i : Nat} {oi : Oper} {v : Value} {fuel : Nat} {listed : Array Bool} {a : Act} {w : World} (hi : ops[i]? = some oi)
    (hs : Region.noSelect ops = true) (hb : midB ops n = true) (hin : i < n) (hf : Region.free .any ops listed i = true) (hr : (Region.ready .any ops listed).contains i = true)
    (hQ : ∀ c a w, Q (.panic c) (a.put oi.dst v) w → Q (.panic c) a w) (hy : YieldsIf P ops S oi v a) (hS : S w)
    (h : wpAnyT P .any ops Q S n fuel (listed.setIfInBounds i true) (a.put oi.dst v) w) : wpAnyT P .any ops Q S n (fuel + 1) listed a w :=
  wpAnyM_first hi (Region.noSelect_spec hs) hQ hb hin fuel listed a w (Region.free_spec hi hf) (by simpa using hr) hy hS h
theorem regM_all {rs : List Nat} {fuel : Nat} {listed : Array Bool} {a : Act} {w : World} (hr : Region.ready .any ops listed = rs) (hne : rs ≠ [])
    (h : ∀ i ∈ rs, wpOp P ops Q i (fun a' w' => S w' ∧ wpAnyT P .any ops Q S n fuel (listed.setIfInBounds i true) a' w') a w) : wpAnyT P .any ops Q S n (fuel + 1) listed a w :=
  ⟨fun h0 => absurd (hr ▸ h0) hne, fun i hi => wpOp_mono (fun a' w' h' => ⟨fun _ => h'.1, h'.2⟩) (h i (hr ▸ hi))⟩
/-- The operation that waits for all ahead of it, and lets the others wait. -/
theorem regM_mid {fuel : Nat} {listed : Array Bool} {a : Act} {w : World} (hr : Region.ready .any ops listed = [n]) (hl : ∀ i, i < n → (listed.setIfInBounds n true).getD i true = true)
    (h : wpOp P ops Q n (fun a' w' => wpAny P .any ops Q fuel (listed.setIfInBounds n true) a' w') a w) : wpAnyT P .any ops Q S n (fuel + 1) listed a w := by
  refine ⟨fun h0 => (by rw [hr] at h0; cases h0), fun i hi => ?_⟩
  rw [hr] at hi
  obtain rfl : i = n := by simpa using hi
  exact wpOp_mono (fun a' w' h' => ⟨fun h0 => absurd h0 (Nat.lt_irrefl _), wpAnyT_of_any _ _ _ _ hl h'⟩) h
end

/-- What is asked of the region's edges. -/
def app1Ok (ops : Array Oper) : Bool :=
  let L0 := Array.replicate 10 false
  let L1 := L0.setIfInBounds 0 true
  let L2 := L1.setIfInBounds 2 true
  let L3 := L2.setIfInBounds 1 true
  let L4 := L3.setIfInBounds 3 true
  let L5 := L4.setIfInBounds 4 true
  let L6 := L5.setIfInBounds 5 true
  let L7 := L6.setIfInBounds 8 true
  let L8 := L7.setIfInBounds 6 true
  Region.noSelect ops && decide (ops.size = 10) && midB ops 5 && (Region.free .any ops L0 0 && (Region.ready .any ops L0).contains 0) && (Region.free .any ops L1 2 && (Region.ready .any ops L1).contains 2)
    && (Region.free .any ops L2 1 && (Region.ready .any ops L2).contains 1) && (Region.free .any ops L3 3 && (Region.ready .any ops L3).contains 3) && (Region.ready .any ops L4 == [4]) && (Region.ready .any ops L5 == [5])
    && (Region.free .any ops L6 8 && (Region.ready .any ops L6).contains 8) && (Region.free .any ops L7 6 && (Region.ready .any ops L7).contains 6) && (Region.ready .any ops L8 == [7, 9])
    && (Region.ready .any ops (L8.setIfInBounds 7 true) == [9]) && (Region.ready .any ops (L8.setIfInBounds 9 true) == [7]) && (Region.ready .any ops ((L8.setIfInBounds 7 true).setIfInBounds 9 true) == []) && (Region.ready .any ops ((L8.setIfInBounds 9 true).setIfInBounds 7 true) == [])

theorem zNodeP (w : World) (p : Nat → Prop) : NodeP w p (.mk 0 [] [] [] [] [] 0) [.int .i64 0, .string ⟨#[]⟩, .string ⟨#[]⟩, .slice none 0 0, .slice none 0 0, .string ⟨#[]⟩, .int .i64 0] :=
  NodeP.of_form (n := .mk 0 [] [] [] [] [] 0) ⟨none, 0, rfl, Nat.le_refl _, .inl rfl⟩ ⟨none, 0, rfl, Nat.le_refl _, .inl rfl⟩

set_option maxHeartbeats 1000000 in
theorem region_app1 {id : Nat} {ops : Array Oper} {Q : Exit → Act → World → Prop} {a : Act} {w : World}
    {sP sL sM sX sK sN sB sA sI sF : Nat} {t0 t1 t2 t3 t4 t5 t6 t7 t8 t9 : TypeId} {p0 p1 p2 p3 p4 p5 p6 p7 p8 p9 : String} {x0 x1 x2 x3 x4 x5 x6 x7 x8 x9 : Array Edge}
    (o0 : ops[0]? = some ⟨some sP, .fieldAddr 29 (.tmp sM) 4, t0, p0, x0, none⟩)
    (o1 : ops[1]? = some ⟨some sL, .load 27 (.tmp sP), t1, p1, x1, none⟩)
    (o2 : ops[2]? = some ⟨some sK, .load 29 (.tmp sX), t2, p2, x2, none⟩)
    (o3 : ops[3]? = some ⟨some sN, .call { callee := .builtin .len, args := #[.tmp sL], argTypes := #[27] }, t3, p3, x3, none⟩)
    (o4 : ops[4]? = some ⟨some sB, .buildSlice 27 1 #[(0, .const (.agg #[.int .i64 0, .string ⟨#[]⟩, .string ⟨#[]⟩, .slice none 0 0, .slice none 0 0, .string ⟨#[]⟩, .int .i64 0]))], t4, p4, x4, none⟩)
    (o5 : ops[5]? = some ⟨some sA, .call { callee := .builtin .append, args := #[.tmp sL, .tmp sB], argTypes := #[27, 27] }, t5, p5, x5, none⟩)
    (o6 : ops[6]? = some ⟨some sI, .indexAddr 27 (.tmp sA) (.tmp sN), t6, p6, x6, none⟩)
    (o7 : ops[7]? = some ⟨none, .store 29 (.tmp sI) (.tmp sK), t7, p7, x7, none⟩)
    (o8 : ops[8]? = some ⟨some sF, .fieldAddr 29 (.tmp sM) 4, t8, p8, x8, none⟩)
    (o9 : ops[9]? = some ⟨none, .store 27 (.tmp sF) (.tmp sA), t9, p9, x9, none⟩)
    (hck : app1Ok ops = true)
    (hlt : (decide ([sP, sL, sM, sX, sK, sN, sB, sA, sI, sF].Nodup) && [sP, sL, sK, sN, sB, sA, sI, sF].all (fun i => decide (i < a.tmps.size))) = true)
    (hQp : ∀ s v c a w, Q (.panic c) (a.put (some s) v) w → Q (.panic c) a w)
    (base : Nat) (p : Nat → Prop) (nb hb : Nat) (KA : Option Addr) (kc : Nat) (l : List Node) (k : Node) (cs : List Value) (cur : Array Value) (ty : TypeId)
    (hM : a.eval (.tmp sM) = .pointer (some ⟨nb, 0, none⟩)) (hX : a.eval (.tmp sX) = .pointer (some ⟨hb, 0, none⟩))
    (hnb : w.heap[nb]? = some (.cells cur ty (0, 0))) (hcur : cur[4]? = some (.slice KA l.length kc)) (hxr : w.rangeAt hb 0 cs) (hhb : hb < w.heap.size) (hk : NodeP w p k cs)
    (hrow : ElRow nodeE w base p (.slice KA l.length kc) l) (hp : ∀ j, p j → (Value.slice KA l.length kc).ownBlock ≠ some j) (hp2 : ∀ j, p j → j < w.heap.size) (hnp : ¬ p nb) (hnbb : nb < base) (hbase : base ≤ w.heap.size) (hl : l.length < 1000000000)
    (hQ : ∀ (bb g' c' : Nat) (vI : Value) (W : World), ((Value.slice KA l.length kc).ownBlock = some g' ∨ w.heap.size ≤ g') → ElRow nodeE W base p (.slice (some ⟨g', 0, none⟩) (l.length + 1) c') (l ++ [k]) → W.heap[nb]? = some (.cells (cur.setIfInBounds 4 (.slice (some ⟨g', 0, none⟩) (l.length + 1) c')) ty (0, 0)) →
      (∀ b, b < w.heap.size → b ≠ nb → (Value.slice KA l.length kc).ownBlock ≠ some b → W.heap[b]? = w.heap[b]?) → W.os = w.os → W.tape = w.tape → W.output = w.output → w.heap.size ≤ W.heap.size →
      Q .normal ((((((((a.put (some sP) (.pointer (some ⟨nb, 4, none⟩))).put (some sK) (.agg cs.toArray)).put (some sL) (.slice KA l.length kc)).put (some sN) (.int .i64 l.length)).put (some sB) (.slice (some ⟨bb, 0, none⟩) 1 1)).put (some sA) (.slice (some ⟨g', 0, none⟩) (l.length + 1) c')).put (some sF) (.pointer (some ⟨nb, 4, none⟩))).put (some sI) vI) W) :
    (Code.region id ops true).wp Tryd.prog Q a w := by
  unfold app1Ok at hck
  simp only [Bool.and_eq_true, decide_eq_true_eq, beq_iff_eq] at hck
  obtain ⟨⟨⟨⟨⟨⟨⟨⟨⟨⟨⟨⟨⟨⟨⟨ns, hsz⟩, hsc⟩, f0⟩, f2⟩, f1⟩, f3⟩, r4⟩, r5⟩, f8⟩, f6⟩, r79⟩, r9⟩, r7⟩, rA⟩, rB⟩ := hck
  simp only [Bool.and_eq_true, decide_eq_true_eq, List.all_cons, List.all_nil, List.nodup_cons, List.mem_cons, List.not_mem_nil, or_false, not_or, Bool.and_true] at hlt
  obtain ⟨⟨⟨dPL, dPM, dPX, dPK, dPN, dPB, dPA, dPI, dPF⟩, ⟨dLM, dLX, dLK, dLN, dLB, dLA, dLI, dLF⟩, ⟨dMX, dMK, dMN, dMB, dMA, dMI, dMF⟩, ⟨dXK, dXN, dXB, dXA, dXI, dXF⟩, ⟨dKN, dKB, dKA, dKI, dKF⟩, ⟨dNB, dNA, dNI, dNF⟩, ⟨dBA, dBI, dBF⟩, ⟨dAI, dAF⟩, dIF, _⟩, zP, zL, zK, zN, zB, zA, zI, zF⟩ := hlt
  have hl7 := hk.len
  have hcell : w.cell? ⟨nb, 4, none⟩ = some (.slice KA l.length kc) := by rw [Lib.cell_of_heap hnb]; exact hcur
  have hS : w.drew.rangeAt hb 0 cs ∧ w.drew.cell? ⟨nb, 4, none⟩ = some (.slice KA l.length kc) := ⟨hxr, hcell⟩
  refine regM_start (n := 5) (S := fun x => x.rangeAt hb 0 cs ∧ x.cell? ⟨nb, 4, none⟩ = some (.slice KA l.length kc)) (by kernel_rfl) ?_
  rw [hsz]
  refine regM_take (i := 0) (v := .pointer (some ⟨nb, 4, none⟩)) o0 ns hsc (by omega) f0.1 f0.2 (fun _ _ _ h => hQp _ _ _ _ _ h) (.inl ⟨by simp [Region.wanted], fun x hx => ?_⟩) hS ?_
  · have hM' := eval_tmp hM
    go_simp
  refine regM_take (i := 2) (v := .agg cs.toArray) o2 ns hsc (by omega) f2.1 f2.2 (fun _ _ _ h => hQp _ _ _ _ _ h) (.inl ⟨by simp [Region.wanted], fun x hx => ?_⟩) hS ?_
  · have hX' : (a.put (some sP) (.pointer (some ⟨nb, 4, none⟩))).eval (.tmp sX) = .pointer (some ⟨hb, 0, none⟩) := by rw [eval_put_ne dPX, hX]
    unfold execOp
    simp only [hX', Instr.loadAt, Instr.sureAddr, Sem.run_bind, Sem.run_pure, Result.andThen_ok, run_loadVar_mid x hb 0 29 cs _ hx.1 Tryd.underlying29 rfl (by rw [hl7]; exact nodeSize)]
  obtain ⟨a2, ha2⟩ : ∃ a2, (a.put (some sP) (.pointer (some ⟨nb, 4, none⟩))).put (some sK) (.agg cs.toArray) = a2 := ⟨_, rfl⟩
  have e2P : a2.eval (.tmp sP) = .pointer (some ⟨nb, 4, none⟩) := by rw [← ha2, eval_put_ne (Ne.symm dPK), eval_put_same zP]
  have e2M : a2.eval (.tmp sM) = .pointer (some ⟨nb, 0, none⟩) := by rw [← ha2, eval_put_ne (Ne.symm dMK), eval_put_ne dPM, hM]
  have e2K : a2.eval (.tmp sK) = .agg cs.toArray := by rw [← ha2, eval_put_same (by simpa [size_put] using zK)]
  have z2 : a2.tmps.size = a.tmps.size := by rw [← ha2, size_put, size_put]
  rw [ha2] at hQ ⊢
  refine regM_take (i := 1) (v := .slice KA l.length kc) o1 ns hsc (by omega) f1.1 f1.2 (fun _ _ _ h => hQp _ _ _ _ _ h) (.inl ⟨by simp [Region.wanted], fun x hx => ?_⟩) hS ?_
  · have h' := eval_tmp e2P
    have hx2 := hx.2
    clear zP zL zK zN zB zA zI zF z2
    go_simp
  refine regM_take (i := 3) (v := .int .i64 l.length) o3 ns hsc (by omega) f3.1 f3.2 (fun _ _ _ h => hQp _ _ _ _ _ h) (.inl ⟨by simp [Region.wanted], fun x hx => ?_⟩) hS ?_
  · have h' : (a2.put (some sL) (.slice KA l.length kc)).tmps[sL]?.getD undef = .slice KA l.length kc := eval_tmp (eval_put_same (by omega))
    go_simp
  obtain ⟨a4, ha4⟩ : ∃ a4, (a2.put (some sL) (.slice KA l.length kc)).put (some sN) (.int .i64 l.length) = a4 := ⟨_, rfl⟩
  have e4L : a4.eval (.tmp sL) = .slice KA l.length kc := by rw [← ha4, eval_put_ne (Ne.symm dLN), eval_put_same (by omega)]
  have e4N : a4.eval (.tmp sN) = .int .i64 l.length := by rw [← ha4, eval_put_same (by rw [size_put]; omega)]
  have e4M : a4.eval (.tmp sM) = .pointer (some ⟨nb, 0, none⟩) := by rw [← ha4, eval_put_ne (Ne.symm dMN), eval_put_ne dLM, e2M]
  have e4K : a4.eval (.tmp sK) = .agg cs.toArray := by rw [← ha4, eval_put_ne (Ne.symm dKN), eval_put_ne dLK, e2K]
  have z4 : a4.tmps.size = a.tmps.size := by rw [← ha4, size_put, size_put, z2]
  rw [ha4] at hQ ⊢
  refine regM_all r4 (by simp) ?_
  intro i hi
  obtain rfl : i = 4 := by simpa using hi
  refine regT_op o4 (fun K' hK => ?_)
  go_simp
  have hS4 : (w.drew.alloc (.cells #[.int .i64 0, .string ⟨#[]⟩, .string ⟨#[]⟩, .slice none 0 0, .slice none 0 0, .string ⟨#[]⟩, .int .i64 0] 29)).rangeAt hb 0 cs ∧ (w.drew.alloc (.cells #[.int .i64 0, .string ⟨#[]⟩, .string ⟨#[]⟩, .slice none 0 0, .slice none 0 0, .string ⟨#[]⟩, .int .i64 0] 29)).cell? ⟨nb, 4, none⟩ = some (.slice KA l.length kc) := by
    refine ⟨rangeAt_keep hxr (Below.heap_alloc w.drew _ _ hhb), ?_⟩
    rw [Lib.cell_of_heap (alloc_old (W := w.drew) hnb)]; exact hcur
  refine hK.out _ _ ⟨hS4, ?_⟩
  clear hK
  change wpAnyT _ _ _ _ _ _ _ _ (a4.put (some sB) (.slice (some ⟨w.heap.size, 0, none⟩) 1 1)) _
  obtain ⟨a5, ha5⟩ : ∃ a5, a4.put (some sB) (.slice (some ⟨w.heap.size, 0, none⟩) 1 1) = a5 := ⟨_, rfl⟩
  have e5L : a5.eval (.tmp sL) = .slice KA l.length kc := by rw [← ha5, eval_put_ne (Ne.symm dLB), e4L]
  have e5B : a5.eval (.tmp sB) = .slice (some ⟨w.heap.size, 0, none⟩) 1 1 := by rw [← ha5, eval_put_same (by omega)]
  have e5N : a5.eval (.tmp sN) = .int .i64 l.length := by rw [← ha5, eval_put_ne (Ne.symm dNB), e4N]
  have e5M : a5.eval (.tmp sM) = .pointer (some ⟨nb, 0, none⟩) := by rw [← ha5, eval_put_ne (Ne.symm dMB), e4M]
  have e5K : a5.eval (.tmp sK) = .agg cs.toArray := by rw [← ha5, eval_put_ne (Ne.symm dKB), e4K]
  have z5 : a5.tmps.size = a.tmps.size := by rw [← ha5, size_put, z4]
  have hQ5 := hQ w.heap.size
  rw [ha5] at hQ5 ⊢
  refine regM_mid r5 (fun i hi => ?_) ?_
  · match i, hi with
    | 0, _ => rfl
    | 1, _ => rfl
    | 2, _ => rfl
    | 3, _ => rfl
    | 4, _ => rfl
  refine regT_op o5 (fun K' hK => ?_)
  refine els_append_step nodeE_ok (by rfl) (.tmp sL) (.tmp sB) (by rfl) w.drew base p _ l e5L (hrow.heap nodeE_ok (fun _ _ => rfl) (fun _ _ => rfl)) (.mk 0 [] [] [] [] [] 0) [.int .i64 0, .string ⟨#[]⟩, .string ⟨#[]⟩, .slice none 0 0, .slice none 0 0, .string ⟨#[]⟩, .int .i64 0] w.heap.size rfl e5B (zNodeP _ _) hp hp2 hbase (by omega) ?_
  intro g' c' w5 hat hlt5 hrow5 hgr5 hb5w
  refine hK.out _ _ ?_
  clear hK
  have hgn : g' ≠ nb := fun e => by have := hrow5.lt g' rfl; omega
  have hnb5 : w5.heap[nb]? = some (.cells cur ty (0, 0)) := (hb5w.block nb hnbb).trans hnb
  have hkeep5 : ∀ b, b < w.heap.size → (Value.slice KA l.length kc).ownBlock ≠ some b → w5.heap[b]? = w.heap[b]? := fun b h1 h2 => hgr5.grown.block b h1 (fun e => h2 e.symm)
  have hk5 : NodeP w5 p k cs := NodeP.keep (fun j hj => hkeep5 j (hp2 j hj) (hp j hj)) (fun _ h => h) _ _ hk
  have hpg : ∀ j, p j → j ≠ g' := fun j hj e => by
    subst e
    rcases hat with h | h
    · exact hp _ hj h
    · have := hp2 _ hj; have h' : w.heap.size ≤ j := h; omega
  obtain ⟨a6, ha6⟩ : ∃ a6, a5.put (some sA) (.slice (some ⟨g', 0, none⟩) (l.length + 1) c') = a6 := ⟨_, rfl⟩
  have e6A : a6.eval (.tmp sA) = .slice (some ⟨g', 0, none⟩) (l.length + 1) c' := by rw [← ha6, eval_put_same (by omega)]
  have e6N : a6.eval (.tmp sN) = .int .i64 l.length := by rw [← ha6, eval_put_ne (Ne.symm dNA), e5N]
  have e6M : a6.eval (.tmp sM) = .pointer (some ⟨nb, 0, none⟩) := by rw [← ha6, eval_put_ne (Ne.symm dMA), e5M]
  have e6K : a6.eval (.tmp sK) = .agg cs.toArray := by rw [← ha6, eval_put_ne (Ne.symm dKA), e5K]
  have z6 : a6.tmps.size = a.tmps.size := by rw [← ha6, size_put, z5]
  have hQ6 := hQ5 g' c'
  rw [ha6] at hQ6
  change wpAny _ _ _ _ _ _ (a5.put (some sA) (.slice (some ⟨g', 0, none⟩) (l.length + 1) c')) _
  rw [ha6]
  refine wpAny_take (i := 8) (v := .pointer (some ⟨nb, 4, none⟩)) o8 ns f8.1 f8.2 (fun _ _ _ h => hQp _ _ _ _ _ h) (.inl ⟨by simp [Region.wanted], fun x => ?_⟩) ?_
  · have hM' := eval_tmp e6M
    go_simp
  obtain ⟨a7, ha7⟩ : ∃ a7, a6.put (some sF) (.pointer (some ⟨nb, 4, none⟩)) = a7 := ⟨_, rfl⟩
  have e7A : a7.eval (.tmp sA) = .slice (some ⟨g', 0, none⟩) (l.length + 1) c' := by rw [← ha7, eval_put_ne (Ne.symm dAF), e6A]
  have e7N : a7.eval (.tmp sN) = .int .i64 l.length := by rw [← ha7, eval_put_ne (Ne.symm dNF), e6N]
  have e7K : a7.eval (.tmp sK) = .agg cs.toArray := by rw [← ha7, eval_put_ne (Ne.symm dKF), e6K]
  have e7F : a7.eval (.tmp sF) = .pointer (some ⟨nb, 4, none⟩) := by rw [← ha7, eval_put_same (by omega)]
  have z7 : a7.tmps.size = a.tmps.size := by rw [← ha7, size_put, z6]
  rw [ha7]
  refine wpAny_take (i := 6) (v := .pointer (some ⟨g', l.length * 7, none⟩)) o6 ns f6.1 f6.2 (fun _ _ _ h => hQp _ _ _ _ _ h) (.inl ⟨by simp [Region.wanted], fun x => ?_⟩) ?_
  · have h1 := eval_tmp e7A
    have h2 := eval_tmp e7N
    have h3 : (l.length : Int) < (l.length : Int) + 1 := by omega
    clear zP zL zK zN zB zA zI zF z2 z4 z5 z6 z7
    go_simp
  obtain ⟨a8, ha8⟩ : ∃ a8, a7.put (some sI) (.pointer (some ⟨g', l.length * 7, none⟩)) = a8 := ⟨_, rfl⟩
  have e8A : a8.eval (.tmp sA) = .slice (some ⟨g', 0, none⟩) (l.length + 1) c' := by rw [← ha8, eval_put_ne (Ne.symm dAI), e7A]
  have e8F : a8.eval (.tmp sF) = .pointer (some ⟨nb, 4, none⟩) := by rw [← ha8, eval_put_ne dIF, e7F]
  have e8I : a8.eval (.tmp sI) = .pointer (some ⟨g', l.length * 7, none⟩) := by rw [← ha8, eval_put_same (by omega)]
  have e8K : a8.eval (.tmp sK) = .agg cs.toArray := by rw [← ha8, eval_put_ne (Ne.symm dKI), e7K]
  have hQ8 := hQ6 (.pointer (some ⟨g', l.length * 7, none⟩))
  rw [ha7, ha8] at hQ8
  rw [ha8]
  have hset : (l ++ [Node.mk 0 [] [] [] [] [] 0]).set l.length k = l ++ [k] := by simp
  have hlen1 : (l ++ [Node.mk 0 [] [] [] [] [] 0]).length = l.length + 1 := by simp
  have hne : ∀ j, (Value.slice (some ⟨g', 0, none⟩) (l.length + 1) c').ownBlock = some j → j ≠ nb := fun j hj => by
    have e2 : g' = j := by simpa [Value.ownBlock] using hj
    rw [← e2]; exact hgn
  have hpn : ∀ j, p j → j ≠ nb := fun j hj e => hnp (e ▸ hj)
  have hA' := eval_tmp e8A
  have hF' := eval_tmp e8F
  have hz5 : w.heap.size ≤ w5.heap.size := by have := hgr5.lt; simpa using this
  clear zP zL zK zN zB zA zI zF z2 z4 z5 z6 z7
  refine wpAny_all r79 (by simp) ?_
  intro i hi
  have hi' : i = 7 ∨ i = 9 := by simpa using hi
  rcases hi' with rfl | rfl
  · refine regT_op o7 (fun K' hK => ?_)
    refine step_el_store nodeE_ok (by rfl) (.tmp sI) (.tmp sK) (by rfl) w5 base p g' (l.length + 1) c' _ hrow5 l.length (by omega) k cs hk5 hpg e8I e8K ?_
    intro w7 hrow7 hu7 hz7
    rw [hset] at hrow7
    refine hK.out _ _ ?_
    clear hK
    change wpAny _ _ _ _ _ _ a8 _
    refine wpAny_all r9 (by simp) ?_
    intro i hi
    obtain rfl : i = 9 := by simpa using hi
    refine regT_op o9 (fun K' hK => ?_)
    have hnb7 := (hu7.block nb (heap_lt hnb5) (Ne.symm hgn)).trans hnb5
    have hfz : w7.frozen? ⟨nb, 4, none⟩ = false := Lib.frozen_of_heap hnb7 4
    have hc7 : w7.cell? ⟨nb, 4, none⟩ = some (.slice KA l.length kc) := by rw [Lib.cell_of_heap hnb7]; exact hcur
    go_simp
    refine hK.out _ _ (wpAny_done rA ?_ _)
    refine hQ8 (w7.setCell ⟨nb, 4, none⟩ (.slice (some ⟨g', 0, none⟩) (l.length + 1) c')) hat ?_ (heap_set (i := 4) hnb7 _) ?_ ?_ ?_ ?_ ?_
    · exact hrow7.heap nodeE_ok (fun j hj => Below.heap_setCell _ _ _ _ (hne j hj)) (fun j hj => Below.heap_setCell _ _ _ _ (hpn j hj))
    · intro b h1 h2 h3
      refine (Below.heap_setCell _ _ _ _ h2).trans ((hu7.block b (by omega) (fun e => ?_)).trans (hkeep5 b h1 h3))
      rcases hat with h | h
      · exact h3 (by rw [e]; exact h)
      · have h' : w.heap.size ≤ g' := h; omega
    · exact hu7.os.trans (hb5w.os)
    · exact hu7.tape.trans (hb5w.tape)
    · exact hu7.output.trans (hb5w.output)
    · simp [World.setCell]; omega
  · refine regT_op o9 (fun K' hK => ?_)
    have hfz : w5.frozen? ⟨nb, 4, none⟩ = false := Lib.frozen_of_heap hnb5 4
    have hc7 : w5.cell? ⟨nb, 4, none⟩ = some (.slice KA l.length kc) := by rw [Lib.cell_of_heap hnb5]; exact hcur
    go_simp
    refine hK.out _ _ ?_
    clear hK
    change wpAny _ _ _ _ _ _ a8 _
    refine wpAny_all r7 (by simp) ?_
    intro i hi
    obtain rfl : i = 7 := by simpa using hi
    refine regT_op o7 (fun K' hK => ?_)
    have hrow6 := hrow5.heap nodeE_ok (w' := w5.setCell ⟨nb, 4, none⟩ (.slice (some ⟨g', 0, none⟩) (l.length + 1) c')) (fun j hj => Below.heap_setCell _ _ _ _ (hne j hj)) (fun j hj => Below.heap_setCell _ _ _ _ (hpn j hj))
    have hk6 : NodeP (w5.setCell ⟨nb, 4, none⟩ (.slice (some ⟨g', 0, none⟩) (l.length + 1) c')) p k cs := NodeP.keep (fun j hj => Below.heap_setCell _ _ _ _ (hpn j hj)) (fun _ h => h) _ _ hk5
    have hnb6 := heap_set (i := 4) hnb5 (.slice (some ⟨g', 0, none⟩) (l.length + 1) c')
    have hz6 : (w5.setCell ⟨nb, 4, none⟩ (.slice (some ⟨g', 0, none⟩) (l.length + 1) c')).heap.size = w5.heap.size := by simp [World.setCell]
    refine step_el_store nodeE_ok (by rfl) (.tmp sI) (.tmp sK) (by rfl) _ base p g' (l.length + 1) c' _ hrow6 l.length (by omega) k cs hk6 hpg e8I e8K ?_
    intro w7 hrow7 hu7 hz7
    rw [hset] at hrow7
    refine hK.out _ _ (wpAny_done rB ?_ _)
    refine hQ8 w7 hat hrow7 ((hu7.block nb (heap_lt hnb6) (Ne.symm hgn)).trans hnb6) ?_ ?_ ?_ ?_ ?_
    · intro b h1 h2 h3
      refine (hu7.block b (by omega) (fun e => ?_)).trans ((Below.heap_setCell _ _ _ _ h2).trans (hkeep5 b h1 h3))
      rcases hat with h | h
      · exact h3 (by rw [e]; exact h)
      · have h' : w.heap.size ≤ g' := h; omega
    · exact hu7.os.trans (hb5w.os)
    · exact hu7.tape.trans (hb5w.tape)
    · exact hu7.output.trans (hb5w.output)
    · omega
end Go.Proofs.YtaghipnheomggaaDoor
set_option linter.unusedVariables false
namespace Go.Proofs.YtaghipnheomggaaDoor
open Go.RowKit

theorem headF_eq (g : Scope) (n : Node) : headF g n = match enterF g n with | .error e => .error e | .ok g' => match g' (splR n.name).1 with | none => .error (n.pos, 13) | some sp => match attrsL g' [] n.attrs with | .error e => .error e | .ok ats => .ok (sp, (splR n.name).2.1, ats, g') := by
  unfold headF enterF splR
  cases splitF n.name with
  | none => rfl
  | some r =>
    obtain ⟨p, q⟩ := r
    simp only
    split
    · rfl
    · cases enterL g n.attrs with
      | error e => rfl
      | ok g' => rfl
theorem enterF_err {g : Scope} {n : Node} {e : Int × Nat} (h : enterF g n = .error e) : e.2 ≠ 0 := by
  unfold enterF at h
  split at h
  · cases h; simp
  · split at h
    · cases h; simp
    · exact enterL_err h
theorem res_cells2 {P : Program} {fn : Func} {p q : Tmp} {ty tz : TypeId} (h : fn.results = #[.cell p ty, .cell q tz]) (tmps : Array Value) (w : World) (g f : Nat) (ht : tmps.getD p undef = .pointer (some ⟨g, 0, none⟩)) (hf : tmps.getD q undef = .pointer (some ⟨f, 0, none⟩)) (t s : TypeId) (cells ds : Array Value) (hg : w.heap[g]? = some (.cells cells t (0, 0))) (hd : w.heap[f]? = some (.cells ds s (0, 0)))
    {d e : TypeDesc} (hu : P.underlying ty = some d) (hr : d.isRow = true) (hi : (P.info? ty).map (·.size) = some cells.size) (hv : P.underlying tz = some e) (hs : e.isRow = true) (hj : (P.info? tz).map (·.size) = some ds.size) : (results fn tmps).run P w = .ok (.tuple #[.agg cells, .agg ds]) w := by
  have hc : w.rangeAt g 0 cells.toList := fun j v hv => by rw [Nat.zero_add, Lib.cell_of_heap hg]; simpa using hv
  have hl := run_loadVar_mid (P := P) w g 0 ty cells.toList d hc hu hr (by simpa using hi)
  have hc2 : w.rangeAt f 0 ds.toList := fun j v hv => by rw [Nat.zero_add, Lib.cell_of_heap hd]; simpa using hv
  have hl2 := run_loadVar_mid (P := P) w f 0 tz ds.toList e hc2 hv hs (by simpa using hj)
  rw [Array.toArray_toList] at hl hl2
  have ht' : tmps[p]?.getD undef = .pointer (some ⟨g, 0, none⟩) := by simpa using ht
  have hf' : tmps[q]?.getD undef = .pointer (some ⟨f, 0, none⟩) := by simpa using hf
  simp only [results, h]
  simp [ht', hf', asAddr, hl, hl2]

/-- A block of one's own: it is not frozen. -/
def Loose (w : World) (b : Nat) : Prop := ∃ cur t, w.heap[b]? = some (.cells cur t (0, 0))
theorem Loose.keep {w w' : World} {b : Nat} (h : Loose w b) (hk : w'.heap[b]? = w.heap[b]?) : Loose w' b := by
  obtain ⟨cur, t, h⟩ := h
  exact ⟨cur, t, hk.trans h⟩
theorem ownsRow_loose {w : World} {base : Nat} {T : TypeId} {c : Nat} {v : Value} {n : Nat} {cs : List Value} {b : Nat} (h : w.ownsRow base T c v n cs) (hb : v.ownBlock = some b) : Loose w b := by
  rcases h.2 with ⟨hv, hn⟩ | ⟨g, cap, cur, hv, hg, hh, _⟩
  · rw [hv] at hb; cases hb
  · rw [hv] at hb
    cases hb
    exact ⟨cur, T, hh⟩
theorem ElRow.loose {α : Type} {E : Elt α} {w : World} {base : Nat} {p : Nat → Prop} {v : Value} {l : List α} {b : Nat} (h : ElRow E w base p v l) (hb : v.ownBlock = some b) : Loose w b := by
  obtain ⟨css, _, _, h3⟩ := h
  exact ownsRow_loose h3 hb
/-- What resolve returns. -/
def ResP (w w' : World) (r : Except (Int × Nat) Node) (e : Ending) : Prop :=
  match r with
  | .error q => e = .returned (.tuple #[zNodeV, .agg #[.int .i64 q.1, .int .i64 q.2]])
  | .ok n => ∃ v, e = .returned (.tuple #[v, .agg #[.int .i64 0, .int .i64 0]]) ∧ NodePV w' (fun b => w.heap.size ≤ b ∧ b < w'.heap.size ∧ Loose w' b) n v
abbrev zFlt : Array Value := #[.int .i64 0, .int .i64 0]
/-- Where resolve stands: the box of its argument, its two results. -/
structure PLe (w0 : World) (n : Node) (A : Option Addr) (c : Nat) (K : Option Addr) (d : Nat) (wr : World) : Prop where
  box : wr.heap[w0.heap.size]? = some (nodeBox n A c K d)
  res : wr.heap[w0.heap.size + 1]? = some (.cells zNodC 29 (0, 0))
  flt : wr.heap[w0.heap.size + 1 + 1]? = some (.cells zFlt 52 (0, 0))
  below : Below w0.heap.size w0 wr
theorem PLe.new (w : World) (n : Node) (A : Option Addr) (c : Nat) (K : Option Addr) (d : Nat) : PLe w n A c K d (((w.alloc (nodeBox n A c K d)).alloc (.cells zNodC 29)).alloc (.cells zFlt 52)) :=
  ⟨alloc_old (alloc_old (heap_alloc_new w _)), alloc_old (alloc_at (by simp)), alloc_at (by simp), (((Below.refl _ _).alloc (Nat.le_refl _) _).alloc (by simp) _).alloc (by simp; omega) _⟩
theorem PLe.next {w0 : World} {n : Node} {A : Option Addr} {c : Nat} {K : Option Addr} {d : Nat} {wr w' : World} (h : PLe w0 n A c K d wr) (hb : Below wr.heap.size wr w') : PLe w0 n A c K d w' :=
  ⟨(hb.block _ (heap_lt h.box)).trans h.box, (hb.block _ (heap_lt h.res)).trans h.res, (hb.block _ (heap_lt h.flt)).trans h.flt, h.below.trans (hb.mono h.below.size)⟩
theorem PLe.from_ {w0 : World} {n : Node} {A : Option Addr} {c : Nat} {K : Option Addr} {d : Nat} {wr w' : World} {X : Nat} (h : PLe w0 n A c K d wr) (hb : Below X wr w') (hX : w0.heap.size + 3 ≤ X) : PLe w0 n A c K d w' :=
  ⟨(hb.block _ (by omega)).trans h.box, (hb.block _ (by omega)).trans h.res, (hb.block _ (by omega)).trans h.flt, ⟨hb.os.trans h.below.os, hb.tape.trans h.below.tape, hb.output.trans h.below.output, Nat.le_trans h.below.size hb.size, fun k hk => (hb.block k (by omega)).trans (h.below.block k hk)⟩⟩

theorem seven_heap {W : World} {b : Nat} {t : TypeId} {c0 c1 c2 c3 c4 c5 c6 : Value} (h : W.heap[b]? = some (.cells #[c0, c1, c2, c3, c4, c5, c6] t (0, 0))) (v0 v1 v2 v3 v4 v5 v6 : Value) :
    (((((((W.setCell ⟨b, 0, none⟩ v0).setCell ⟨b, 1, none⟩ v1).setCell ⟨b, 2, none⟩ v2).setCell ⟨b, 3, none⟩ v3).setCell ⟨b, 4, none⟩ v4).setCell ⟨b, 5, none⟩ v5).setCell ⟨b, 6, none⟩ v6).heap[b]? = some (.cells #[v0, v1, v2, v3, v4, v5, v6] t (0, 0)) := by
  have a1 : _ = some (Obj.cells #[v0, c1, c2, c3, c4, c5, c6] t (0, 0)) := heap_set (i := 0) h v0
  have a2 : _ = some (Obj.cells #[v0, v1, c2, c3, c4, c5, c6] t (0, 0)) := heap_set (i := 1) a1 v1
  have a3 : _ = some (Obj.cells #[v0, v1, v2, c3, c4, c5, c6] t (0, 0)) := heap_set (i := 2) a2 v2
  have a4 : _ = some (Obj.cells #[v0, v1, v2, v3, c4, c5, c6] t (0, 0)) := heap_set (i := 3) a3 v3
  have a5 : _ = some (Obj.cells #[v0, v1, v2, v3, v4, c5, c6] t (0, 0)) := heap_set (i := 4) a4 v4
  have a6 : _ = some (Obj.cells #[v0, v1, v2, v3, v4, v5, c6] t (0, 0)) := heap_set (i := 5) a5 v5
  exact heap_set (i := 6) a6 v6
theorem seven_other (W : World) {b k : Nat} (h : k ≠ b) (v0 v1 v2 v3 v4 v5 v6 : Value) : (((((((W.setCell ⟨b, 0, none⟩ v0).setCell ⟨b, 1, none⟩ v1).setCell ⟨b, 2, none⟩ v2).setCell ⟨b, 3, none⟩ v3).setCell ⟨b, 4, none⟩ v4).setCell ⟨b, 5, none⟩ v5).setCell ⟨b, 6, none⟩ v6).heap[k]? = W.heap[k]? :=
  ((((((Below.heap_setCell _ ⟨b, 6, none⟩ _ k h).trans (Below.heap_setCell _ ⟨b, 5, none⟩ _ k h)).trans (Below.heap_setCell _ ⟨b, 4, none⟩ _ k h)).trans (Below.heap_setCell _ ⟨b, 3, none⟩ _ k h)).trans (Below.heap_setCell _ ⟨b, 2, none⟩ _ k h)).trans (Below.heap_setCell _ ⟨b, 1, none⟩ _ k h)).trans (Below.heap_setCell _ ⟨b, 0, none⟩ _ k h)
theorem two_heap {W : World} {f : Nat} {t : TypeId} {c0 c1 : Value} (h : W.heap[f]? = some (.cells #[c0, c1] t (0, 0))) (u0 u1 : Value) : ((W.setCell ⟨f, 0, none⟩ u0).setCell ⟨f, 1, none⟩ u1).heap[f]? = some (.cells #[u0, u1] t (0, 0)) := heap_set (i := 1) (heap_set (i := 0) h u0) u1
theorem two_other (W : World) {f k : Nat} (h : k ≠ f) (u0 u1 : Value) : ((W.setCell ⟨f, 0, none⟩ u0).setCell ⟨f, 1, none⟩ u1).heap[k]? = W.heap[k]? :=
  (Below.heap_setCell _ ⟨f, 1, none⟩ _ k h).trans (Below.heap_setCell _ ⟨f, 0, none⟩ _ k h)
theorem addF_err {g : Scope} {acc : List Att} {a : Att} {e : Int × Nat} (h : addF g acc a = .error e) : e.2 ≠ 0 := by
  unfold addF at h
  split at h
  · cases h
  · split at h
    · cases h; simp
    · split at h
      · cases h; simp
      · cases h
theorem nineA {B : Nat} {w W : World} {b f : Nat} {t s : TypeId} {c0 c1 c2 c3 c4 c5 c6 d0 d1 : Value} (h1 : W.heap[b]? = some (.cells #[c0, c1, c2, c3, c4, c5, c6] t (0, 0))) (h2 : W.heap[f]? = some (.cells #[d0, d1] s (0, 0))) (hne : b ≠ f) (h : Below B w W) (hb : B ≤ b) (hf : B ≤ f) (v0 v1 v2 v3 v4 v5 v6 u0 u1 : Value) :
    (((((((((W.setCell ⟨b, 0, none⟩ v0).setCell ⟨b, 1, none⟩ v1).setCell ⟨b, 2, none⟩ v2).setCell ⟨b, 3, none⟩ v3).setCell ⟨b, 4, none⟩ v4).setCell ⟨b, 5, none⟩ v5).setCell ⟨b, 6, none⟩ v6).setCell ⟨f, 0, none⟩ u0).setCell ⟨f, 1, none⟩ u1).drew.heap[b]? = some (.cells #[v0, v1, v2, v3, v4, v5, v6] t (0, 0)) ∧ (((((((((W.setCell ⟨b, 0, none⟩ v0).setCell ⟨b, 1, none⟩ v1).setCell ⟨b, 2, none⟩ v2).setCell ⟨b, 3, none⟩ v3).setCell ⟨b, 4, none⟩ v4).setCell ⟨b, 5, none⟩ v5).setCell ⟨b, 6, none⟩ v6).setCell ⟨f, 0, none⟩ u0).setCell ⟨f, 1, none⟩ u1).drew.heap[f]? = some (.cells #[u0, u1] s (0, 0)) ∧ Below B w (((((((((W.setCell ⟨b, 0, none⟩ v0).setCell ⟨b, 1, none⟩ v1).setCell ⟨b, 2, none⟩ v2).setCell ⟨b, 3, none⟩ v3).setCell ⟨b, 4, none⟩ v4).setCell ⟨b, 5, none⟩ v5).setCell ⟨b, 6, none⟩ v6).setCell ⟨f, 0, none⟩ u0).setCell ⟨f, 1, none⟩ u1).drew := by
  refine ⟨?_, ?_, ?_⟩
  · rw [drew_heap]; exact (two_other _ hne _ _).trans (seven_heap h1 _ _ _ _ _ _ _)
  · rw [drew_heap]; exact two_heap ((seven_other _ (Ne.symm hne) _ _ _ _ _ _ _).trans h2) _ _
  · exact (((((((((h.setCell (p := ⟨b, 0, none⟩) hb _).setCell (p := ⟨b, 1, none⟩) hb _).setCell (p := ⟨b, 2, none⟩) hb _).setCell (p := ⟨b, 3, none⟩) hb _).setCell (p := ⟨b, 4, none⟩) hb _).setCell (p := ⟨b, 5, none⟩) hb _).setCell (p := ⟨b, 6, none⟩) hb _).setCell (p := ⟨f, 0, none⟩) hf _).setCell (p := ⟨f, 1, none⟩) hf _).drew
theorem nineB {B : Nat} {w W : World} {b f : Nat} {t s : TypeId} {c0 c1 c2 c3 c4 c5 c6 d0 d1 : Value} (h1 : W.heap[b]? = some (.cells #[c0, c1, c2, c3, c4, c5, c6] t (0, 0))) (h2 : W.heap[f]? = some (.cells #[d0, d1] s (0, 0))) (hne : b ≠ f) (h : Below B w W) (hb : B ≤ b) (hf : B ≤ f) (v0 v1 v2 v3 v4 v5 v6 u0 u1 : Value) :
    (((((((((W.setCell ⟨f, 0, none⟩ u0).setCell ⟨f, 1, none⟩ u1).setCell ⟨b, 0, none⟩ v0).setCell ⟨b, 1, none⟩ v1).setCell ⟨b, 2, none⟩ v2).setCell ⟨b, 3, none⟩ v3).setCell ⟨b, 4, none⟩ v4).setCell ⟨b, 5, none⟩ v5).setCell ⟨b, 6, none⟩ v6).drew.heap[b]? = some (.cells #[v0, v1, v2, v3, v4, v5, v6] t (0, 0)) ∧ (((((((((W.setCell ⟨f, 0, none⟩ u0).setCell ⟨f, 1, none⟩ u1).setCell ⟨b, 0, none⟩ v0).setCell ⟨b, 1, none⟩ v1).setCell ⟨b, 2, none⟩ v2).setCell ⟨b, 3, none⟩ v3).setCell ⟨b, 4, none⟩ v4).setCell ⟨b, 5, none⟩ v5).setCell ⟨b, 6, none⟩ v6).drew.heap[f]? = some (.cells #[u0, u1] s (0, 0)) ∧ Below B w (((((((((W.setCell ⟨f, 0, none⟩ u0).setCell ⟨f, 1, none⟩ u1).setCell ⟨b, 0, none⟩ v0).setCell ⟨b, 1, none⟩ v1).setCell ⟨b, 2, none⟩ v2).setCell ⟨b, 3, none⟩ v3).setCell ⟨b, 4, none⟩ v4).setCell ⟨b, 5, none⟩ v5).setCell ⟨b, 6, none⟩ v6).drew := by
  refine ⟨?_, ?_, ?_⟩
  · rw [drew_heap]; exact seven_heap ((two_other _ hne _ _).trans h1) _ _ _ _ _ _ _
  · rw [drew_heap]; exact (seven_other _ (Ne.symm hne) _ _ _ _ _ _ _).trans (two_heap h2 _ _)
  · exact (((((((((h.setCell (p := ⟨f, 0, none⟩) hf _).setCell (p := ⟨f, 1, none⟩) hf _).setCell (p := ⟨b, 0, none⟩) hb _).setCell (p := ⟨b, 1, none⟩) hb _).setCell (p := ⟨b, 2, none⟩) hb _).setCell (p := ⟨b, 3, none⟩) hb _).setCell (p := ⟨b, 4, none⟩) hb _).setCell (p := ⟨b, 5, none⟩) hb _).setCell (p := ⟨b, 6, none⟩) hb _).drew

/-- Where resolve stands in its second loop. -/
structure QLo (w0 : World) (n : Node) (A : Option Addr) (c : Nat) (K : Option Addr) (d : Nat) (sb ob nb X : Nat) (g' : Scope) (sp q : Bytes) (MA : Option Addr) (mc : Nat) (ats : List Att) (KA : Option Addr) (kc : Nat) (ks : List Node) (wr : World) : Prop where
  ple : PLe w0 n A c K d wr
  flt : wr.heap[sb + 1]? = some (.cells zFlt 52 (0, 0))
  sc : wr.heap[sb]? = some (.cells #[.map (some nb)] 55 (0, 0))
  map : ScopeM wr nb g'
  m : wr.heap[ob + 1]? = some (.cells #[.int .i64 0, .string (S sp), .string (S q), .slice MA ats.length mc, .slice KA ks.length kc, .string ⟨#[]⟩, .int .i64 n.pos] 29 (0, 0))
  atts : AttsP wr (fun b => ob + 2 ≤ b ∧ b < X ∧ Loose wr b) (.slice MA ats.length mc) ats
  row : ElRow nodeE wr X (fun b => (X ≤ b ∧ b < wr.heap.size ∧ Loose wr b) ∧ (Value.slice KA ks.length kc).ownBlock ≠ some b) (.slice KA ks.length kc) ks
  lt : (w0.heap.size + 3 ≤ nb ∧ nb < sb) ∧ (sb + 2 ≤ ob ∧ ob + 2 ≤ X) ∧ X ≤ wr.heap.size
section
variable {w0 : World} {n : Node} {A : Option Addr} {c : Nat} {K : Option Addr} {d : Nat} {sb ob nb X : Nat} {g' : Scope} {sp q : Bytes} {MA : Option Addr} {mc : Nat} {ats : List Att} {KA : Option Addr} {kc : Nat} {ks : List Node} {wr w' : World}
theorem QLo.next (h : QLo w0 n A c K d sb ob nb X g' sp q MA mc ats KA kc ks wr) (hb : Below wr.heap.size wr w') : QLo w0 n A c K d sb ob nb X g' sp q MA mc ats KA kc ks w' :=
  have hl := h.lt
  ⟨h.ple.next hb, (hb.block _ (heap_lt h.flt)).trans h.flt, (hb.block _ (heap_lt h.sc)).trans h.sc, h.map.below hb, (hb.block _ (heap_lt h.m)).trans h.m, h.atts.keep (fun k hk => hb.block k (by omega)) (fun k hk => ⟨hk.1, hk.2.1, hk.2.2.keep (hb.block k (by omega))⟩),
    (h.row.below nodeE_ok hb (fun k hk => hk.1.2.1)).more nodeE_ok (fun k hk => ⟨⟨hk.1.1, Nat.lt_of_lt_of_le hk.1.2.1 hb.size, hk.1.2.2.keep (hb.block k hk.1.2.1)⟩, hk.2⟩), hl.1, hl.2.1, Nat.le_trans hl.2.2 hb.size⟩
/-- The fault's variable is stored to. -/
theorem QLo.fault (h : QLo w0 n A c K d sb ob nb X g' sp q MA mc ats KA kc ks wr) (hu : Upd (sb + 1) wr w') (hz : w'.heap.size = wr.heap.size) (hf : w'.heap[sb + 1]? = some (.cells zFlt 52 (0, 0))) : QLo w0 n A c K d sb ob nb X g' sp q MA mc ats KA kc ks w' :=
  have hl := h.lt
  have hk : ∀ b, b < wr.heap.size → b ≠ sb + 1 → w'.heap[b]? = wr.heap[b]? := hu.block
  ⟨⟨(hk _ (heap_lt h.ple.box) (by omega)).trans h.ple.box, (hk _ (heap_lt h.ple.res) (by omega)).trans h.ple.res, (hk _ (heap_lt h.ple.flt) (by omega)).trans h.ple.flt, h.ple.below.trans (hu.below (by omega) h.ple.below.size)⟩, hf, (hk _ (heap_lt h.sc) (by omega)).trans h.sc, h.map.keep (hk _ h.map.lt (by omega)), (hk _ (heap_lt h.m) (by omega)).trans h.m,
    h.atts.keep (fun b hb => hk b (by omega) (by omega)) (fun b hb => ⟨hb.1, hb.2.1, hb.2.2.keep (hk b (by omega) (by omega))⟩), (h.row.heap nodeE_ok (fun b hb => hk b (h.row.lt b hb).2 (by have := h.row.lt b hb; omega)) (fun b hb => hk b hb.1.2.1 (by omega))).more nodeE_ok (fun b hb => ⟨⟨hb.1.1, by rw [hz]; exact hb.1.2.1, hb.1.2.2.keep (hk b hb.1.2.1 (by omega))⟩, hb.2⟩), hl.1, hl.2.1, by rw [hz]; exact hl.2.2⟩
/-- A kid has been appended and stored. -/
theorem QLo.put {g8 c8 : Nat} {k' : Node} (h : QLo w0 n A c K d sb ob nb X g' sp q MA mc ats KA kc ks wr) (hat : (Value.slice KA ks.length kc).ownBlock = some g8 ∨ wr.heap.size ≤ g8)
    (hr : ElRow nodeE w' X (fun b => (X ≤ b ∧ b < wr.heap.size ∧ Loose wr b) ∧ (Value.slice KA ks.length kc).ownBlock ≠ some b) (.slice (some ⟨g8, 0, none⟩) (ks.length + 1) c8) (ks ++ [k']))
    (hm : w'.heap[ob + 1]? = some (.cells #[.int .i64 0, .string (S sp), .string (S q), .slice MA ats.length mc, .slice (some ⟨g8, 0, none⟩) (ks.length + 1) c8, .string ⟨#[]⟩, .int .i64 n.pos] 29 (0, 0)))
    (hk : ∀ b, b < wr.heap.size → b ≠ ob + 1 → (Value.slice KA ks.length kc).ownBlock ≠ some b → w'.heap[b]? = wr.heap[b]?) (ho : w'.os = wr.os) (ht : w'.tape = wr.tape) (hu : w'.output = wr.output) (hz : wr.heap.size ≤ w'.heap.size) :
    QLo w0 n A c K d sb ob nb X g' sp q MA mc ats (some ⟨g8, 0, none⟩) c8 (ks ++ [k']) w' := by
  have hl := h.lt
  have hlen : (ks ++ [k']).length = ks.length + 1 := by simp
  have hown : ∀ b, b < X → (Value.slice KA ks.length kc).ownBlock ≠ some b := fun b hb e => by have := h.row.lt b e; omega
  have hk2 : ∀ b, b < X → b ≠ ob + 1 → w'.heap[b]? = wr.heap[b]? := fun b hb hne => hk b (by omega) hne (hown b hb)
  refine ⟨⟨(hk2 _ (by omega) (by omega)).trans h.ple.box, (hk2 _ (by omega) (by omega)).trans h.ple.res, (hk2 _ (by omega) (by omega)).trans h.ple.flt, ⟨ho.trans h.ple.below.os, ht.trans h.ple.below.tape, hu.trans h.ple.below.output, Nat.le_trans h.ple.below.size hz, fun b hb => (hk2 b (by omega) (by omega)).trans (h.ple.below.block b hb)⟩⟩,
    (hk2 _ (by omega) (by omega)).trans h.flt, (hk2 _ (by omega) (by omega)).trans h.sc, h.map.keep (hk2 _ (by omega) (by omega)), by rw [hlen]; exact hm, h.atts.keep (fun b hb => hk2 b (by omega) (by omega)) (fun b hb => ⟨hb.1, hb.2.1, hb.2.2.keep (hk2 b (by omega) (by omega))⟩), ?_, hl.1, hl.2.1, by omega⟩
  rw [hlen]
  refine hr.more nodeE_ok (fun b hb => ⟨⟨hb.1.1, by omega, hb.1.2.2.keep (hk b hb.1.2.1 (by omega) hb.2)⟩, fun e => ?_⟩)
  have e2 : g8 = b := by simpa [Value.ownBlock] using e
  rcases hat with h9 | h9
  · exact hb.2 (by rw [h9, e2])
  · omega
end

set_option maxHeartbeats 4000000 in
set_option maxRecDepth 100000 in
theorem resolve_any (m : Nat) : ∀ (n : Node) (v : Value) (mb : Nat) (g : Scope) (w : World), nsz n ≤ m → Clean n → full n ≤ 1000000000 → Tabs w → ScopeM w mb g → NodeV w w.heap.size n v →
    Calls Tryd.prog 26 #[.map (some mb), v] w fun e w' => ResP w w' (resN g n) e ∧ Below w.heap.size w w' := by
  induction m with
  | zero => intro n v mb g w h; cases n; rw [nsz] at h; omega
  | succ m ih =>
    intro n v mb g w hm hcl hs hT hg hv
    obtain ⟨R, hR⟩ : ∃ R, resN g n = R := ⟨_, rfl⟩
    rw [hR]
    rw [resN_eq, headF_eq] at hR
    have hen := fun (W : World) (hW : Below w.heap.size w W) => enter_any n v mb g W hs (hT.next hW) (hg.keep (hW.block mb hg.lt)) (hv.keep hW.block hW.size)
    obtain ⟨A, c, K, d, rfl, ha, hk, hc, hd⟩ := hv.open_
    have hsz := full_form n
    have hal := attsF_len n.attrs
    have hkl := fullL_len n.kids
    have L0 := Lib.hid (PLe.new w n A c K d)
    have hr0 := range_of_heap (cs := [_, _, _, _, _, _, _]) L0.out.box
    have HC := Lib.hid (hen _ L0.out.below)
    have HT := Lib.hid hT
    clear hv hen hT hg
    cases hh : enterF g n with
    | error e1 =>
      have he := enterF_err hh
      rw [hh] at hR
      have HC2 := Lib.hid (hh ▸ HC.out)
      simp only at hR
      have HRR : Hid (R = .error e1) := hR.symm
      have t1 : ((e1.2 : Int) == 0) = false := by rw [beq_eq_false_iff_ne]; omega
      have t2 : ((e1.2 : Int) != 0) = true := by rw [bne, t1]; rfl
      clear hR hh he HC ha hk ih
      go_enter Tryd.func26, Tryd.ntmps26
      go_wp2_with (with_reducible refine gate ?_; refine wp_load_node rfl _ rfl w.heap.size 0 rfl _ rfl hr0 ?_)
      refine (HC2.out).mono ?_
      rintro e w1 ⟨rfl, hb1⟩
      have L1 := Lib.hid (L0.out.next hb1)
      clear hb1 hr0 L0
      have F2 := heap_alloc_new (w1.alloc (.cells #[.map none] 55)) (.cells #[.int .i64 e1.1, .int .i64 e1.2] 52)
      have L2 := Lib.hid (L1.out.next (((Below.refl _ w1).alloc (Nat.le_refl _) (.cells #[.map none] 55)).alloc (by simp) (.cells #[.int .i64 e1.1, .int .i64 e1.2] 52)))
      have hz1 : w.heap.size + 3 ≤ w1.heap.size := heap_lt L1.out.flt
      rw [World.size_alloc] at F2
      go_wp2_with fail
      generalize (w1.alloc (.cells #[.map none] 55)).alloc (.cells #[.int .i64 e1.1, .int .i64 e1.2] 52) = W2 at *
      generalize w1.heap.size = sb at *
      obtain ⟨f0, f1⟩ := cells2 F2
      obtain ⟨s0, s1, s2, s3, s4, s5, s6⟩ := cells7 L2.out.res
      obtain ⟨r0, r1⟩ := cells2 L2.out.flt
      have hfr : ∀ i, W2.frozen? ⟨w.heap.size + 1, i, none⟩ = false := Lib.frozen_of_heap L2.out.res
      have hfq : ∀ i, W2.frozen? ⟨w.heap.size + 1 + 1, i, none⟩ = false := Lib.frozen_of_heap L2.out.flt
      have n1 : ¬ (w.heap.size + 1 = sb + 1) := by omega
      have n2 : ¬ (sb + 1 = w.heap.size + 1) := by omega
      have n3 : ¬ (w.heap.size + 1 + 1 = sb + 1) := by omega
      have n4 : ¬ (sb + 1 = w.heap.size + 1 + 1) := by omega
      have n5 : ¬ (w.heap.size = sb) := by omega
      have n6 : ¬ (sb = w.heap.size) := by omega
      have n7 : ¬ (w.heap.size + 1 = sb) := by omega
      have n8 : ¬ (sb = w.heap.size + 1) := by omega
      go_region
      all_goals
        go_wp2_with fail
        first
          | (have hN := nineA L2.out.res L2.out.flt (by omega) L2.out.below (show w.heap.size ≤ w.heap.size + 1 by omega) (show w.heap.size ≤ w.heap.size + 1 + 1 by omega) (.int .i64 0) (.string ⟨#[]⟩) (.string ⟨#[]⟩) (.slice none 0 0) (.slice none 0 0) (.string ⟨#[]⟩) (.int .i64 0) (.int .i64 e1.1) (.int .i64 e1.2)
             refine bodyPost_ret (v := .tuple #[.agg _, .agg _]) (res_cells2 Tryd.results26 _ _ (w.heap.size + 1) (w.heap.size + 1 + 1) rfl rfl 29 52 _ _ hN.1 hN.2.1 Tryd.underlying29 rfl nodeSize Tryd.underlying52 rfl faultSize) rfl ⟨?_, hN.2.2⟩
             rw [HRR.out]; rfl)
          | (have hN := nineB L2.out.res L2.out.flt (by omega) L2.out.below (show w.heap.size ≤ w.heap.size + 1 by omega) (show w.heap.size ≤ w.heap.size + 1 + 1 by omega) (.int .i64 0) (.string ⟨#[]⟩) (.string ⟨#[]⟩) (.slice none 0 0) (.slice none 0 0) (.string ⟨#[]⟩) (.int .i64 0) (.int .i64 e1.1) (.int .i64 e1.2)
             refine bodyPost_ret (v := .tuple #[.agg _, .agg _]) (res_cells2 Tryd.results26 _ _ (w.heap.size + 1) (w.heap.size + 1 + 1) rfl rfl 29 52 _ _ hN.1 hN.2.1 Tryd.underlying29 rfl nodeSize Tryd.underlying52 rfl faultSize) rfl ⟨?_, hN.2.2⟩
             rw [HRR.out]; rfl)
    | ok g' =>
      rw [hh] at hR
      have HC2 := Lib.hid (hh ▸ HC.out)
      simp only at hR
      have hsps : ∀ a ∈ n.attrs, splitF a.name ≠ none := by
        unfold enterF at hh
        split at hh
        · cases hh
        · split at hh
          · cases hh
          · exact enterL_split hh
      have csp := fun W (hW : Tabs W) => split_any n.name W hW (by omega)
      generalize splR n.name = T at *
      obtain ⟨p, q, okk⟩ := T
      simp only at hR csp
      have HR := Lib.hid hR
      have HSPS := Lib.hid hsps
      have CSP := Lib.hid csp
      clear hR hh HC hsps csp
      go_enter Tryd.func26, Tryd.ntmps26
      go_wp2_with (with_reducible refine gate ?_; refine wp_load_node rfl _ rfl w.heap.size 0 rfl _ rfl hr0 ?_)
      refine (HC2.out).mono ?_
      rintro e w1 ⟨⟨nb, rfl, hnb, hsc⟩, hb1⟩
      have L1 := Lib.hid (L0.out.next hb1)
      have hz1 : w.heap.size + 3 ≤ w1.heap.size := heap_lt L1.out.flt
      have hbb := ((Below.refl _ w1).alloc (Nat.le_refl _) (.cells #[.map (some nb)] 55)).alloc (by simp) (.cells zFlt 52)
      have L2 := Lib.hid (L1.out.next hbb)
      have G2 := Lib.hid (hsc.below hbb)
      have hnl := hsc.lt
      have SC2 := Lib.hid (show ((w1.alloc (.cells #[.map (some nb)] 55)).alloc (.cells zFlt 52)).heap[w1.heap.size]? = some (.cells #[.map (some nb)] 55 (0, 0)) from alloc_old (heap_alloc_new w1 _))
      have F2 := Lib.hid (show ((w1.alloc (.cells #[.map (some nb)] 55)).alloc (.cells zFlt 52)).heap[w1.heap.size + 1]? = some (.cells zFlt 52 (0, 0)) from alloc_at (by simp))
      have hnb3 : w.heap.size + 3 ≤ nb := by simpa using hnb
      have hbx2 := (cells7 L2.out.box).2.2.1
      clear hb1 hr0 L0 HC2 hnb hsc hbb L1
      go_wp2_with fail
      generalize (w1.alloc (.cells #[.map (some nb)] 55)).alloc (.cells zFlt 52) = W2 at *
      generalize w1.heap.size = sb at *
      refine (CSP.out _ (HT.out.next L2.out.below)).mono ?_
      rintro e w3 ⟨rfl, hb3⟩
      have L3 := Lib.hid (L2.out.next hb3)
      have G3 := Lib.hid (G2.out.below hb3)
      have SC3 := Lib.hid ((hb3.block _ (heap_lt SC2.out)).trans SC2.out)
      have F3 := Lib.hid ((hb3.block _ (heap_lt F2.out)).trans F2.out)
      have hz3 := heap_lt F3.out
      obtain ⟨l3, hml3, hll3⟩ := G3.out
      have hlk := hml3.run_lookup_ok Tryd.underlying55 Tryd.underlying9 (zeroStr w3) p
      rw [hll3] at hlk
      have hsc3 : w3.cell? ⟨sb, 0, none⟩ = some (.map (some nb)) := by rw [Lib.cell_of_heap SC3.out]; rfl
      clear hb3 L2 G2 SC2 F2 hbx2 CSP hml3 hll3
      cases hg : g' p with
      | none =>
        have hr := HR.out
        rw [hg] at hr hlk
        simp only [Option.map_none, Option.getD_none, Option.isSome_none] at hlk
        have HRR : Hid (R = .error (n.pos, 13)) := hr.symm
        have L5 := Lib.hid (L3.out.next ((Below.refl _ w3).alloc (Nat.le_refl _) (.cells #[.bool false] 4)))
        have hz3b : w.heap.size + 3 ≤ w3.heap.size := by omega
        clear hr hg ih ha hk L3 G3 SC3 F3
        go_wp2_with fail
        generalize w3.alloc (.cells #[.bool false] 4) = W5 at *
        generalize w3.heap.size = ob at *
        obtain ⟨s0, s1, s2, s3, s4, s5, s6⟩ := cells7 L5.out.res
        obtain ⟨r0, r1⟩ := cells2 L5.out.flt
        obtain ⟨b0, b1, b2, b3, b4, b5, b6⟩ := box_cells L5.out.box
        have hfr : ∀ i, W5.frozen? ⟨w.heap.size + 1, i, none⟩ = false := Lib.frozen_of_heap L5.out.res
        have hfq : ∀ i, W5.frozen? ⟨w.heap.size + 1 + 1, i, none⟩ = false := Lib.frozen_of_heap L5.out.flt
        go_region
        all_goals
          go_wp2_with fail
          first
            | (have hN := nineA L5.out.res L5.out.flt (by omega) L5.out.below (show w.heap.size ≤ w.heap.size + 1 by omega) (show w.heap.size ≤ w.heap.size + 1 + 1 by omega) (.int .i64 0) (.string ⟨#[]⟩) (.string ⟨#[]⟩) (.slice none 0 0) (.slice none 0 0) (.string ⟨#[]⟩) (.int .i64 0) (.int .i64 n.pos) (.int .i64 13)
               refine bodyPost_ret (v := .tuple #[.agg _, .agg _]) (res_cells2 Tryd.results26 _ _ (w.heap.size + 1) (w.heap.size + 1 + 1) rfl rfl 29 52 _ _ hN.1 hN.2.1 Tryd.underlying29 rfl nodeSize Tryd.underlying52 rfl faultSize) rfl ⟨?_, hN.2.2⟩
               rw [HRR.out]; rfl)
            | (have hN := nineB L5.out.res L5.out.flt (by omega) L5.out.below (show w.heap.size ≤ w.heap.size + 1 by omega) (show w.heap.size ≤ w.heap.size + 1 + 1 by omega) (.int .i64 0) (.string ⟨#[]⟩) (.string ⟨#[]⟩) (.slice none 0 0) (.slice none 0 0) (.string ⟨#[]⟩) (.int .i64 0) (.int .i64 n.pos) (.int .i64 13)
               refine bodyPost_ret (v := .tuple #[.agg _, .agg _]) (res_cells2 Tryd.results26 _ _ (w.heap.size + 1) (w.heap.size + 1 + 1) rfl rfl 29 52 _ _ hN.1 hN.2.1 Tryd.underlying29 rfl nodeSize Tryd.underlying52 rfl faultSize) rfl ⟨?_, hN.2.2⟩
               rw [HRR.out]; rfl)
      | some sp =>
        have hr := HR.out
        rw [hg] at hr hlk
        simp only [Option.map_some, Option.getD_some, Option.isSome_some] at hlk
        simp only at hr
        obtain ⟨F, hF⟩ : ∃ F, attrsL g' [] n.attrs = F := ⟨_, rfl⟩
        rw [hF] at hr
        have HF := Lib.hid hF
        have HRF := Lib.hid hr
        have hbb := ((Below.refl _ w3).alloc (Nat.le_refl _) (.cells #[.bool true] 4)).alloc (by simp) (.cells #[.int .i64 0, .string (S sp), .string (S q), .slice none 0 0, .slice none 0 0, .string ⟨#[]⟩, .int .i64 n.pos] 29)
        have L5 := Lib.hid (L3.out.next hbb)
        have F5 := Lib.hid ((hbb.block _ (heap_lt F3.out)).trans F3.out)
        have A5 : Hid (AddS ((w3.alloc (.cells #[.bool true] 4)).alloc (.cells #[.int .i64 0, .string (S sp), .string (S q), .slice none 0 0, .slice none 0 0, .string ⟨#[]⟩, .int .i64 n.pos] 29)) sb w3.heap.size nb g' (S sp) (S q) n.pos none 0 []) :=
          ⟨(hbb.block _ (heap_lt SC3.out)).trans SC3.out, ⟨true, alloc_old (heap_alloc_new w3 _)⟩, alloc_at (by simp), G3.out.below hbb, AttRow.nil _ _, hnl, by omega⟩
        have hz3b : sb + 2 ≤ w3.heap.size := by omega
        obtain ⟨b0, b1, b2, b3, b4, b5, b6⟩ := box_cells L3.out.box
        obtain ⟨u0, u1, u2, u3, u4, u5, u6⟩ := box_cells L5.out.box
        have b6' : (w3.alloc (.cells #[.bool true] 4)).cell? ⟨w.heap.size, 6, none⟩ = some (.int .i64 n.pos) := (box_cells (alloc_old (o := .cells #[.bool true] 4) L3.out.box)).2.2.2.2.2.2
        have hmf : ∀ (fn : Fn) (first cap : Array Value) (w : World), (Instr.makeFunc fn first cap).run Tryd.prog w = .ok (.func fn first cap) w := fun _ _ _ _ => rfl
        clear hr hg hF HR hbb G3 SC3 F3 L3
        go_wp2_with fail
        generalize (w3.alloc (.cells #[.bool true] 4)).alloc (.cells #[.int .i64 0, .string (S sp), .string (S q), .slice none 0 0, .slice none 0 0, .string ⟨#[]⟩, .int .i64 n.pos] 29) = W5 at *
        generalize w3.heap.size = ob at *
        have HA := Lib.hid ha
        have HK := Lib.hid hk
        have hob3 : w.heap.size + 3 ≤ ob := by omega
        clear ha hk b0 b1 b2 b3 b4 b5 b6 u0 u1 u2 u4 u5 u6 b6' hlk hsc3 hmf
        go_loopw [59] (fun i59 wr => ∃ (i : Nat) (ats : List Att) (MA : Option Addr) (mc : Nat), i ≤ n.attrs.length ∧ i59 = .int .i64 i ∧ attrsL g' ats (n.attrs.drop i) = F ∧ ats.length ≤ i ∧ AddS wr sb ob nb g' (S sp) (S q) n.pos MA mc ats ∧ PLe w n A c K d wr ∧ wr.heap[sb + 1]? = some (.cells zFlt 52 (0, 0))) (fun i59 _ => n.attrs.length - (intOf i59).toNat)
        case atStart => exact ⟨0, [], none, 0, Nat.zero_le _, rfl, HF.out, by simp, A5.out, L5.out, F5.out⟩
        case round =>
          clear A5 L5 F5 HF u3
          obtain ⟨i, ats, MA, mc, hi, rfl, hat, hal2, hadd, hlo, hf⟩ := hrel
          have HADD := Lib.hid hadd
          have HLO := Lib.hid hlo
          have HFF := Lib.hid hf
          have hobz := heap_lt hadd.m
          clear hadd hlo hf
          by_cases hlt : i < n.attrs.length
          · have hlt' : (i : Int) < n.attrs.length := by omega
            obtain ⟨ab, off, rfl, hab, hra⟩ := HA.out.at_ hlt
            have hra := rangeAt_keep hra (HLO.out.below.block ab hab)
            have haf := attF_in8 hlt
            have hspa := HSPS.out n.attrs[i] (List.getElem_mem hlt)
            rw [List.drop_eq_getElem_cons hlt, attrsL_add] at hat
            unfold attF at haf
            generalize n.attrs[i] = a at *
            obtain ⟨asp, anm, avl, apos⟩ := a
            simp only at haf hspa
            have hbb := (Below.refl _ wr).alloc (Nat.le_refl _) (.cells #[.string (S asp), .string (S anm), .string (S avl), .int .i64 apos] 41)
            have hca := add_any ⟨asp, anm, avl, apos⟩ sb ob nb g' (S sp) (S q) n.pos MA mc ats _ ((HT.out.next HLO.out.below).next hbb) hspa (show anm.length ≤ 1000000000 by omega) (by omega) (HADD.out.next hbb)
            simp only at hca
            have L4 := Lib.hid (HLO.out.next hbb)
            have F4 := Lib.hid ((hbb.block _ (heap_lt HFF.out)).trans HFF.out)
            have hz4 : (wr.alloc (.cells #[.string (S asp), .string (S anm), .string (S avl), .int .i64 apos] 41)).heap.size = wr.heap.size + 1 := by simp
            have X4 := heap_alloc_new wr (.cells #[.string (S asp), .string (S anm), .string (S avl), .int .i64 apos] 41)
            have hr4 : (wr.alloc (.cells #[.string (S asp), .string (S anm), .string (S avl), .int .i64 apos] 41)).rangeAt wr.heap.size 0 (attCells ⟨asp, anm, avl, apos⟩) := range_of_heap X4
            have HRA := Lib.hid hra
            clear hra hbb hspa X4
            cases hadf : addF g' ats ⟨asp, anm, avl, apos⟩ with
            | error e2 =>
              have he := addF_err hadf
              rw [hadf] at hat hca
              simp only at hat
              have hr := HRF.out
              rw [← hat] at hr
              have HRR : Hid (R = .error e2) := hr.symm
              have t1 : ((e2.2 : Int) == 0) = false := by rw [beq_eq_false_iff_ne]; omega
              have t2 : ((e2.2 : Int) != 0) = true := by rw [bne, t1]; rfl
              have HCA := Lib.hid hca
              clear hat hca hr hadf he ih HK
              go_wp2_with (first
                | (with_reducible refine gate ?_; refine wp_load_att rfl _ rfl ab (off + i * 4) rfl ⟨asp, anm, avl, apos⟩ HRA.out ?_)
                | (with_reducible refine gate ?_; refine wp_load_att rfl _ rfl wr.heap.size 0 rfl ⟨asp, anm, avl, apos⟩ hr4 ?_))
              refine (HCA.out).mono ?_
              rintro e w5 ⟨rfl, hb5⟩
              have L5 := Lib.hid (L4.out.from_ hb5 hob3)
              have hz5 := hb5.size
              have L6 := Lib.hid (L5.out.next ((Below.refl _ w5).alloc (Nat.le_refl _) (.cells #[.int .i64 e2.1, .int .i64 e2.2] 52)))
              have F6 := heap_alloc_new w5 (.cells #[.int .i64 e2.1, .int .i64 e2.2] 52)
              have hz5b : w.heap.size + 3 ≤ w5.heap.size := by omega
              clear hb5 hr4
              go_wp2_with fail
              generalize w5.alloc (.cells #[.int .i64 e2.1, .int .i64 e2.2] 52) = W6 at *
              generalize w5.heap.size = fb at *
              obtain ⟨f0, f1⟩ := cells2 F6
              obtain ⟨s0, s1, s2, s3, s4, s5, s6⟩ := cells7 L6.out.res
              obtain ⟨r0, r1⟩ := cells2 L6.out.flt
              have hfr : ∀ i, W6.frozen? ⟨w.heap.size + 1, i, none⟩ = false := Lib.frozen_of_heap L6.out.res
              have hfq : ∀ i, W6.frozen? ⟨w.heap.size + 1 + 1, i, none⟩ = false := Lib.frozen_of_heap L6.out.flt
              have n1 : ¬ (w.heap.size + 1 = fb) := by omega
              have n2 : ¬ (fb = w.heap.size + 1) := by omega
              have n3 : ¬ (w.heap.size + 1 + 1 = fb) := by omega
              have n4 : ¬ (fb = w.heap.size + 1 + 1) := by omega
              have n5 : ¬ (w.heap.size + 2 = fb) := by omega
              have n6 : ¬ (fb = w.heap.size + 2) := by omega
              go_region
              all_goals
                go_wp2_with fail
                first
                  | (have hN := nineA L6.out.res L6.out.flt (by omega) L6.out.below (show w.heap.size ≤ w.heap.size + 1 by omega) (show w.heap.size ≤ w.heap.size + 1 + 1 by omega) (.int .i64 0) (.string ⟨#[]⟩) (.string ⟨#[]⟩) (.slice none 0 0) (.slice none 0 0) (.string ⟨#[]⟩) (.int .i64 0) (.int .i64 e2.1) (.int .i64 e2.2)
                     refine bodyPost_ret (v := .tuple #[.agg _, .agg _]) (res_cells2 Tryd.results26 _ _ (w.heap.size + 1) (w.heap.size + 1 + 1) rfl rfl 29 52 _ _ hN.1 hN.2.1 Tryd.underlying29 rfl nodeSize Tryd.underlying52 rfl faultSize) rfl ⟨?_, hN.2.2⟩
                     rw [HRR.out]; rfl)
                  | (have hN := nineB L6.out.res L6.out.flt (by omega) L6.out.below (show w.heap.size ≤ w.heap.size + 1 by omega) (show w.heap.size ≤ w.heap.size + 1 + 1 by omega) (.int .i64 0) (.string ⟨#[]⟩) (.string ⟨#[]⟩) (.slice none 0 0) (.slice none 0 0) (.string ⟨#[]⟩) (.int .i64 0) (.int .i64 e2.1) (.int .i64 e2.2)
                     refine bodyPost_ret (v := .tuple #[.agg _, .agg _]) (res_cells2 Tryd.results26 _ _ (w.heap.size + 1) (w.heap.size + 1 + 1) rfl rfl 29 52 _ _ hN.1 hN.2.1 Tryd.underlying29 rfl nodeSize Tryd.underlying52 rfl faultSize) rfl ⟨?_, hN.2.2⟩
                     rw [HRR.out]; rfl)
            | ok ats2 =>
              have hl2 := addF_len hadf
              rw [hadf] at hat hca
              simp only at hat
              have HAT := Lib.hid hat
              have HCA := Lib.hid hca
              clear hat hca hadf
              go_wp2_with (first
                | (with_reducible refine gate ?_; refine wp_load_att rfl _ rfl ab (off + i * 4) rfl ⟨asp, anm, avl, apos⟩ HRA.out ?_)
                | (with_reducible refine gate ?_; refine wp_load_att rfl _ rfl wr.heap.size 0 rfl ⟨asp, anm, avl, apos⟩ hr4 ?_))
              refine (HCA.out).mono ?_
              rintro e w5 ⟨⟨rfl, MA2, mc2, hadd5⟩, hb5⟩
              have L5 := Lib.hid (L4.out.from_ hb5 hob3)
              have F5 := Lib.hid ((hb5.block (sb + 1) (by omega)).trans F4.out)
              have A6 := Lib.hid (hadd5.next ((Below.refl _ w5).alloc (Nat.le_refl _) (.cells #[.int .i64 0, .int .i64 0] 52)))
              have L6 := Lib.hid (L5.out.next ((Below.refl _ w5).alloc (Nat.le_refl _) (.cells #[.int .i64 0, .int .i64 0] 52)))
              have F6 := Lib.hid (alloc_old (o := .cells #[.int .i64 0, .int .i64 0] 52) F5.out)
              clear hb5 hr4 hadd5
              go_wp2_with fail
              go_roundw
              case rel => exact ⟨i + 1, ats2, MA2, mc2, by omega, by go_num, HAT.out, by omega, A6.out, L6.out, F6.out⟩
              case measure => simp [intOf]; omega
          · have hil : i = n.attrs.length := by omega
            have hlt' : ¬ (i : Int) < n.attrs.length := by omega
            rw [hil, List.drop_length, attrsL] at hat
            have hr := HRF.out
            rw [← hat] at hr
            simp only at hr
            have hatl : ats.length ≤ n.attrs.length := by omega
            clear hat hil hlt hi HRF HA
            obtain ⟨b0, b1, b2, b3, b4, b5, b6⟩ := box_cells HLO.out.box
            go_wp2_with fail
            generalize hG : resL g' n.kids = G at *
            have HG := Lib.hid hG
            have HRG := Lib.hid hr
            have Q1 : Hid (QLo w n A c K d sb ob nb wr.heap.size g' sp q MA mc ats none 0 [] wr) := ⟨HLO.out, HFF.out, HADD.out.sc, HADD.out.map, HADD.out.m, HADD.out.row.attsP (fun k hk => ⟨(HADD.out.row.lt k hk).1, (HADD.out.row.lt k hk).2, ownsRow_loose HADD.out.row hk⟩), ElRow.nil _ _ _ _, ⟨hnb3, HADD.out.lt.1⟩, ⟨by omega, by omega⟩, Nat.le_refl _⟩
            clear hr hG b0 b1 b2 b3 b4 b5 b6 HLO HFF HADD hlt'
            generalize wr.heap.size = X at *
            go_loopw [75] (fun i75 wr => ∃ (i : Nat) (ks : List Node) (KA : Option Addr) (kc : Nat), i ≤ n.kids.length ∧ i75 = .int .i64 i ∧ ks.length = i ∧ (resL g' (n.kids.drop i)).map (ks ++ ·) = G ∧ QLo w n A c K d sb ob nb X g' sp q MA mc ats KA kc ks wr) (fun i75 _ => n.kids.length - (intOf i75).toNat)
            case atStart => exact ⟨0, [], none, 0, Nat.zero_le _, rfl, rfl, by rw [List.drop_zero, HG.out]; cases G <;> rfl, Q1.out⟩
            case round =>
              clear Q1 HG
              obtain ⟨i, ks, KA, kc, hi, rfl, hki, hres, hlo⟩ := hrel
              have hzl : ks.length < 1000000000 := by omega
              have HKI := Lib.hid hki
              have HLO := Lib.hid hlo
              have hlq := hlo.lt
              clear hki hlo
              by_cases hlt : i < n.kids.length
              · have hlt' : (i : Int) < n.kids.length := by omega
                obtain ⟨kb, off, cs, rfl, hkb, hkr, hkn⟩ := HK.out.at_ hlt
                have hkr := rangeAt_keep hkr (HLO.out.ple.below.block kb hkb)
                have hkn := NodeIn.keep HLO.out.ple.below.block (Nat.le_refl _) _ _ hkn
                have hck := hcl.kid (List.getElem_mem hlt)
                have hfk := fullL_mem (List.getElem_mem hlt)
                have hnk := nsz_get n hlt
                rw [List.drop_eq_getElem_cons hlt] at hres
                generalize n.kids[i] = k at *
                have HKN0 := Lib.hid hkn
                obtain ⟨NA, nc, NK, nd, rfl, _, _, _, _⟩ := hkn.open_
                have hbb := (Below.refl _ wr).alloc (Nat.le_refl _) (nodeBox k NA nc NK nd)
                have L4 := Lib.hid (HLO.out.next hbb)
                have X4 := Lib.hid (heap_alloc_new wr (nodeBox k NA nc NK nd))
                have hz4 : (wr.alloc (nodeBox k NA nc NK nd)).heap.size = wr.heap.size + 1 := by simp
                have hra4 := range_of_heap (cs := [.int .i64 k.kind, .string (S k.space), .string (S k.name), .slice NA k.attrs.length nc, .slice NK k.kids.length nd, .string (S k.text), .int .i64 k.pos]) X4.out
                have hcell4 := Lib.cell_of_heap X4.out (j := 0)
                have HKR := Lib.hid hkr
                have HCK := Lib.hid hck
                have hb4 : (wr.alloc (nodeBox k NA nc NK nd)).cell? ⟨wr.heap.size, 0, none⟩ = some (.int .i64 k.kind) := by rw [hcell4]; rfl
                clear hkn hkr hck hcell4
                by_cases hk0 : k.kind = 0
                · have t1 : (k.kind == 0) = true := by rw [hk0]; rfl
                  have hnv : NodeV (wr.alloc (nodeBox k NA nc NK nd)) (wr.alloc (nodeBox k NA nc NK nd)).heap.size k _ := ⟨_, rfl, NodeIn.keep (fun b hb => Below.heap_alloc _ _ _ (by have := HLO.out.ple.below.size; omega)) (by have := HLO.out.ple.below.size; omega) _ _ HKN0.out⟩
                  have hcall := ih k _ nb g' (wr.alloc (nodeBox k NA nc NK nd)) (by omega) HCK.out (by omega) ((HT.out.next HLO.out.ple.below).next hbb) L4.out.map hnv
                  have hsc4 : (wr.alloc (nodeBox k NA nc NK nd)).cell? ⟨sb, 0, none⟩ = some (.map (some nb)) := by rw [Lib.cell_of_heap L4.out.sc]; rfl
                  cases hrk : resN g' k with
                  | error e2 =>
                    have he := resN_err hrk
                    rw [hrk] at hcall
                    rw [resL_fail hk0 hrk] at hres
                    have hr := HRG.out
                    rw [← hres] at hr
                    have HRR : Hid (R = .error e2) := hr.symm
                    have t3 : ((e2.2 : Int) == 0) = false := by rw [beq_eq_false_iff_ne]; omega
                    have t4 : ((e2.2 : Int) != 0) = true := by rw [bne, t3]; rfl
                    have HCL := Lib.hid hcall
                    clear hcall hnv hrk hres hr he hk0 ih hbb
                    go_wp2_with (first
                      | (with_reducible refine gate ?_; refine wp_load_node rfl _ rfl kb (off + i * 7) rfl _ rfl HKR.out ?_)
                      | (with_reducible refine gate ?_; refine wp_load_node rfl _ rfl wr.heap.size 0 rfl _ rfl hra4 ?_))
                    refine HCL.out.mono ?_
                    rintro e w5 ⟨rfl, hb5⟩
                    have X5 := (hb5.block _ (by omega)).trans X4.out
                    have L5 := Lib.hid (L4.out.next hb5)
                    have hz5 := hb5.size
                    have HS : Hid (∀ w6, Upd wr.heap.size w5 w6 → PLe w n A c (some ⟨kb, off, none⟩) d w6 ∧ w6.heap[sb + 1]? = some (.cells zFlt 52 (0, 0))) := fun w6 hu6 => by
                      have h5 := L5.out
                      exact ⟨⟨(hu6.block _ (heap_lt h5.ple.box) (by omega)).trans h5.ple.box, (hu6.block _ (heap_lt h5.ple.res) (by omega)).trans h5.ple.res, (hu6.block _ (heap_lt h5.ple.flt) (by omega)).trans h5.ple.flt, h5.ple.below.trans (hu6.below (by omega) h5.ple.below.size)⟩, (hu6.block _ (heap_lt h5.flt) (by omega)).trans h5.flt⟩
                    clear hb5 hb4 hra4 hsc4
                    go_wp2_with (with_reducible refine gate ?_; refine wp_store_node rfl _ _ rfl wr.heap.size _ _ _ _ _ _ _ _ _ _ _ _ rfl rfl X5 rfl ?_; intro w6 hw6 hu6; have L6 := Lib.hid (HS.out w6 hu6).1; have F6 := Lib.hid (HS.out w6 hu6).2; obtain ⟨f0, f1⟩ := cells2 F6.out; have hff : ∀ i, w6.frozen? ⟨sb + 1, i, none⟩ = false := Lib.frozen_of_heap F6.out)
                    have L7 : Hid (PLe w n A c (some ⟨kb, off, none⟩) d ((w6.setCell ⟨sb + 1, 0, none⟩ (.int .i64 e2.1)).setCell ⟨sb + 1, 1, none⟩ (.int .i64 e2.2))) :=
                      ⟨(two_other _ (by omega) _ _).trans L6.out.box, (two_other _ (by omega) _ _).trans L6.out.res, (two_other _ (by omega) _ _).trans L6.out.flt, (L6.out.below.setCell (p := ⟨sb + 1, 0, none⟩) (by show w.heap.size ≤ sb + 1; omega) _).setCell (p := ⟨sb + 1, 1, none⟩) (by show w.heap.size ≤ sb + 1; omega) _⟩
                    have F7 := two_heap F6.out (.int .i64 e2.1) (.int .i64 e2.2)
                    clear f0 f1 hff
                    generalize (w6.setCell ⟨sb + 1, 0, none⟩ (.int .i64 e2.1)).setCell ⟨sb + 1, 1, none⟩ (.int .i64 e2.2) = W7 at *
                    obtain ⟨f0, f1⟩ := cells2 F7
                    obtain ⟨s0, s1, s2, s3, s4, s5, s6⟩ := cells7 L7.out.res
                    obtain ⟨r0, r1⟩ := cells2 L7.out.flt
                    have hfr : ∀ i, W7.frozen? ⟨w.heap.size + 1, i, none⟩ = false := Lib.frozen_of_heap L7.out.res
                    have hfq : ∀ i, W7.frozen? ⟨w.heap.size + 1 + 1, i, none⟩ = false := Lib.frozen_of_heap L7.out.flt
                    have n1 : ¬ (w.heap.size + 1 = sb + 1) := by omega
                    have n2 : ¬ (sb + 1 = w.heap.size + 1) := by omega
                    have n3 : ¬ (w.heap.size + 1 + 1 = sb + 1) := by omega
                    have n4 : ¬ (sb + 1 = w.heap.size + 1 + 1) := by omega
                    have n5 : ¬ (w.heap.size = sb) := by omega
                    have n6 : ¬ (sb = w.heap.size) := by omega
                    have n7 : ¬ (w.heap.size + 1 = sb) := by omega
                    have n8 : ¬ (sb = w.heap.size + 1) := by omega
                    have n9 : w.heap.size + 1 ≠ w.heap.size + 1 + 1 := by omega
                    go_region
                    all_goals
                      go_wp2_with fail
                      first
                        | (have hN := nineA L7.out.res L7.out.flt (by omega) L7.out.below (show w.heap.size ≤ w.heap.size + 1 by omega) (show w.heap.size ≤ w.heap.size + 1 + 1 by omega) (.int .i64 0) (.string ⟨#[]⟩) (.string ⟨#[]⟩) (.slice none 0 0) (.slice none 0 0) (.string ⟨#[]⟩) (.int .i64 0) (.int .i64 e2.1) (.int .i64 e2.2)
                           refine bodyPost_ret (v := .tuple #[.agg _, .agg _]) (res_cells2 Tryd.results26 _ _ (w.heap.size + 1) (w.heap.size + 1 + 1) rfl rfl 29 52 _ _ hN.1 hN.2.1 Tryd.underlying29 rfl nodeSize Tryd.underlying52 rfl faultSize) rfl ⟨?_, hN.2.2⟩
                           rw [HRR.out]; rfl)
                        | (have hN := nineB L7.out.res L7.out.flt (by omega) L7.out.below (show w.heap.size ≤ w.heap.size + 1 by omega) (show w.heap.size ≤ w.heap.size + 1 + 1 by omega) (.int .i64 0) (.string ⟨#[]⟩) (.string ⟨#[]⟩) (.slice none 0 0) (.slice none 0 0) (.string ⟨#[]⟩) (.int .i64 0) (.int .i64 e2.1) (.int .i64 e2.2)
                           refine bodyPost_ret (v := .tuple #[.agg _, .agg _]) (res_cells2 Tryd.results26 _ _ (w.heap.size + 1) (w.heap.size + 1 + 1) rfl rfl 29 52 _ _ hN.1 hN.2.1 Tryd.underlying29 rfl nodeSize Tryd.underlying52 rfl faultSize) rfl ⟨?_, hN.2.2⟩
                           rw [HRR.out]; rfl)
                  | ok k2 =>
                    rw [hrk] at hcall
                    rw [resL_elem hk0 hrk, map_map_app] at hres
                    have HRS := Lib.hid hres
                    have HCL := Lib.hid hcall
                    clear hcall hnv hrk hres hk0
                    go_wp2_with (first
                      | (with_reducible refine gate ?_; refine wp_load_node rfl _ rfl kb (off + i * 7) rfl _ rfl HKR.out ?_)
                      | (with_reducible refine gate ?_; refine wp_load_node rfl _ rfl wr.heap.size 0 rfl _ rfl hra4 ?_))
                    refine HCL.out.mono ?_
                    rintro e w5 ⟨⟨v, rfl, hnv5⟩, hb5⟩
                    obtain ⟨cs5, rfl, hn5⟩ := hnv5
                    obtain ⟨QA, qc, QK, qd, rfl, _, _, _, _⟩ := hn5.open_
                    have X5 := (hb5.block _ (by omega)).trans X4.out
                    have hz5 := hb5.size
                    have HN5 := Lib.hid hn5
                    have HB5 := Lib.hid (hbb.trans (hb5.mono (by omega)))
                    have hzw : wr.heap.size ≤ w5.heap.size := by omega
                    have HS : Hid (∀ w6 : World, w6.heap[wr.heap.size]? = some (.cells #[.int .i64 k2.kind, .string (S k2.space), .string (S k2.name), .slice QA k2.attrs.length qc, .slice QK k2.kids.length qd, .string (S k2.text), .int .i64 k2.pos] 29 (0, 0)) → Upd wr.heap.size w5 w6 → Hid (NodeP w6 (fun b => (X ≤ b ∧ b < w6.heap.size ∧ Loose w6 b) ∧ (Value.slice KA ks.length kc).ownBlock ≠ some b) k2 [.int .i64 k2.kind, .string (S k2.space), .string (S k2.name), .slice QA k2.attrs.length qc, .slice QK k2.kids.length qd, .string (S k2.text), .int .i64 k2.pos]) ∧ Hid (QLo w n A c (some ⟨kb, off, none⟩) d sb ob nb X g' sp q MA mc ats KA kc ks w6) ∧
                        w6.heap[sb + 1]? = some (.cells zFlt 52 (0, 0))) := fun w6 hw6 hu6 => by
                      have L7 := HLO.out.next (HB5.out.trans (hu6.below (Nat.le_refl _) hzw))
                      exact ⟨NodeP.keep (fun b hb => hu6.block b (by omega) (by omega)) (fun b hb => ⟨⟨by omega, by have := hu6.size; omega, hb.2.2.keep (hu6.block b (by omega) (by omega))⟩, fun e => by have := HLO.out.row.lt b e; omega⟩) _ _ HN5.out, L7, L7.flt⟩
                    clear hb5 hb4 hra4 hsc4 hn5 hbb
                    go_wp2_with (with_reducible refine gate ?_; refine wp_store_node rfl _ _ rfl wr.heap.size _ _ _ _ _ _ _ _ _ _ _ _ rfl rfl X5 rfl ?_; intro w6 hw6 hu6; obtain ⟨HKN6, L6, F6⟩ := HS.out w6 hw6 hu6; obtain ⟨f0, f1⟩ := cells2 F6; have hff : ∀ i, w6.frozen? ⟨sb + 1, i, none⟩ = false := Lib.frozen_of_heap F6)
                    have hu7 := (Upd.set_ (sb + 1) 0 w6 (.int .i64 0)).trans (Upd.set_ (sb + 1) 1 _ (.int .i64 0))
                    have hz7 : ((w6.setCell ⟨sb + 1, 0, none⟩ (.int .i64 0)).setCell ⟨sb + 1, 1, none⟩ (.int .i64 0)).heap.size = w6.heap.size := by simp [World.setCell]
                    have L7 := Lib.hid (L6.out.fault hu7 hz7 (two_heap F6 _ _))
                    have hx7 : ((w6.setCell ⟨sb + 1, 0, none⟩ (.int .i64 0)).setCell ⟨sb + 1, 1, none⟩ (.int .i64 0)).rangeAt wr.heap.size 0 [.int .i64 k2.kind, .string (S k2.space), .string (S k2.name), .slice QA k2.attrs.length qc, .slice QK k2.kids.length qd, .string (S k2.text), .int .i64 k2.pos] := range_of_heap (cs := [.int .i64 k2.kind, .string (S k2.space), .string (S k2.name), .slice QA k2.attrs.length qc, .slice QK k2.kids.length qd, .string (S k2.text), .int .i64 k2.pos]) ((two_other _ (by omega) _ _).trans hw6)
                    have HKN : Hid (NodeP ((w6.setCell ⟨sb + 1, 0, none⟩ (.int .i64 0)).setCell ⟨sb + 1, 1, none⟩ (.int .i64 0)) (fun b => (X ≤ b ∧ b < ((w6.setCell ⟨sb + 1, 0, none⟩ (.int .i64 0)).setCell ⟨sb + 1, 1, none⟩ (.int .i64 0)).heap.size ∧ Loose ((w6.setCell ⟨sb + 1, 0, none⟩ (.int .i64 0)).setCell ⟨sb + 1, 1, none⟩ (.int .i64 0)) b) ∧ (Value.slice KA ks.length kc).ownBlock ≠ some b) k2 [.int .i64 k2.kind, .string (S k2.space), .string (S k2.name), .slice QA k2.attrs.length qc, .slice QK k2.kids.length qd, .string (S k2.text), .int .i64 k2.pos]) := NodeP.keep (fun b hb => two_other _ (by omega) _ _) (fun b hb => ⟨⟨hb.1.1, by rw [hz7]; exact hb.1.2.1, hb.1.2.2.keep (two_other _ (by omega) _ _)⟩, hb.2⟩) _ _ HKN6.out
                    have hxl : wr.heap.size < ((w6.setCell ⟨sb + 1, 0, none⟩ (.int .i64 0)).setCell ⟨sb + 1, 1, none⟩ (.int .i64 0)).heap.size := by rw [hz7]; exact heap_lt hw6
                    clear f0 f1 hff hu7 hz7 hw6 hu6
                    generalize (w6.setCell ⟨sb + 1, 0, none⟩ (.int .i64 0)).setCell ⟨sb + 1, 1, none⟩ (.int .i64 0) = W7 at *
                    refine region_app1 rfl rfl rfl rfl rfl rfl rfl rfl rfl rfl (by kernel_rfl) (by rfl) (fun _ _ _ _ _ h => h) X (fun b => (X ≤ b ∧ b < W7.heap.size ∧ Loose W7 b) ∧ (Value.slice KA ks.length kc).ownBlock ≠ some b) (ob + 1) wr.heap.size KA kc ks k2 [.int .i64 k2.kind, .string (S k2.space), .string (S k2.name), .slice QA k2.attrs.length qc, .slice QK k2.kids.length qd, .string (S k2.text), .int .i64 k2.pos] #[.int .i64 0, .string (S sp), .string (S q), .slice MA ats.length mc, .slice KA ks.length kc, .string ⟨#[]⟩, .int .i64 n.pos] 29 rfl rfl L7.out.m rfl hx7 hxl HKN.out L7.out.row (fun _ h => h.2) (fun _ h => h.1.2.1) (by omega) (by omega) L7.out.lt.2.2 hzl ?_
                    intro bb g8 c8 vI W8 hat8 hrow8 hm8 hk8 ho8 ht8 hu8 hz8
                    simp only [Act.put, List.setIfInBounds_toArray, List.set_cons_zero, List.set_cons_succ]
                    go_wp2_with fail
                    go_roundw
                    case rel => exact ⟨i + 1, ks ++ [k2], some ⟨g8, 0, none⟩, c8, by omega, by go_num, by have := HKI.out; simp; omega, HRS.out, L7.out.put hat8 hrow8 hm8 hk8 ho8 ht8 hu8 hz8⟩
                    case measure => simp [intOf]; omega
                · have t1 : (k.kind == 0) = false := by rw [beq_eq_false_iff_ne]; exact hk0
                  have hbr := HCK.out.bare hk0
                  rw [resL_other hk0, map_map_app] at hres
                  have HRS := Lib.hid hres
                  have HKN : Hid (NodeP (wr.alloc (nodeBox k NA nc NK nd)) (fun b => (X ≤ b ∧ b < (wr.alloc (nodeBox k NA nc NK nd)).heap.size ∧ Loose (wr.alloc (nodeBox k NA nc NK nd)) b) ∧ (Value.slice KA ks.length kc).ownBlock ≠ some b) k [.int .i64 k.kind, .string (S k.space), .string (S k.name), .slice NA k.attrs.length nc, .slice NK k.kids.length nd, .string (S k.text), .int .i64 k.pos]) := (NodeIn.toP _ _ HKN0.out).bare hbr.1 hbr.2
                  have hxl : wr.heap.size < (wr.alloc (nodeBox k NA nc NK nd)).heap.size := by omega
                  clear hres hk0 hbr ih hbb
                  go_wp2_with (with_reducible refine gate ?_; refine wp_load_node rfl _ rfl kb (off + i * 7) rfl _ rfl HKR.out ?_)
                  have L7 := L4
                  have hx7 := hra4
                  clear hb4 hra4 L4 X4
                  generalize wr.alloc (nodeBox k NA nc NK nd) = W7 at *
                  refine region_app1 rfl rfl rfl rfl rfl rfl rfl rfl rfl rfl (by kernel_rfl) (by rfl) (fun _ _ _ _ _ h => h) X (fun b => (X ≤ b ∧ b < W7.heap.size ∧ Loose W7 b) ∧ (Value.slice KA ks.length kc).ownBlock ≠ some b) (ob + 1) wr.heap.size KA kc ks k [.int .i64 k.kind, .string (S k.space), .string (S k.name), .slice NA k.attrs.length nc, .slice NK k.kids.length nd, .string (S k.text), .int .i64 k.pos] #[.int .i64 0, .string (S sp), .string (S q), .slice MA ats.length mc, .slice KA ks.length kc, .string ⟨#[]⟩, .int .i64 n.pos] 29 rfl rfl L7.out.m rfl hx7 hxl HKN.out L7.out.row (fun _ h => h.2) (fun _ h => h.1.2.1) (by omega) (by omega) L7.out.lt.2.2 hzl ?_
                  intro bb g8 c8 vI W8 hat8 hrow8 hm8 hk8 ho8 ht8 hu8 hz8
                  simp only [Act.put, List.setIfInBounds_toArray, List.set_cons_zero, List.set_cons_succ]
                  go_wp2_with fail
                  go_roundw
                  case rel => exact ⟨i + 1, ks ++ [k], some ⟨g8, 0, none⟩, c8, by omega, by go_num, by have := HKI.out; simp; omega, HRS.out, L7.out.put hat8 hrow8 hm8 hk8 ho8 ht8 hu8 hz8⟩
                  case measure => simp [intOf]; omega
              · have hil : i = n.kids.length := by omega
                rw [hil, List.drop_length, resL] at hres
                have hr := HRG.out
                rw [← hres] at hr
                have HRR : Hid (R = .ok (.mk 0 sp q ats (ks ++ []) [] n.pos)) := hr.symm
                have hlt' : ¬ (i : Int) < n.kids.length := by omega
                have hra := range_of_heap (cs := [_, _, _, _, _, _, _]) HLO.out.m
                have hres1 := HLO.out.ple.res
                clear hres hr hil hlt ih
                go_wp2_with (first
                  | (with_reducible refine gate ?_; refine wp_load_node rfl _ rfl (ob + 1) 0 rfl _ rfl hra ?_)
                  | (with_reducible refine gate ?_; refine wp_store_node rfl _ _ rfl (w.heap.size + 1) _ _ _ _ _ _ _ _ _ _ _ _ rfl rfl hres1 rfl ?_; intro w9 hw9 hu9; have F9 := (hu9.block (w.heap.size + 1 + 1) (heap_lt HLO.out.ple.flt) (by omega)).trans HLO.out.ple.flt; obtain ⟨r0, r1⟩ := cells2 F9; have hfq : ∀ i, w9.frozen? ⟨w.heap.size + 1 + 1, i, none⟩ = false := Lib.frozen_of_heap F9))
                refine bodyPost_ret (v := .tuple #[.agg _, .agg _]) (res_cells2 Tryd.results26 _ _ (w.heap.size + 1) (w.heap.size + 1 + 1) rfl rfl 29 52 _ _ ((two_other _ (by omega) _ _).trans hw9) (two_heap F9 _ _) Tryd.underlying29 rfl nodeSize Tryd.underlying52 rfl faultSize) rfl ⟨?_, ?_⟩
                · rw [HRR.out, List.append_nil]
                  have hz9 := hu9.size
                  have hzz : ((w9.setCell ⟨w.heap.size + 1 + 1, 0, none⟩ (.int .i64 0)).setCell ⟨w.heap.size + 1 + 1, 1, none⟩ (.int .i64 0)).heap.size = w9.heap.size := by simp [World.setCell]
                  have hkk : ∀ b, ob + 2 ≤ b → b < wr.heap.size → ((w9.setCell ⟨w.heap.size + 1 + 1, 0, none⟩ (.int .i64 0)).setCell ⟨w.heap.size + 1 + 1, 1, none⟩ (.int .i64 0)).heap[b]? = wr.heap[b]? := fun b h1 h2 => (two_other _ (by omega) _ _).trans (hu9.block b h2 (by omega))
                  refine ⟨_, rfl, NodePV.of_form (n := .mk 0 sp q ats ks [] n.pos) ?_ ?_⟩
                  · exact HLO.out.atts.keep (fun b hb => hkk b (by omega) (by omega)) (fun b hb => ⟨by omega, by omega, hb.2.2.keep (hkk b (by omega) (by omega))⟩)
                  · have hrw := HLO.out.row
                    refine ((hrw.heap nodeE_ok (fun b hb => hkk b (by have := hrw.lt b hb; omega) (hrw.lt b hb).2) (fun b hb => hkk b (by omega) hb.1.2.1)).elsP (p' := fun b => w.heap.size ≤ b ∧ b < ((w9.setCell ⟨w.heap.size + 1 + 1, 0, none⟩ (.int .i64 0)).setCell ⟨w.heap.size + 1 + 1, 1, none⟩ (.int .i64 0)).heap.size ∧ Loose ((w9.setCell ⟨w.heap.size + 1 + 1, 0, none⟩ (.int .i64 0)).setCell ⟨w.heap.size + 1 + 1, 1, none⟩ (.int .i64 0)) b) nodeE_ok (fun b hb => ⟨by omega, by omega, hb.1.2.2.keep (hkk b (by omega) hb.1.2.1)⟩) (fun b hb => by have := hrw.lt b hb; exact ⟨by omega, by omega, (hrw.loose hb).keep (hkk b (by omega) this.2)⟩)).nodesP
                · exact ((HLO.out.ple.below.trans (hu9.below (by omega) HLO.out.ple.below.size)).setCell (p := ⟨w.heap.size + 1 + 1, 0, none⟩) (by show w.heap.size ≤ w.heap.size + 1 + 1; omega) _).setCell (p := ⟨w.heap.size + 1 + 1, 1, none⟩) (by show w.heap.size ≤ w.heap.size + 1 + 1; omega) _
end Go.Proofs.YtaghipnheomggaaDoor
set_option linter.unusedVariables false
namespace Go.Proofs.YtaghipnheomggaaDoor
open Go.RowKit

theorem wpList_map_ins {P : Program} {w : World} {ops : Array Oper} {rest : List Oper} {o : Oper} {a : Act} {Q : Exit → Act → World → Prop} (hg : o.guard = none) (m x y : Operand) (t : TypeId) (hop : o.op = Op.insert t m x y)
    {kt e : TypeId} (ht : P.underlying t = some (.map kt e)) (hk : P.underlying kt = some .string) (b : Nat) (l : List (Bytes × Value)) (h : MapOf w b l) (hm : a.eval m = .map (some b)) (k : Bytes) (hx : a.eval x = .string (S k)) (v : Value) (hy : a.eval y = v)
    (hK : ∀ w', MapOf w' b (putM k v l) → Upd b w w' → w'.heap.size = w.heap.size → wpList P ops Q rest (a.put o.dst undef) w') : wpList P ops Q (o :: rest) a w := by
  refine wpList_plain hg fun K' hK' => ?_
  obtain ⟨w', hrun, r1, r2, r3⟩ := h.run_update ht hk k v
  unfold Oper.wp
  simp [execOp, hop, hm, hx, hy, hrun, Result.andThen]
  exact hK' _ _ (hK w' r1 r2 r3)
theorem scope0_map {w : World} {b : Nat} (h : MapOf w b (putM bXml (.string (S xmlSpace)) (putM [] (.string (S [])) []))) : ScopeM w b scope0 := by
  have h2 := ScopeM.put (g := Scope.put (fun _ => none) [] []) h (fun j => by rw [look_put]; unfold Scope.put; split <;> rfl)
  have : scope0 = (Scope.put (fun _ => none) [] []).put bXml xmlSpace := by
    funext k
    unfold scope0 Scope.put
    rfl
  rw [this]
  exact h2
theorem seven_drew {W : World} {b : Nat} {t : TypeId} {c0 c1 c2 c3 c4 c5 c6 : Value} (h : W.heap[b]? = some (.cells #[c0, c1, c2, c3, c4, c5, c6] t (0, 0))) (v0 v1 v2 v3 v4 v5 v6 : Value) :
    (((((((W.setCell ⟨b, 0, none⟩ v0).setCell ⟨b, 1, none⟩ v1).setCell ⟨b, 2, none⟩ v2).setCell ⟨b, 3, none⟩ v3).setCell ⟨b, 4, none⟩ v4).setCell ⟨b, 5, none⟩ v5).setCell ⟨b, 6, none⟩ v6).drew.heap[b]? = some (.cells #[v0, v1, v2, v3, v4, v5, v6] t (0, 0)) := by
  rw [drew_heap]
  exact seven_heap h _ _ _ _ _ _ _
/-- What Resolve returns. -/
def ResT (w w' : World) (r : Except (Int × Nat) Node) (e : Ending) : Prop :=
  match r with
  | .error q => e = .returned (.tuple #[zNodeV, .int .i64 q.1, .int .i64 q.2])
  | .ok n => ∃ v, e = .returned (.tuple #[v, .int .i64 0, .int .i64 0]) ∧ NodePV w' (fun b => w.heap.size ≤ b ∧ b < w'.heap.size ∧ Loose w' b) n v
set_option maxHeartbeats 2000000 in
set_option maxRecDepth 100000 in
theorem resolveTop_any (n : Node) (v : Value) (w : World) (hcl : Clean n) (hs : full n ≤ 1000000000) (hT : Tabs w) (hv : NodeV w w.heap.size n v) :
    Calls Tryd.prog 13 #[v] w fun e w' => ResT w w' (resolveF n) e ∧ Below w.heap.size w w' := by
  have hcall := fun (W : World) (mb : Nat) (hW : Below w.heap.size w W) (hg : ScopeM W mb scope0) => resolve_any (nsz n) n v mb scope0 W (Nat.le_refl _) hcl hs (hT.next hW) hg (hv.keep hW.block hW.size)
  obtain ⟨A, c, K, d, rfl, ha, hk, hc, hd⟩ := hv.open_
  have B0 := Lib.hid (show Below w.heap.size w ((w.alloc (nodeBox n A c K d)).alloc (.cells zNodC 29)) from ((Below.refl _ _).alloc (Nat.le_refl _) _).alloc (by simp) _)
  have X0 := Lib.hid (show ((w.alloc (nodeBox n A c K d)).alloc (.cells zNodC 29)).heap[w.heap.size]? = some (nodeBox n A c K d) from alloc_old (heap_alloc_new w _))
  have X1 := Lib.hid (show ((w.alloc (nodeBox n A c K d)).alloc (.cells zNodC 29)).heap[w.heap.size + 1]? = some (.cells zNodC 29 (0, 0)) from alloc_at (by simp))
  have HC := Lib.hid hcall
  obtain ⟨R, hR⟩ : ∃ R, resolveF n = R := ⟨_, rfl⟩
  have HCR := Lib.hid (show resN scope0 n = R from hR)
  rw [hR]
  clear hv hcall ha hk hR hT
  have hmm := @run_makeMap Tryd.prog
  have hm0 := MapOf.new ((w.alloc (nodeBox n A c K d)).alloc (.cells zNodC 29))
  have hzz : ((w.alloc (nodeBox n A c K d)).alloc (.cells zNodC 29)).heap.size = w.heap.size + 1 + 1 := by simp
  rw [hzz] at hm0
  have HM0 := Lib.hid hm0
  have X2 := Lib.hid (show (((w.alloc (nodeBox n A c K d)).alloc (.cells zNodC 29)).alloc (.map #[] 0)).heap[w.heap.size]? = some (nodeBox n A c K d) from alloc_old X0.out)
  have X3 := Lib.hid (show (((w.alloc (nodeBox n A c K d)).alloc (.cells zNodC 29)).alloc (.map #[] 0)).heap[w.heap.size + 1]? = some (.cells zNodC 29 (0, 0)) from alloc_old X1.out)
  have B2 := Lib.hid (B0.out.alloc B0.out.size (.map #[] 0))
  have HS : Hid (∀ W1 W2, Upd (w.heap.size + 1 + 1) (((w.alloc (nodeBox n A c K d)).alloc (.cells zNodC 29)).alloc (.map #[] 0)) W1 → Upd (w.heap.size + 1 + 1) W1 W2 → W2.heap[w.heap.size]? = some (nodeBox n A c K d) ∧ W2.heap[w.heap.size + 1]? = some (.cells zNodC 29 (0, 0)) ∧ Below w.heap.size w W2) := fun W1 W2 h1 h2 => by
    have h := h1.trans h2
    exact ⟨(h.block _ (heap_lt X2.out) (by omega)).trans X2.out, (h.block _ (heap_lt X3.out) (by omega)).trans X3.out, B2.out.trans (h.below (by omega) B2.out.size)⟩
  clear hm0 hzz
  go_enter Tryd.func13, Tryd.ntmps13
  go_wp2_with (first
    | (with_reducible refine gate ?_; refine wpList_map_ins rfl _ _ _ _ rfl Tryd.underlying55 Tryd.underlying9 (w.heap.size + 1 + 1) [] HM0.out rfl [] rfl (.string (S [])) rfl ?_; intro w1 hm1 hu1 hz1)
    | (with_reducible refine gate ?_; refine wpList_map_ins rfl _ _ _ _ rfl Tryd.underlying55 Tryd.underlying9 (w.heap.size + 1 + 1) _ hm1 rfl bXml rfl (.string (S xmlSpace)) rfl ?_; intro w2 hm2 hu2 hz2; obtain ⟨hx2, hy2, hb2⟩ := HS.out w1 w2 hu1 hu2; have hr2 := range_of_heap (cs := [_, _, _, _, _, _, _]) hx2)
    | (with_reducible refine gate ?_; refine wp_load_node rfl _ rfl w.heap.size 0 rfl _ rfl hr2 ?_))
  refine (HC.out w2 _ hb2 (scope0_map hm2)).mono ?_
  have HB2 := Lib.hid hb2
  have Y2 := Lib.hid hy2
  clear hb2 hx2 hy2 hr2 hm1 hm2 hu1 hu2 HM0 X0 X1 X2 X3 B0 B2 HS
  rw [HCR.out]
  cases R with
  | error e1 =>
    rintro e w3 ⟨rfl, hb3⟩
    have Y3 := Lib.hid ((hb3.block _ (heap_lt Y2.out)).trans Y2.out)
    have HB3 := Lib.hid (HB2.out.trans (hb3.mono HB2.out.size))
    have Y5 := Lib.hid (alloc_old (o := .cells #[.int .i64 e1.1, .int .i64 e1.2] 52) (alloc_old (o := .cells zNodC 29) Y3.out))
    have HB5 := Lib.hid ((HB3.out.alloc HB3.out.size (.cells zNodC 29)).alloc (by have := HB3.out.size; simp; omega) (.cells #[.int .i64 e1.1, .int .i64 e1.2] 52))
    have N5 := alloc_old (o := .cells #[.int .i64 e1.1, .int .i64 e1.2] 52) (heap_alloc_new w3 (.cells zNodC 29))
    have F5 := heap_alloc_new (w3.alloc (.cells zNodC 29)) (.cells #[.int .i64 e1.1, .int .i64 e1.2] 52)
    rw [World.size_alloc] at F5
    have hz3 := heap_lt Y3.out
    clear hb3
    go_wp2_with fail
    generalize (w3.alloc (.cells zNodC 29)).alloc (.cells #[.int .i64 e1.1, .int .i64 e1.2] 52) = W5 at *
    generalize w3.heap.size = nb at *
    obtain ⟨f0, f1⟩ := cells2 F5
    obtain ⟨m0, m1, m2, m3, m4, m5, m6⟩ := cells7 N5
    obtain ⟨s0, s1, s2, s3, s4, s5, s6⟩ := cells7 Y5.out
    have hfr : ∀ i, W5.frozen? ⟨w.heap.size + 1, i, none⟩ = false := Lib.frozen_of_heap Y5.out
    have n1 : ¬ (w.heap.size + 1 = nb) := by omega
    have n2 : ¬ (nb = w.heap.size + 1) := by omega
    have n3 : ¬ (w.heap.size + 1 = nb + 1) := by omega
    have n4 : ¬ (nb + 1 = w.heap.size + 1) := by omega
    have n5 : ¬ (w.heap.size = nb) := by omega
    have n6 : ¬ (nb = w.heap.size) := by omega
    go_region
    all_goals
      go_wp2_with fail
      refine bodyPost_ret (v := .tuple #[.agg _, _, _]) (res_whole3 Tryd.results13 _ _ (w.heap.size + 1) rfl 29 _ (seven_drew Y5.out _ _ _ _ _ _ _) Tryd.underlying29 rfl nodeSize _ _ rfl rfl) rfl ⟨rfl, ?_⟩
      exact (((((((HB5.out.setCell (p := ⟨w.heap.size + 1, 0, none⟩) (by simp) _).setCell (p := ⟨w.heap.size + 1, 1, none⟩) (by simp) _).setCell (p := ⟨w.heap.size + 1, 2, none⟩) (by simp) _).setCell (p := ⟨w.heap.size + 1, 3, none⟩) (by simp) _).setCell (p := ⟨w.heap.size + 1, 4, none⟩) (by simp) _).setCell (p := ⟨w.heap.size + 1, 5, none⟩) (by simp) _).setCell (p := ⟨w.heap.size + 1, 6, none⟩) (by simp) _).drew
  | ok n2 =>
    rintro e w3 ⟨⟨v1, rfl, hv1⟩, hb3⟩
    obtain ⟨cs, rfl, hn1⟩ := hv1
    obtain ⟨QA, qc, QK, qd, rfl, _, _, _, _⟩ := hn1.open_
    have Y3 := Lib.hid ((hb3.block _ (heap_lt Y2.out)).trans Y2.out)
    have HB3 := Lib.hid (HB2.out.trans (hb3.mono HB2.out.size))
    have Y5 := Lib.hid (alloc_old (o := .cells zFlt 52) (alloc_old (o := nodeBox n2 QA qc QK qd) Y3.out))
    have HB5 := Lib.hid ((HB3.out.alloc HB3.out.size (nodeBox n2 QA qc QK qd)).alloc (by have := HB3.out.size; simp; omega) (.cells zFlt 52))
    have N5 := alloc_old (o := .cells zFlt 52) (heap_alloc_new w3 (nodeBox n2 QA qc QK qd))
    have F5 := heap_alloc_new (w3.alloc (nodeBox n2 QA qc QK qd)) (.cells zFlt 52)
    rw [World.size_alloc] at F5
    have hz3 := heap_lt Y3.out
    have hz2' := heap_lt Y2.out
    have HN := Lib.hid (NodeP.keep (w' := ((w3.alloc (nodeBox n2 QA qc QK qd)).alloc (.cells zFlt 52))) (p' := fun b => w2.heap.size ≤ b ∧ b < w3.heap.size ∧ Loose ((w3.alloc (nodeBox n2 QA qc QK qd)).alloc (.cells zFlt 52)) b) (fun b hb => (Below.heap_alloc _ _ _ (by simp; omega)).trans (Below.heap_alloc _ _ _ (by omega))) (fun b hb => ⟨hb.1, hb.2.1, hb.2.2.keep ((Below.heap_alloc _ _ _ (by simp; omega)).trans (Below.heap_alloc _ _ _ (by omega)))⟩) _ _ hn1)
    have hzw : w3.heap.size ≤ ((w3.alloc (nodeBox n2 QA qc QK qd)).alloc (.cells zFlt 52)).heap.size := by simp; omega
    clear hb3 hn1
    go_wp2_with fail
    generalize (w3.alloc (nodeBox n2 QA qc QK qd)).alloc (.cells zFlt 52) = W5 at *
    generalize w3.heap.size = nb at *
    obtain ⟨f0, f1⟩ := cells2 F5
    obtain ⟨m0, m1, m2, m3, m4, m5, m6⟩ := cells7 N5
    obtain ⟨s0, s1, s2, s3, s4, s5, s6⟩ := cells7 Y5.out
    have hfr : ∀ i, W5.frozen? ⟨w.heap.size + 1, i, none⟩ = false := Lib.frozen_of_heap Y5.out
    have n1 : ¬ (w.heap.size + 1 = nb) := by omega
    have n2' : ¬ (nb = w.heap.size + 1) := by omega
    have n3 : ¬ (w.heap.size + 1 = nb + 1) := by omega
    have n4 : ¬ (nb + 1 = w.heap.size + 1) := by omega
    have n5 : ¬ (w.heap.size = nb) := by omega
    have n6 : ¬ (nb = w.heap.size) := by omega
    go_region
    all_goals
      go_wp2_with fail
      refine bodyPost_ret (v := .tuple #[.agg _, _, _]) (res_whole3 Tryd.results13 _ _ (w.heap.size + 1) rfl 29 _ (seven_drew Y5.out _ _ _ _ _ _ _) Tryd.underlying29 rfl nodeSize _ _ rfl rfl) rfl ⟨⟨_, rfl, _, rfl, NodeP.keep (fun b hb => by rw [drew_heap]; exact seven_other _ (by omega) _ _ _ _ _ _ _) (fun b hb => ⟨by omega, by simp [World.setCell, drew_heap]; omega, hb.2.2.keep (by rw [drew_heap]; exact seven_other _ (by omega) _ _ _ _ _ _ _)⟩) _ _ HN.out⟩, ?_⟩
      exact (((((((HB5.out.setCell (p := ⟨w.heap.size + 1, 0, none⟩) (by simp) _).setCell (p := ⟨w.heap.size + 1, 1, none⟩) (by simp) _).setCell (p := ⟨w.heap.size + 1, 2, none⟩) (by simp) _).setCell (p := ⟨w.heap.size + 1, 3, none⟩) (by simp) _).setCell (p := ⟨w.heap.size + 1, 4, none⟩) (by simp) _).setCell (p := ⟨w.heap.size + 1, 5, none⟩) (by simp) _).setCell (p := ⟨w.heap.size + 1, 6, none⟩) (by simp) _).drew
end Go.Proofs.YtaghipnheomggaaDoor
set_option linter.unusedVariables false
namespace Go.Proofs.YtaghipnheomggaaDoor

theorem attsF_append (a b : List Att) : attsF (a ++ b) = attsF a + attsF b := by
  induction a with
  | nil => simp [attsF]
  | cons x a ih => simp only [List.cons_append, attsF, ih]; omega
theorem attAt_size {l : Bytes} {a n : Nat} {b : Att} {e : Nat} (h : attAt l a n = .ok (b, e)) : n ≤ e ∧ attF b ≤ 4 * (e - n) := by
  unfold attAt at h
  split at h
  · cases h
  · split at h
    · cases h
    · split at h
      · cases h
      · have s1 := spEnd_ge l (n + nameLen (l.drop n))
        have s2 := spEnd_ge l (spEnd l (n + nameLen (l.drop n)) + 1)
        generalize spEnd l (spEnd l (n + nameLen (l.drop n)) + 1) = y at *
        generalize spEnd l (n + nameLen (l.drop n)) = x at *
        unfold valAt at h
        have s3 := valEnd_ge l (l.getD y 0) (y + 1)
        generalize valEnd l (l.getD y 0) (y + 1) = z at *
        cases hc : cont true l (y + 1) z with
        | error q => rw [hc] at h; cases h
        | ok v =>
          rw [hc] at h
          simp only at h
          split at h
          · cases h
          · split at h
            · cases h
            · cases h
              have := contS_len true _ _ _ _ hc
              simp only [List.length_drop, List.length_take] at this
              unfold attF
              simp only [List.length_nil, List.length_take, List.length_drop]
              omega
theorem tagF_size {l : Bytes} {a : Nat} : ∀ {f n : Nat} {bs cs : List Att} {em : Bool} {e : Nat}, tagF l a f n bs = .ok (cs, em, e) → n ≤ e ∧ attsF cs ≤ attsF bs + 4 * (e - n)
  | 0, _, _, _, _, _, h => by rw [tagF] at h; cases h
  | f + 1, n, bs, cs, em, e, h => by
    rw [tagF] at h
    have s1 := spEnd_ge l n
    split at h
    · cases h; omega
    · split at h
      · cases h; omega
      · split at h
        · cases h
        · split at h
          · cases h
          · cases ha : attAt l a (spEnd l n) with
            | error q => rw [ha] at h; cases h
            | ok p =>
              obtain ⟨b, e2⟩ := p
              rw [ha] at h
              have h1 := attAt_size ha
              simp only at h
              split at h
              · cases h
              · have h2 := tagF_size h
                rw [attsF_append] at h2
                simp only [attsF] at h2
                omega
/-- What a token adds to a tree. -/
def tokW (t : Tok) : Nat := 1 + t.name.length + t.text.length + attsF t.attrs
def toksW : List Tok → Nat
  | [] => 0
  | t :: ts => tokW t + toksW ts
theorem toksW_append (a b : List Tok) : toksW (a ++ b) = toksW a + toksW b := by
  induction a with
  | nil => simp [toksW]
  | cons x a ih => simp only [List.cons_append, toksW, ih]; omega
theorem toksW_drop {ts : List Tok} {i : Nat} {t : Tok} (h : ts[i]? = some t) : toksW (ts.drop i) = tokW t + toksW (ts.drop (i + 1)) := by
  obtain ⟨hi, ht⟩ := List.getElem?_eq_some_iff.1 h
  rw [List.drop_eq_getElem_cons hi, toksW, ht]
theorem consAt_size {l : Bytes} {a e : Nat} {t : Tok} (ha : a < l.length) (h : consAt l a = .ok (t, e)) : tokW t ≤ 5 * (e - a) := by
  have hae := consAt_ok ha h
  have hsk : ∀ {m : Nat} {s : Bytes} {g : Nat → Tok × Nat} {t : Tok} {k : Nat}, (skipAt l a m s).map g = .ok (t, k) → ∃ e, (t, k) = g e := by
    intro m s g t k h
    cases hq : skipAt l a m s with
    | error y => rw [hq] at h; cases h
    | ok y => rw [hq] at h; simp [Except.map] at h; exact ⟨y, h.symm⟩
  unfold consAt at h
  split at h
  · obtain ⟨e, he⟩ := hsk h; cases he; simp [tokW, zTok, attsF]; omega
  · split at h
    · obtain ⟨e, he⟩ := hsk h; cases he; simp [tokW, zTok, attsF]; omega
    · split at h
      · obtain ⟨e', he⟩ := hsk h
        obtain ⟨rfl, rfl⟩ := Prod.mk.inj he
        have := linesB_len ((l.drop (a + 9)).take (e - 3 - (a + 9)))
        simp only [List.length_take, List.length_drop] at this
        simp only [tokW, attsF, List.length_nil]
        omega
      · split at h
        · cases h
        · split at h
          · cases h
          · split at h
            · unfold endAt at h
              split at h
              · cases h
              · split at h
                · have s1 := spEnd_ge l (a + 2 + nameLen (l.drop (a + 2)))
                  cases h
                  simp only [tokW, attsF, List.length_nil, List.length_take, List.length_drop]
                  omega
                · cases h
            · split at h
              · unfold startAt at h
                split at h
                · cases h
                · cases ht : tagS l a (a + 1 + nameLen (l.drop (a + 1))) [] with
                  | error y => rw [ht] at h; cases h
                  | ok p =>
                    obtain ⟨bs, em, e2⟩ := p
                    rw [ht] at h
                    have := tagF_size ht
                    cases h
                    simp only [tokW, attsF, List.length_nil, List.length_take, List.length_drop] at *
                    omega
              · cases hc : cont false l a (textEnd l a) with
                | error x => rw [hc] at h; cases h
                | ok x =>
                  rw [hc] at h
                  cases h
                  have := contS_len false _ _ _ _ hc
                  simp only [List.length_drop, List.length_take] at this
                  simp only [tokW, attsF, List.length_nil]
                  omega
theorem tokF_size {l : Bytes} : ∀ (f n : Nat) (ts ts' : List Tok), tokF l f n ts = .ok ts' → n ≤ l.length → toksW ts' ≤ toksW ts + 5 * (l.length - n)
  | 0, _, _, _, h, _ => by rw [tokF] at h; cases h
  | f + 1, n, ts, ts', h, hn => by
    rw [tokF] at h
    split at h
    · rename_i hlt
      cases hc : consAt l n with
      | error e => rw [hc] at h; cases h
      | ok p =>
        obtain ⟨t, k⟩ := p
        rw [hc] at h
        have hk := consAt_ok hlt hc
        have hs := consAt_size hlt hc
        simp only at h
        have := tokF_size f k _ _ h hk.2
        split at this
        · rw [toksW_append] at this; simp only [toksW] at this; omega
        · omega
    · cases h; omega
theorem toks_size (l : Bytes) : toksW (toks l).1 ≤ 5 * l.length := by
  unfold toks
  split
  · simp [toksW]
  · have h0 : (if hasAt l 0 sBom = true then 3 else 0) ≤ l.length := by
      split
      · rename_i h
        have := hasAt_le h
        simp [sBom] at this; omega
      · omega
    generalize (if hasAt l 0 sBom = true then 3 else 0) = z at *
    cases h : tokS l z [] with
    | error e => simp [toksW]
    | ok ts =>
      have := tokF_size _ _ _ _ h h0
      simp only [toksW] at this
      show toksW ts ≤ _
      omega

/-! The tree. -/
theorem fullL_append (a b : List Node) : fullL (a ++ b) = fullL a + fullL b := by
  induction a with
  | nil => simp [fullL]
  | cons x a ih => simp only [List.cons_append, fullL, ih]; omega
theorem last_split {ks : List Node} {n : Node} (h : ks.getLast? = some n) : ks = ks.dropLast ++ [n] := by
  obtain ⟨ys, rfl⟩ := List.getLast?_eq_some_iff.1 h
  simp
theorem addText_full (ks : List Node) (u : Tok) : fullL (addText ks u) ≤ fullL ks + tokW u := by
  have hnew : fullL (ks ++ [.mk 1 [] [] [] [] u.text u.pos]) ≤ fullL ks + tokW u := by
    rw [fullL_append]
    simp only [fullL, full, attsF, List.length_nil, tokW]
    omega
  unfold addText
  split
  · rename_i k s n ats kk t p hl
    have hs := congrArg fullL (last_split hl)
    split
    · rw [fullL_append] at hs ⊢
      simp only [fullL, full, List.length_append, tokW] at *
      omega
    · exact hnew
  · exact hnew
mutual
theorem elemF_full {ts : List Tok} {en : Nat} : ∀ {f d i : Nat} {n : Node} {j : Nat}, elemF ts en f d i = .ok (n, j) → full n + toksW (ts.drop j) ≤ toksW (ts.drop i)
  | 0, _, _, _, _, h => by rw [elemF] at h; cases h
  | f + 1, d, i, n, j, h => by
    rw [elemF] at h
    cases ht : ts[i]? with
    | none => rw [ht] at h; cases h
    | some t =>
      have hd := toksW_drop ht
      rw [ht] at h
      simp only at h
      split at h
      · cases h
      · split at h
        · cases h
          simp only [full, fullL, List.length_nil]
          unfold tokW at hd
          omega
        · cases hk : kidsF ts en f d t.name (i + 1) [] with
          | error e => rw [hk] at h; cases h
          | ok p =>
            obtain ⟨ks, j'⟩ := p
            rw [hk] at h
            cases h
            have := kidsF_full hk
            simp only [full, fullL, List.length_nil] at *
            unfold tokW at hd
            omega
theorem kidsF_full {ts : List Tok} {en : Nat} : ∀ {f d : Nat} {nm : Bytes} {i : Nat} {ks ks' : List Node} {j : Nat}, kidsF ts en f d nm i ks = .ok (ks', j) → fullL ks' + toksW (ts.drop j) ≤ fullL ks + toksW (ts.drop i)
  | 0, _, _, _, _, _, _, h => by rw [kidsF] at h; cases h
  | f + 1, d, nm, i, ks, ks', j, h => by
    rw [kidsF] at h
    cases ht : ts[i]? with
    | none => rw [ht] at h; cases h
    | some t =>
      have hd := toksW_drop ht
      rw [ht] at h
      simp only at h
      split at h
      · split at h
        · cases h; omega
        · cases h
      · split at h
        · cases he : elemF ts en f (d + 1) i with
          | error e => rw [he] at h; cases h
          | ok p =>
            obtain ⟨k, j'⟩ := p
            rw [he] at h
            have h1 := elemF_full he
            have h2 := kidsF_full h
            rw [fullL_append] at h2
            simp only [fullL] at h2
            omega
        · have h2 := kidsF_full h
          have h3 := addText_full ks t
          omega
end
theorem parL_full {ts : List Tok} {en : Nat} : ∀ {f i : Nat} {r : Option Node} {n : Node}, parL ts en f i r = .ok n → (∀ m, r = some m → full m + toksW (ts.drop i) ≤ toksW ts) → toksW (ts.drop i) ≤ toksW ts → full n ≤ toksW ts
  | 0, _, _, _, h, _, _ => by rw [parL.eq_def] at h; simp at h
  | f + 1, i, r, n, h, hr, hi => by
    rw [parL.eq_def] at h
    simp only at h
    cases ht : ts[i]? with
    | none =>
      rw [ht] at h
      cases r with
      | none => cases h
      | some m => cases h; have := hr _ rfl; omega
    | some t =>
      have hd := toksW_drop ht
      rw [ht] at h
      simp only at h
      split at h
      · cases h
      · split at h
        · cases h
        · split at h
          · cases h
          · split at h
            · exact parL_full h (fun m hm => by have := hr m hm; omega) (by omega)
            · cases he : elemF ts en (2 * ts.length) 1 i with
              | error e => rw [he] at h; cases h
              | ok p =>
                obtain ⟨k, j⟩ := p
                rw [he] at h
                have h1 := elemF_full he
                exact parL_full h (fun m hm => by cases hm; omega) (by omega)
theorem parse_full {l : Bytes} {n : Node} (h : parse l = .ok n) : full n ≤ 5 * l.length := by
  unfold parse at h
  split at h
  · cases h
  · have := parL_full h (fun m hm => by cases hm) (by simp)
    have := toks_size l
    omega

/-! A property of all nodes of the tree: what holds of a bare text holds of every text, and so on. -/
theorem addText_all {p : Node → Prop} (h1 : ∀ t q, p (.mk 1 [] [] [] [] t q)) (hj : ∀ s n ats kk t u q, p (.mk 1 s n ats kk t q) → p (.mk 1 s n ats kk (t ++ u) q)) {ks : List Node} (u : Tok) (h : ∀ k ∈ ks, p k) : ∀ k ∈ addText ks u, p k := by
  have hnew : ∀ k ∈ ks ++ [Node.mk 1 [] [] [] [] u.text u.pos], p k := fun k hk => by
    rcases List.mem_append.1 hk with hk | hk
    · exact h k hk
    · rw [List.mem_singleton.1 hk]; exact h1 _ _
  unfold addText
  split
  · rename_i k s n ats kk t q hl
    have hs := last_split hl
    have hm : Node.mk k s n ats kk t q ∈ ks := List.mem_of_getLast? hl
    split
    · rename_i hk1
      intro x hx
      rcases List.mem_append.1 hx with hx | hx
      · exact h x (List.dropLast_subset _ hx)
      · rw [List.mem_singleton.1 hx]
        have := h _ hm
        rw [hk1] at this ⊢
        exact hj _ _ _ _ _ _ _ this
    · exact hnew
  · exact hnew
mutual
theorem elemF_all {p : Node → Prop} (h1 : ∀ t q, p (.mk 1 [] [] [] [] t q)) (hj : ∀ s n ats kk t u q, p (.mk 1 s n ats kk t q) → p (.mk 1 s n ats kk (t ++ u) q)) (he : ∀ nm ats ks q, (∀ k ∈ ks, p k) → p (.mk 0 [] nm ats ks [] q)) {ts : List Tok} {en : Nat} : ∀ {f d i : Nat} {n : Node} {j : Nat}, elemF ts en f d i = .ok (n, j) → p n
  | 0, _, _, _, _, h => by rw [elemF] at h; cases h
  | f + 1, d, i, n, j, h => by
    rw [elemF] at h
    cases ht : ts[i]? with
    | none => rw [ht] at h; cases h
    | some t =>
      rw [ht] at h
      simp only at h
      split at h
      · cases h
      · split at h
        · cases h; exact he _ _ _ _ (by simp)
        · cases hk : kidsF ts en f d t.name (i + 1) [] with
          | error e => rw [hk] at h; cases h
          | ok r =>
            obtain ⟨ks, j'⟩ := r
            rw [hk] at h
            cases h
            exact he _ _ _ _ (kidsF_all h1 hj he hk (by simp))
theorem kidsF_all {p : Node → Prop} (h1 : ∀ t q, p (.mk 1 [] [] [] [] t q)) (hj : ∀ s n ats kk t u q, p (.mk 1 s n ats kk t q) → p (.mk 1 s n ats kk (t ++ u) q)) (he : ∀ nm ats ks q, (∀ k ∈ ks, p k) → p (.mk 0 [] nm ats ks [] q)) {ts : List Tok} {en : Nat} : ∀ {f d : Nat} {nm : Bytes} {i : Nat} {ks ks' : List Node} {j : Nat}, kidsF ts en f d nm i ks = .ok (ks', j) → (∀ k ∈ ks, p k) → ∀ k ∈ ks', p k
  | 0, _, _, _, _, _, _, h, _ => by rw [kidsF] at h; cases h
  | f + 1, d, nm, i, ks, ks', j, h, hks => by
    rw [kidsF] at h
    cases ht : ts[i]? with
    | none => rw [ht] at h; cases h
    | some t =>
      rw [ht] at h
      simp only at h
      split at h
      · split at h
        · cases h; exact hks
        · cases h
      · split at h
        · cases hel : elemF ts en f (d + 1) i with
          | error e => rw [hel] at h; cases h
          | ok r =>
            obtain ⟨k, j'⟩ := r
            rw [hel] at h
            have hk := elemF_all h1 hj he hel
            exact kidsF_all h1 hj he h (fun x hx => by
              rcases List.mem_append.1 hx with hx | hx
              · exact hks x hx
              · rw [List.mem_singleton.1 hx]; exact hk)
        · exact kidsF_all h1 hj he h (addText_all h1 hj t hks)
end
theorem parL_all {p : Node → Prop} (h1 : ∀ t q, p (.mk 1 [] [] [] [] t q)) (hj : ∀ s n ats kk t u q, p (.mk 1 s n ats kk t q) → p (.mk 1 s n ats kk (t ++ u) q)) (he : ∀ nm ats ks q, (∀ k ∈ ks, p k) → p (.mk 0 [] nm ats ks [] q)) {ts : List Tok} {en : Nat} : ∀ {f i : Nat} {r : Option Node} {n : Node}, parL ts en f i r = .ok n → (∀ m, r = some m → p m) → p n
  | 0, _, _, _, h, _ => by rw [parL.eq_def] at h; simp at h
  | f + 1, i, r, n, h, hr => by
    rw [parL.eq_def] at h
    simp only at h
    cases ht : ts[i]? with
    | none =>
      rw [ht] at h
      cases r with
      | none => cases h
      | some m => cases h; exact hr _ rfl
    | some t =>
      rw [ht] at h
      simp only at h
      split at h
      · cases h
      · split at h
        · cases h
        · split at h
          · cases h
          · split at h
            · exact parL_all h1 hj he h hr
            · cases hel : elemF ts en (2 * ts.length) 1 i with
              | error e => rw [hel] at h; cases h
              | ok q =>
                obtain ⟨k, j⟩ := q
                rw [hel] at h
                exact parL_all h1 hj he h (fun m hm => by cases hm; exact elemF_all h1 hj he hel)
theorem parse_all {p : Node → Prop} (h1 : ∀ t q, p (.mk 1 [] [] [] [] t q)) (hj : ∀ s n ats kk t u q, p (.mk 1 s n ats kk t q) → p (.mk 1 s n ats kk (t ++ u) q)) (he : ∀ nm ats ks q, (∀ k ∈ ks, p k) → p (.mk 0 [] nm ats ks [] q)) {l : Bytes} {n : Node} (h : parse l = .ok n) : p n := by
  unfold parse at h
  split at h
  · cases h
  · exact parL_all h1 hj he h (fun m hm => by cases hm)
end Go.Proofs.YtaghipnheomggaaDoor
set_option linter.unusedVariables false
namespace Go.Proofs.YtaghipnheomggaaDoor
open Go.RowKit

theorem parse_clean {l : Bytes} {n : Node} (h : parse l = .ok n) : Clean n := by
  refine parse_all (p := Clean) (fun t q => ?_) (fun s n ats kk t u q hc => ?_) (fun nm ats ks q hk => ?_) h
  · rw [Clean]; exact ⟨fun _ => ⟨rfl, rfl⟩, by rw [CleanL]; trivial⟩
  · rw [Clean] at hc ⊢; exact hc
  · rw [Clean]; exact ⟨fun h => absurd rfl h, CleanL.of hk⟩
theorem parL_err {ts : List Tok} {en : Nat} : ∀ {f i : Nat} {r : Option Node} {e : Int × Nat}, i ≤ ts.length → ts.length < i + f → parL ts en f i r = .error e → e.2 ≠ 0
  | 0, i, _, _, hi, hf, h => by omega
  | f + 1, i, r, e, hi, hf, h => by
    rw [parL.eq_def] at h
    simp only at h
    cases ht : ts[i]? with
    | none =>
      rw [ht] at h
      cases r with
      | none => cases h; simp
      | some m => cases h
    | some t =>
      have hlt := (List.getElem?_eq_some_iff.1 ht).1
      rw [ht] at h
      simp only at h
      split at h
      · cases h; simp
      · split at h
        · cases h; simp
        · split at h
          · cases h; simp
          · split at h
            · exact parL_err (by omega) (by omega) h
            · cases he : elemF ts en (2 * ts.length) 1 i with
              | error q => rw [he] at h; cases h; exact elemF_err hlt (by omega) he
              | ok q =>
                obtain ⟨k, j⟩ := q
                rw [he] at h
                have := elemF_ok he
                exact parL_err this.2 (by omega) h
theorem parse_err {l : Bytes} {e : Int × Nat} (h : parse l = .error e) : e.2 ≠ 0 := by
  unfold parse at h
  split at h
  · cases h; assumption
  · exact parL_err (Nat.zero_le _) (by omega) h

/-- What parsed takes a document for. -/
def parsed8 (l : Bytes) : Option Node := if 3000 < l.length then none else match parse l with | .ok n => some n | .error _ => none
theorem parsed8_some {l : Bytes} {n : Node} (h : parsed8 l = some n) : l.length ≤ 3000 ∧ parse l = .ok n := by
  unfold parsed8 at h
  split at h
  · cases h
  · split at h
    · cases h; exact ⟨by omega, by assumption⟩
    · cases h
theorem parsed8_small {l : Bytes} {n : Node} (h : parsed8 l = some n) : full n ≤ 15000 ∧ Clean n := by
  obtain ⟨h1, h2⟩ := parsed8_some h
  exact ⟨by have := parse_full h2; omega, parse_clean h2⟩
/-- What parsed returns. -/
def PdRes (w w' : World) (r : Option Node) (e : Ending) : Prop :=
  match r with
  | none => e = .returned (.tuple #[zNodeV, .int .i64 0])
  | some n => ∃ v, e = .returned (.tuple #[v, .int .i64 1]) ∧ NodePV w' (fun b => w.heap.size ≤ b ∧ b < w'.heap.size) n v
theorem res_cell_tmp {P : Program} {fn : Func} {p q : Tmp} {ty : TypeId} (h : fn.results = #[.cell p ty, .tmp q]) (tmps : Array Value) (w : World) (g : Nat) (ht : tmps.getD p undef = .pointer (some ⟨g, 0, none⟩)) (t : TypeId) (cells : Array Value) (hg : w.heap[g]? = some (.cells cells t (0, 0)))
    {d : TypeDesc} (hu : P.underlying ty = some d) (hd : d.isRow = true) (hi : (P.info? ty).map (·.size) = some cells.size) (x : Value) (hx : tmps.getD q undef = x) : (results fn tmps).run P w = .ok (.tuple #[.agg cells, x]) w := by
  have hc : w.rangeAt g 0 cells.toList := fun j v hv => by rw [Nat.zero_add, Lib.cell_of_heap hg]; simpa using hv
  have hl := run_loadVar_mid (P := P) w g 0 ty cells.toList d hc hu hd (by simpa using hi)
  rw [Array.toArray_toList] at hl
  subst hx
  have ht' : tmps[p]?.getD undef = .pointer (some ⟨g, 0, none⟩) := by simpa using ht
  simp only [results, h]
  simp [ht', asAddr, hl]

set_option maxHeartbeats 2000000 in
theorem parsed8_any (l : Bytes) (w : World) (hl : l.length ≤ 9223372036854775807) :
    Calls Tryd.prog 12 #[.string (S l)] w fun e w' => PdRes w w' (parsed8 l) e ∧ Below w.heap.size w w' := by
  obtain ⟨R, hR⟩ : ∃ R, parsed8 l = R := ⟨_, rfl⟩
  rw [hR]
  unfold parsed8 at hR
  have B0 := Lib.hid ((Below.refl _ w).alloc (Nat.le_refl _) (.cells zNodC 29))
  have X0 := Lib.hid (heap_alloc_new w (.cells zNodC 29))
  by_cases h3 : 3000 < l.length
  · rw [if_pos h3] at hR
    have h3' : (3000 : Int) < l.length := by omega
    subst hR
    have hx0 := X0.out
    clear h3
    go_enter Tryd.func12, Tryd.ntmps12
    go_wp2_with (with_reducible refine gate ?_; refine wp_store_node rfl _ _ rfl w.heap.size _ _ _ _ _ _ _ _ _ _ _ _ rfl rfl hx0 rfl ?_; intro w2 hw2 hu2)
    refine bodyPost_ret (v := .tuple #[.agg _, _]) (res_cell_tmp Tryd.results12 _ _ w.heap.size rfl _ _ hw2 Tryd.underlying29 rfl nodeSize _ rfl) rfl ⟨rfl, ?_⟩
    exact B0.out.trans (hu2.below (by omega) B0.out.size)
  · rw [if_neg h3] at hR
    have h3' : ¬ (3000 : Int) < l.length := by omega
    have hp := fun W => refParse_any l W (by omega)
    clear h3
    cases hpr : parse l with
    | error q =>
      have he := parse_err hpr
      rw [hpr] at hR hp
      simp only at hR
      subst hR
      have HP := Lib.hid hp
      have t1 : ((q.2 : Int) == 0) = false := by rw [beq_eq_false_iff_ne]; omega
      have t2 : ((q.2 : Int) != 0) = true := by rw [bne, t1]; rfl
      clear hp hpr he
      go_enter Tryd.func12, Tryd.ntmps12
      go_wp2_with fail
      refine (HP.out _).mono ?_
      rintro e w1 ⟨rfl, hb1⟩
      have X1 := (hb1.block _ (heap_lt X0.out)).trans X0.out
      have B1 := Lib.hid (B0.out.trans (hb1.mono B0.out.size))
      have hx1 := alloc_old (o := .cells zNodC 29) X1
      clear hb1
      go_wp2_with (with_reducible refine gate ?_; refine wp_store_node rfl _ _ rfl w.heap.size _ _ _ _ _ _ _ _ _ _ _ _ rfl rfl hx1 rfl ?_; intro w2 hw2 hu2)
      refine bodyPost_ret (v := .tuple #[.agg _, _]) (res_cell_tmp Tryd.results12 _ _ w.heap.size rfl _ _ hw2 Tryd.underlying29 rfl nodeSize _ rfl) rfl ⟨rfl, ?_⟩
      exact (B1.out.alloc B1.out.size _).trans (hu2.below (by omega) (by have := B1.out.size; simp; omega))
    | ok n =>
      rw [hpr] at hR hp
      simp only at hR
      subst hR
      have HP := Lib.hid hp
      clear hp hpr
      go_enter Tryd.func12, Tryd.ntmps12
      go_wp2_with fail
      refine (HP.out _).mono ?_
      rintro e w1 ⟨⟨v, rfl, hv⟩, hb1⟩
      obtain ⟨cs, rfl, hn⟩ := hv
      obtain ⟨QA, qc, QK, qd, rfl, _, _, _, _⟩ := hn.open_
      have X1 := (hb1.block _ (heap_lt X0.out)).trans X0.out
      have B1 := Lib.hid (B0.out.trans (hb1.mono B0.out.size))
      have hx1 := alloc_old (o := nodeBox n QA qc QK qd) X1
      have hr1 := range_of_heap (cs := [_, _, _, _, _, _, _]) (heap_alloc_new w1 (nodeBox n QA qc QK qd))
      have hz0 : (w.alloc (.cells zNodC 29)).heap.size = w.heap.size + 1 := by simp
      have HN := Lib.hid hn
      clear hb1 hn
      go_wp2_with (first
        | (with_reducible refine gate ?_; refine wp_load_node rfl _ rfl w1.heap.size 0 rfl _ rfl hr1 ?_)
        | (with_reducible refine gate ?_; refine wp_store_node rfl _ _ rfl w.heap.size _ _ _ _ _ _ _ _ _ _ _ _ rfl rfl hx1 rfl ?_; intro w2 hw2 hu2))
      have hz2 := hu2.size
      rw [World.size_alloc] at hz2
      refine bodyPost_ret (v := .tuple #[.agg _, _]) (res_cell_tmp Tryd.results12 _ _ w.heap.size rfl _ _ hw2 Tryd.underlying29 rfl nodeSize _ rfl) rfl ⟨⟨_, rfl, _, rfl, ?_⟩, ?_⟩
      · have hbb : ∀ b, (fun b => (w.alloc (.cells zNodC 29)).heap.size ≤ b ∧ b < w1.heap.size) b → w.heap.size + 1 ≤ b ∧ b < w1.heap.size := fun b hb => ⟨by rw [← hz0]; exact hb.1, hb.2⟩
        exact NodeP.keep (fun b hb => (hu2.block b (by have := hbb b hb; simp; omega) (by have := hbb b hb; omega)).trans (Below.heap_alloc _ _ _ hb.2)) (fun b hb => by have := hbb b hb; exact ⟨by omega, by omega⟩) _ _ HN.out
      · exact (B1.out.alloc B1.out.size _).trans (hu2.below (by omega) (by have := B1.out.size; simp; omega))

/-! The examples. -/
def doc8a : Bytes := [60, 112, 58, 97, 32, 120, 109, 108, 110, 115, 58, 112, 61, 34, 117, 34, 32, 98, 61, 34, 49, 34, 32, 112, 58, 99, 61, 34, 50, 34, 47, 62]
def doc8b : Bytes := [60, 112, 58, 97, 47, 62]
def doc8c : Bytes := [60, 97, 32, 120, 58, 98, 61, 34, 34, 47, 62]
def tree8a : Node := .mk 0 [] [112, 58, 97] [⟨[], [120, 109, 108, 110, 115, 58, 112], [117], 5⟩, ⟨[], [98], [49], 17⟩, ⟨[], [112, 58, 99], [50], 23⟩] [] [] 0
def tree8b : Node := .mk 0 [] [112, 58, 97] [] [] [] 0
def tree8c : Node := .mk 0 [] [97] [⟨[], [120, 58, 98], [], 3⟩] [] [] 0
def res8a : Node := .mk 0 [117] [97] [⟨[], [98], [49], 17⟩, ⟨[117], [99], [50], 23⟩] [] [] 0
theorem parsed8_a : parsed8 doc8a = some tree8a := by rfl
theorem parsed8_b : parsed8 doc8b = some tree8b := by rfl
theorem parsed8_c : parsed8 doc8c = some tree8c := by rfl
theorem resolve8_a : resolveF tree8a = .ok res8a := by rfl
theorem resolve8_b : resolveF tree8b = .error (0, 13) := by rfl
theorem resolve8_c : resolveF tree8c = .error (3, 13) := by rfl
theorem split8 : splR [97, 58, 98] = ([97], [98], true) := by rfl

set_option maxHeartbeats 4000000 in
set_option maxRecDepth 100000 in
theorem alive8_any (w : World) (hT : Tabs w) :
    Calls Tryd.prog 9 #[] w fun e w' => e = .returned (.bool true) ∧ Below w.heap.size w w' := by
  have HT := Lib.hid hT
  have p1 := parsed8_any doc8a w (by decide)
  rw [parsed8_a] at p1
  have HP1 := Lib.hid p1
  clear hT p1
  go_enter Tryd.func9, Tryd.ntmps9
  go_wp2_with fail
  refine HP1.out.mono ?_
  rintro e w1 ⟨⟨v1, rfl, hv1⟩, hb1⟩
  obtain ⟨cs1, rfl, hn1⟩ := hv1
  obtain ⟨A1, c1, K1, d1, rfl, _, _, _, _⟩ := hn1.open_
  have hbb := (Below.refl _ w1).alloc (Nat.le_refl _) (nodeBox tree8a A1 c1 K1 d1)
  have N1 := Lib.hid (NodeP.keep (w' := w1.alloc (nodeBox tree8a A1 c1 K1 d1)) (p' := (· < w1.heap.size)) (fun b hb => Below.heap_alloc _ _ _ hb.2) (fun b hb => hb.2) _ _ hn1)
  have X1 := Lib.hid (heap_alloc_new w1 (nodeBox tree8a A1 c1 K1 d1))
  have BB1 := Lib.hid (hb1.alloc hb1.size (nodeBox tree8a A1 c1 K1 d1))
  clear hbb hb1 hn1
  go_wp2_with fail
  generalize w1.alloc (nodeBox tree8a A1 c1 K1 d1) = W1 at *
  refine (show Calls _ _ _ _ _ from parsed8_b ▸ parsed8_any doc8b W1 (by decide)).mono ?_
  rintro e w2 ⟨⟨v2, rfl, hv2⟩, hb2⟩
  obtain ⟨cs2, rfl, hn2⟩ := hv2
  obtain ⟨A2, c2, K2, d2, rfl, _, _, _, _⟩ := hn2.open_
  have hbb := (Below.refl _ w2).alloc (Nat.le_refl _) (nodeBox tree8b A2 c2 K2 d2)
  have N2 := Lib.hid (NodeP.keep (w' := w2.alloc (nodeBox tree8b A2 c2 K2 d2)) (p' := (· < w2.heap.size)) (fun b hb => Below.heap_alloc _ _ _ hb.2) (fun b hb => hb.2) _ _ hn2)
  have X2 := Lib.hid (heap_alloc_new w2 (nodeBox tree8b A2 c2 K2 d2))
  have BB2 := Lib.hid ((BB1.out.trans (hb2.mono BB1.out.size)).alloc (by have := BB1.out.size; have := hb2.size; omega) (nodeBox tree8b A2 c2 K2 d2))
  have hq2 := hb2.trans (hbb.mono hb2.size)
  have N1 := Lib.hid (NodeP.keep (fun b hb => hq2.block b (by have h1 : b < w1.heap.size := hb; have := heap_lt X1.out; omega)) (fun _ h => h) _ _ N1.out)
  have X1 := Lib.hid ((hq2.block _ (heap_lt X1.out)).trans X1.out)
  clear hbb hb2 hn2
  clear hq2
  go_wp2_with fail
  generalize w2.alloc (nodeBox tree8b A2 c2 K2 d2) = W2 at *
  refine (show Calls _ _ _ _ _ from parsed8_c ▸ parsed8_any doc8c W2 (by decide)).mono ?_
  rintro e w3 ⟨⟨v3, rfl, hv3⟩, hb3⟩
  obtain ⟨cs3, rfl, hn3⟩ := hv3
  obtain ⟨A3, c3, K3, d3, rfl, _, _, _, _⟩ := hn3.open_
  have hbb := (Below.refl _ w3).alloc (Nat.le_refl _) (nodeBox tree8c A3 c3 K3 d3)
  have N3 := Lib.hid (NodeP.keep (w' := w3.alloc (nodeBox tree8c A3 c3 K3 d3)) (p' := (· < w3.heap.size)) (fun b hb => Below.heap_alloc _ _ _ hb.2) (fun b hb => hb.2) _ _ hn3)
  have X3 := Lib.hid (heap_alloc_new w3 (nodeBox tree8c A3 c3 K3 d3))
  have BB3 := Lib.hid ((BB2.out.trans (hb3.mono BB2.out.size)).alloc (by have := BB2.out.size; have := hb3.size; omega) (nodeBox tree8c A3 c3 K3 d3))
  have hq3 := hb3.trans (hbb.mono hb3.size)
  have N1 := Lib.hid (NodeP.keep (fun b hb => hq3.block b (by have h1 : b < w1.heap.size := hb; have := heap_lt X1.out; omega)) (fun _ h => h) _ _ N1.out)
  have X1 := Lib.hid ((hq3.block _ (heap_lt X1.out)).trans X1.out)
  have N2 := Lib.hid (NodeP.keep (fun b hb => hq3.block b (by have h1 : b < w2.heap.size := hb; have := heap_lt X2.out; omega)) (fun _ h => h) _ _ N2.out)
  have X2 := Lib.hid ((hq3.block _ (heap_lt X2.out)).trans X2.out)
  clear hbb hb3 hn3
  clear hq3
  generalize hW3 : w3.alloc (nodeBox tree8c A3 c3 K3 d3) = W3 at *
  have r1 := Lib.hid (range_of_heap (cs := [.int .i64 tree8a.kind, .string (S tree8a.space), .string (S tree8a.name), .slice A1 tree8a.attrs.length c1, .slice K1 tree8a.kids.length d1, .string (S tree8a.text), .int .i64 tree8a.pos]) X1.out)
  have q1 := Lib.hid (resolve8_a ▸ resolveTop_any tree8a _ W3 (parsed8_small parsed8_a).2 (by decide) (HT.out.next BB3.out) (show NodeV W3 W3.heap.size tree8a (.agg #[.int .i64 tree8a.kind, .string (S tree8a.space), .string (S tree8a.name), .slice A1 tree8a.attrs.length c1, .slice K1 tree8a.kids.length d1, .string (S tree8a.text), .int .i64 tree8a.pos]) from ⟨_, rfl, NodeP.toIn (B := W3.heap.size) (fun b hb => by have h1 : b < w1.heap.size := hb; have := heap_lt X1.out; omega) _ _ N1.out⟩))
  go_wp2_with (with_reducible refine gate ?_; refine wp_load_node rfl _ rfl w1.heap.size 0 rfl _ rfl r1.out ?_)
  refine q1.out.mono ?_
  rintro e w4 ⟨⟨v4, rfl, hv4⟩, hb4⟩
  obtain ⟨cs4, rfl, hn4⟩ := hv4
  obtain ⟨A4, c4, K4, d4, rfl, _, _, _, _⟩ := hn4.open_
  have hbb := (Below.refl _ w4).alloc (Nat.le_refl _) (nodeBox res8a A4 c4 K4 d4)
  have N4 := Lib.hid (NodeP.keep (w' := w4.alloc (nodeBox res8a A4 c4 K4 d4)) (p' := (· < w4.heap.size)) (fun b hb => Below.heap_alloc _ _ _ hb.2.1) (fun b hb => hb.2.1) _ _ hn4)
  have X4 := Lib.hid (heap_alloc_new w4 (nodeBox res8a A4 c4 K4 d4))
  have BB4 := Lib.hid ((BB3.out.trans (hb4.mono BB3.out.size)).alloc (by have := BB3.out.size; have := hb4.size; omega) (nodeBox res8a A4 c4 K4 d4))
  have hq4 := hb4.trans (hbb.mono hb4.size)
  have N2 := Lib.hid (NodeP.keep (fun b hb => hq4.block b (by have h1 : b < w2.heap.size := hb; have := heap_lt X2.out; omega)) (fun _ h => h) _ _ N2.out)
  have X2 := Lib.hid ((hq4.block _ (heap_lt X2.out)).trans X2.out)
  have N3 := Lib.hid (NodeP.keep (fun b hb => hq4.block b (by have h1 : b < w3.heap.size := hb; have := heap_lt X3.out; omega)) (fun _ h => h) _ _ N3.out)
  have X3 := Lib.hid ((hq4.block _ (heap_lt X3.out)).trans X3.out)
  clear hbb hb4 hn4 hq4 r1 q1
  have r5 := Lib.hid (range_of_heap (cs := [.int .i64 tree8b.kind, .string (S tree8b.space), .string (S tree8b.name), .slice A2 tree8b.attrs.length c2, .slice K2 tree8b.kids.length d2, .string (S tree8b.text), .int .i64 tree8b.pos]) X2.out)
  have q5 := Lib.hid (resolve8_b ▸ resolveTop_any tree8b _ (w4.alloc (nodeBox res8a A4 c4 K4 d4)) (parsed8_small parsed8_b).2 (by decide) (HT.out.next BB4.out) (show NodeV (w4.alloc (nodeBox res8a A4 c4 K4 d4)) (w4.alloc (nodeBox res8a A4 c4 K4 d4)).heap.size tree8b (.agg #[.int .i64 tree8b.kind, .string (S tree8b.space), .string (S tree8b.name), .slice A2 tree8b.attrs.length c2, .slice K2 tree8b.kids.length d2, .string (S tree8b.text), .int .i64 tree8b.pos]) from ⟨_, rfl, NodeP.toIn (B := (w4.alloc (nodeBox res8a A4 c4 K4 d4)).heap.size) (fun b hb => by have h1 : b < w2.heap.size := hb; have := heap_lt X2.out; omega) _ _ N2.out⟩))
  go_wp2_with (with_reducible refine gate ?_; refine wp_load_node rfl _ rfl w2.heap.size 0 rfl _ rfl r5.out ?_)
  generalize (w4.alloc (nodeBox res8a A4 c4 K4 d4)) = W4 at *
  refine q5.out.mono ?_
  rintro e w5 ⟨rfl, hb5⟩
  have hbb := (Below.refl _ w5).alloc (Nat.le_refl _) (.cells zNodC 29)
  have BB5 := Lib.hid ((BB4.out.trans (hb5.mono BB4.out.size)).alloc (by have := BB4.out.size; have := hb5.size; omega) (.cells zNodC 29))
  have hq5 := hb5.trans (hbb.mono hb5.size)
  have N3 := Lib.hid (NodeP.keep (fun b hb => hq5.block b (by have h1 : b < w3.heap.size := hb; have := heap_lt X3.out; omega)) (fun _ h => h) _ _ N3.out)
  have X3 := Lib.hid ((hq5.block _ (heap_lt X3.out)).trans X3.out)
  have N4 := Lib.hid (NodeP.keep (fun b hb => hq5.block b (by have h1 : b < w4.heap.size := hb; have := heap_lt X4.out; omega)) (fun _ h => h) _ _ N4.out)
  have X4 := Lib.hid ((hq5.block _ (heap_lt X4.out)).trans X4.out)
  clear hbb hb5 hq5 r5 q5
  have r6 := Lib.hid (range_of_heap (cs := [.int .i64 tree8c.kind, .string (S tree8c.space), .string (S tree8c.name), .slice A3 tree8c.attrs.length c3, .slice K3 tree8c.kids.length d3, .string (S tree8c.text), .int .i64 tree8c.pos]) X3.out)
  have q6 := Lib.hid (resolve8_c ▸ resolveTop_any tree8c _ (w5.alloc (.cells zNodC 29)) (parsed8_small parsed8_c).2 (by decide) (HT.out.next BB5.out) (show NodeV (w5.alloc (.cells zNodC 29)) (w5.alloc (.cells zNodC 29)).heap.size tree8c (.agg #[.int .i64 tree8c.kind, .string (S tree8c.space), .string (S tree8c.name), .slice A3 tree8c.attrs.length c3, .slice K3 tree8c.kids.length d3, .string (S tree8c.text), .int .i64 tree8c.pos]) from ⟨_, rfl, NodeP.toIn (B := (w5.alloc (.cells zNodC 29)).heap.size) (fun b hb => by have h1 : b < w3.heap.size := hb; have := heap_lt X3.out; omega) _ _ N3.out⟩))
  go_wp2_with (with_reducible refine gate ?_; refine wp_load_node rfl _ rfl w3.heap.size 0 rfl _ rfl r6.out ?_)
  generalize (w5.alloc (.cells zNodC 29)) = W5 at *
  refine q6.out.mono ?_
  rintro e w6 ⟨rfl, hb6⟩
  have hbb := (Below.refl _ w6).alloc (Nat.le_refl _) (.cells zNodC 29)
  have BB6 := Lib.hid ((BB5.out.trans (hb6.mono BB5.out.size)).alloc (by have := BB5.out.size; have := hb6.size; omega) (.cells zNodC 29))
  have hq6 := hb6.trans (hbb.mono hb6.size)
  have N4 := Lib.hid (NodeP.keep (fun b hb => hq6.block b (by have h1 : b < w4.heap.size := hb; have := heap_lt X4.out; omega)) (fun _ h => h) _ _ N4.out)
  have X4 := Lib.hid ((hq6.block _ (heap_lt X4.out)).trans X4.out)
  clear hbb hb6 hq6 r6 q6
  have sp := Lib.hid (split8 ▸ split_any [97, 58, 98] (w6.alloc (.cells zNodC 29)) (HT.out.next BB6.out) (by decide))
  have hc6 := (cells7 X4.out).2.2.2.1
  go_wp2_with fail
  generalize w6.alloc (.cells zNodC 29) = W6 at *
  refine sp.out.mono ?_
  rintro e w7 ⟨rfl, hb7⟩
  have hn7 := NodeP.keep (fun b hb => hb7.block b (by have h1 : b < w4.heap.size := hb; have := heap_lt X4.out; omega)) (fun _ h => h) _ _ N4.out
  have hx7 := (hb7.block _ (heap_lt X4.out)).trans X4.out
  obtain ⟨A7, c7, K7, d7, hcs7, ha7, _, _, _⟩ := hn7.open_
  have hA7 : (A4 = A7 ∧ c4 = c7) ∧ K4 = K7 ∧ d4 = d7 := by simpa using hcs7
  replace hA7 := hA7.1
  rw [← hA7.1, ← hA7.2] at ha7
  obtain ⟨ab, off, hA4, _, hr0⟩ := ha7.at_ (i := 0) (by decide)
  obtain ⟨ab2, off2, hA42, _, hr1⟩ := ha7.at_ (i := 1) (by decide)
  have h2 : ab = ab2 ∧ off = off2 := by rw [hA4] at hA42; simpa using hA42
  obtain ⟨rfl, rfl⟩ := h2
  have a0 : w7.cell? ⟨ab, off, none⟩ = some (.string (S [])) := hr0 0 _ rfl
  have a1 : w7.cell? ⟨ab, off + 1, none⟩ = some (.string (S [98])) := hr0 1 _ rfl
  have a4 : w7.cell? ⟨ab, off + 4, none⟩ = some (.string (S [117])) := hr1 0 _ rfl
  have a5 : w7.cell? ⟨ab, off + 4 + 1, none⟩ = some (.string (S [99])) := hr1 1 _ rfl
  have b1 : w7.cell? ⟨w4.heap.size, 1, none⟩ = some (.string (S [117])) := (cells7 hx7).2.1
  have b2 : w7.cell? ⟨w4.heap.size, 2, none⟩ = some (.string (S [97])) := (cells7 hx7).2.2.1
  have b3 : w7.cell? ⟨w4.heap.size, 3, none⟩ = some (.slice (some ⟨ab, off, none⟩) 2 c4) := by rw [← hA4]; exact (cells7 hx7).2.2.2.1
  have HB7 := Lib.hid (BB6.out.trans (hb7.mono BB6.out.size))
  clear hn7 hx7 hcs7 hA7 ha7 hA4 hA42 hr0 hr1 hb7 hc6
  go_wp2_with fail
  go_ret
  exact ⟨rfl, HB7.out⟩
/-- The tree, the offset and the error that Resolve returns. -/
def treeOf : Except (Int × Nat) Node → Node | .error _ => zNodeN | .ok n => n
def atOf : Except (Int × Nat) Node → Int | .error q => q.1 | .ok _ => 0
def erOf : Except (Int × Nat) Node → Int | .error q => q.2 | .ok _ => 0
theorem zNodePV (w : World) (p : Nat → Prop) : NodePV w p zNodeN zNodeV := ⟨_, rfl, NodeP.of_form (n := zNodeN) ⟨none, 0, rfl, Nat.le_refl _, .inl rfl⟩ ⟨none, 0, rfl, Nat.le_refl _, .inl rfl⟩⟩
theorem ResT.formL {w w' : World} {r : Except (Int × Nat) Node} {e : Ending} (h : ResT w w' r e) : ∃ v, e = .returned (.tuple #[v, .int .i64 (atOf r), .int .i64 (erOf r)]) ∧ NodePV w' (fun b => w.heap.size ≤ b ∧ b < w'.heap.size ∧ Loose w' b) (treeOf r) v := by
  cases r with
  | error q => exact ⟨zNodeV, h, zNodePV _ _⟩
  | ok n => exact h
theorem ResT.form {w w' : World} {r : Except (Int × Nat) Node} {e : Ending} (h : ResT w w' r e) : ∃ v, e = .returned (.tuple #[v, .int .i64 (atOf r), .int .i64 (erOf r)]) ∧ NodePV w' (fun b => w.heap.size ≤ b ∧ b < w'.heap.size) (treeOf r) v := by
  obtain ⟨v, h1, h2⟩ := h.formL
  exact ⟨v, h1, h2.keep (fun _ _ => rfl) (fun k hk => ⟨hk.1, hk.2.1⟩)⟩
end Go.Proofs.YtaghipnheomggaaDoor
set_option linter.unusedVariables false
namespace Go.Proofs.YtaghipnheomggaaDoor
open Go.RowKit

mutual
theorem eqv_refl8 (o : Bool) : ∀ n : Node, eqv o n n = true
  | .mk k s nm ats ks t p => by
    rw [eqv]
    have h1 : headEqv o (.mk k s nm ats ks t p) (.mk k s nm ats ks t p) = true := by simp [headEqv]
    rw [h1]
    simp only [Node.attrs, Node.kids]
    rw [attsEqv_refl8 o ats, kidsEqv_refl8 o ks]; rfl
theorem kidsEqv_refl8 (o : Bool) : ∀ ks : List Node, kidsEqv o ks ks = true
  | [] => kidsEqv_nil _ _
  | k :: ks => by rw [kidsEqv, eqv_refl8 o k, kidsEqv_refl8 o ks]; rfl
theorem attsEqv_refl8 (o : Bool) : ∀ l : List Att, attsEqv o l l = true
  | [] => attsEqv_nil _ _
  | a :: l => by rw [attsEqv, attsEqv_refl8 o l]; simp [attEqv]
end
theorem attrsL_len {g : Scope} : ∀ {ats acc bs : List Att}, attrsL g acc ats = .ok bs → bs.length ≤ acc.length + ats.length
  | [], acc, bs, h => by rw [attrsL] at h; cases h; simp
  | a :: ats, acc, bs, h => by
    rw [attrsL] at h
    split at h
    · have := attrsL_len h; simp only [List.length_cons]; omega
    · split at h
      · cases h
      · split at h
        · cases h
        · have := attrsL_len h; simp only [List.length_append, List.length_cons, List.length_nil] at this ⊢; omega
theorem headF_len {g g' : Scope} {n : Node} {sp q : Bytes} {bs : List Att} (h : headF g n = .ok (sp, q, bs, g')) : bs.length ≤ n.attrs.length := by
  unfold headF at h
  split at h
  · cases h
  · split at h
    · cases h
    · split at h
      · cases h
      · split at h
        · cases h
        · split at h
          · cases h
          · cases h
            have := attrsL_len (by assumption)
            simpa using this
mutual
theorem resN_fit {g : Scope} : ∀ {n m : Node}, Fit n → resN g n = .ok m → Fit m
  | .mk k s nm ats ks t q, m, hf, h => by
    rw [resN] at h
    rw [Fit] at hf
    split at h
    · cases h
    · rename_i sp l bs g' hh
      split at h
      · cases h
      · rename_i ks' hk
        cases h
        have h1 := headF_len hh
        simp only [Node.attrs] at h1
        have h2 := resL_fit hf.2.2 hk
        rw [Fit]
        exact ⟨by omega, by omega, h2.1⟩
theorem resL_fit {g : Scope} : ∀ {ks ms : List Node}, FitL ks → resL g ks = .ok ms → FitL ms ∧ ms.length = ks.length
  | [], ms, _, h => by rw [resL] at h; cases h; exact ⟨by rw [FitL]; trivial, rfl⟩
  | k :: ks, ms, hf, h => by
    rw [resL] at h
    rw [FitL] at hf
    split at h
    · split at h
      · cases h
      · rename_i k' hk
        split at h
        · cases h
        · rename_i ks' hks
          cases h
          have h2 := resL_fit hf.2 hks
          exact ⟨by rw [FitL]; exact ⟨resN_fit hf.1 hk, h2.1⟩, by simp [h2.2]⟩
    · split at h
      · cases h
      · rename_i ks' hks
        cases h
        have h2 := resL_fit hf.2 hks
        exact ⟨by rw [FitL]; exact ⟨hf.1, h2.1⟩, by simp [h2.2]⟩
end
theorem treeOf_fit {n : Node} (h : Fit n) : Fit (treeOf (resolveF n)) := by
  cases hr : resolveF n with
  | error q => unfold treeOf zNodeN; rw [Fit]; exact ⟨by decide, by decide, by rw [FitL]; trivial⟩
  | ok m => exact resN_fit h hr
end Go.Proofs.YtaghipnheomggaaDoor
