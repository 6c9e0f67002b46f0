/-
  Several texts in one file, in build order:
  - Plain laws of tokens: text without markup; what escaping hides is read back; canonical tags. No program.
  - Plain laws of tokens: escaped strings in a document, CDATA sections. No program.
  - Plain laws of chapters 7 and 9: the tree of an accepted document is valid. No program.
-/
import Derived.Test.YtclhdppppgjgfaaGreatDoorH27
import Derived.Test.YtclhdppppgjgfaaGreatDoorH13
import Derived.Test.YtclhdppppgjgfaaGreatDoorH17
set_option linter.unusedVariables false
namespace Go.Proofs.YtclhdppppgjgfaaGreatDoor

theorem escForm (a : Bool) (c : UInt8) : (escOne a c = [c] ∧ c ≠ 38 ∧ c.toNat ≠ 13 ∧ (a = true → c.toNat ≠ 9 ∧ c.toNat ≠ 10)) ∨ ∃ x, escOne a c = 38 :: (x ++ [59]) ∧ (∀ b ∈ x, b ≠ 59) ∧ nameRef x = some c.toNat ∧ c.toNat < 128 := by
  by_cases h : rep a c = []
  · refine .inl ⟨escOne_no h, ?_, ?_, ?_⟩
    · rintro rfl
      exact absurd h (by cases a <;> decide)
    · intro h2; rw [rep_13 h2] at h; cases h
    · intro ha
      exact ⟨(fun h2 => by rw [rep_9 ha h2] at h; cases h), (fun h2 => by rw [rep_10 ha h2] at h; cases h)⟩
  · refine .inr ?_
    have h2 : escOne a c = rep a c := by unfold escOne; rw [if_neg h]
    rw [h2]
    unfold rep at h ⊢
    split
    · rename_i e; exact ⟨[97, 109, 112], rfl, by decide, by rw [e]; decide, by omega⟩
    · split
      · rename_i e; exact ⟨[108, 116], rfl, by decide, by rw [e]; decide, by omega⟩
      · split
        · rename_i e; exact ⟨[103, 116], rfl, by decide, by rw [e]; decide, by omega⟩
        · split
          · rename_i e; exact ⟨[35, 49, 51], rfl, by decide, by rw [e]; decide, by omega⟩
          · split
            · rename_i e; exact ⟨[113, 117, 111, 116], rfl, by decide, by rw [e.2]; decide, by omega⟩
            · split
              · rename_i e; exact ⟨[35, 57], rfl, by decide, by rw [e.2]; decide, by omega⟩
              · split
                · rename_i e; exact ⟨[35, 49, 48], rfl, by decide, by rw [e.2]; decide, by omega⟩
                · simp_all
/-- What escaping hides is read back as it was. -/
theorem contS_esc (a : Bool) : ∀ (l : Bytes) (n : Nat), contS a 0 (esc a l) n = .ok l
  | [], n => by simp [esc, contS]
  | c :: l, n => by
    have e : esc a (c :: l) = escOne a c ++ esc a l := by simp [esc]
    rw [e]
    rcases escForm a c with ⟨h1, h2, h3, h4⟩ | ⟨x, h1, h2, h3, h4⟩
    · rw [h1, List.singleton_append, contS, if_neg h2, if_neg (fun h => h3 h.1), contS_esc a l, if_neg h3]
      have : blanks a [c] = [c] := by
        unfold blanks
        simp only [List.map_cons, List.map_nil]
        split
        · rename_i h5
          have h6 := h4 h5.1
          have h7 := h5.2
          unfold isSp at h7
          simp at h7
          rw [← u8_eq (a := c) (n := 32) (by omega)]
          rfl
        · rfl
      rw [this]; rfl
    · have e2 : (38 :: (x ++ [59])) ++ esc a l = 38 :: (x ++ 59 :: esc a l) := by simp
      have ht : tailRef (x ++ 59 :: esc a l) = some (c.toNat, x.length) := by
        unfold tailRef
        rw [upto_of h2, Option.bind_some, h3]; rfl
      have e3 : enc c.toNat = [c] := by
        unfold enc okRune
        rw [if_neg (by omega), if_pos h4, UInt8.ofNat_toNat]
      have e4 : (x ++ 59 :: esc a l).drop (x.length + 1) = esc a l := by simp
      rw [h1, e2, contS, if_pos rfl, ht]
      simp only
      rw [contS_skip a (x.length + 1) _ _ (by simp), e4, contS_esc a l, e3]
      rfl

/-! What stands at a place. -/
theorem drop_add {l x y : Bytes} {n : Nat} (h : l.drop n = x ++ y) : l.drop (n + x.length) = y := by
  rw [← List.drop_drop, h, List.drop_left]
theorem drop_one {l y : Bytes} {c : UInt8} {n : Nat} (h : l.drop n = c :: y) : l.drop (n + 1) = y := drop_add (x := [c]) h
theorem drop_len {l x : Bytes} {n : Nat} (h : l.drop n = x) (hx : x ≠ []) : l.length = n + x.length := by
  have := congrArg List.length h
  rw [List.length_drop] at this
  have := List.length_pos_iff.2 hx
  omega
theorem hasAt_drop {l y t : Bytes} {n : Nat} (h : l.drop n = y) : hasAt l n t = t.isPrefixOf y := by unfold hasAt; rw [h]
theorem getD_drop {l y : Bytes} {c : UInt8} {n : Nat} (h : l.drop n = c :: y) : l.getD n 0 = c := by
  have : l[n]? = some c := by
    have := congrArg (fun z : Bytes => z[0]?) h
    simpa using this
  rw [List.getD_eq_getElem?_getD, this]; rfl
theorem spEnd_at {l y : Bytes} {c : UInt8} {n : Nat} (h : l.drop n = c :: y) (hc : isSp c = false) : spEnd l n = n := by
  unfold spEnd
  rw [h, run, if_neg (by rw [hc]; decide)]; rfl
theorem spEnd_one {l y : Bytes} {c : UInt8} {n : Nat} (h : l.drop n = 32 :: c :: y) (hc : isSp c = false) : spEnd l n = n + 1 := by
  unfold spEnd
  rw [h, run, if_pos (by decide), run, if_neg (by rw [hc]; decide)]
theorem run_stop {p : UInt8 → Bool} : ∀ {x y : Bytes} {c : UInt8}, (∀ b ∈ x, p b = true) → p c = false → run p (x ++ c :: y) = x.length
  | [], y, c, _, hc => by rw [List.nil_append, run, if_neg (by rw [hc]; decide)]; rfl
  | a :: x, y, c, h, hc => by
    rw [List.cons_append, run, if_pos (h a (by simp)), run_stop (fun b hb => h b (by simp [hb])) hc]; rfl
theorem nmS_ext (c : UInt8) (r : Bytes) (h128 : c.toNat < 128) (hq : ∀ f, qch f c.toNat = false) : ∀ (k : Nat) (f : Bool) (l : Bytes), k ≤ l.length → nmS k f l = l.length → nmS k f (l ++ c :: r) = l.length
  | 0, f, [], _, _ => nm_stop (.inr (by rw [List.nil_append, dec_low h128]; exact hq f))
  | k + 1, f, [], hk, _ => by simp at hk
  | k + 1, f, a :: t, hk, h => by
    have e : nmS (k + 1) f (a :: t) = 1 + nmS k f t := rfl
    rw [e, List.length_cons] at h
    rw [List.cons_append, nmS, nmS_ext c r h128 hq k f t (by simpa using hk) (by omega), List.length_cons]; omega
  | 0, f, a :: t, hk, h => by
    by_cases hd : (dec (a :: t)).2 = 0
    · rw [nm_stop (.inl hd)] at h; simp at h
    · by_cases hc : qch f (dec (a :: t)).1 = true
      · have hdd := dec_app hd (c :: r)
        have hl := (dec_le (a :: t)).1
        rw [nmS, if_neg hd, if_pos hc, List.length_cons] at h
        rw [List.cons_append] at hdd ⊢
        rw [nmS, hdd, if_neg hd, if_pos hc, nmS_ext c r h128 hq _ false t (by simp at hl; omega) (by omega), List.length_cons]; omega
      · rw [nm_stop (.inr (by simpa using hc))] at h; simp at h
theorem name_at {nm r : Bytes} {c : UInt8} (hn : isQName nm = true) (h128 : c.toNat < 128) (hq : ∀ f, qch f c.toNat = false) : nameLen (nm ++ c :: r) = nm.length :=
  nmS_ext c r h128 hq 0 true nm (Nat.zero_le _) ((isQName_iff _).1 hn).2
theorem name_head {nm : Bytes} (hn : isQName nm = true) : ∃ c y, nm = c :: y ∧ (c.toNat < 128 → qch true c.toNat = true) := by
  have h := (isQName_iff _).1 hn
  cases nm with
  | nil => exact absurd rfl h.1
  | cons c y =>
    refine ⟨c, y, rfl, fun h128 => ?_⟩
    cases hq : qch true c.toNat with
    | true => rfl
    | false =>
      have := nm_stop (l := c :: y) (f := true) (.inr (by rw [dec_low h128]; exact hq))
      have h2 : nmS 0 true (c :: y) = (c :: y).length := h.2
      rw [this] at h2
      simp at h2
theorem head_ne {c : UInt8} (h : c.toNat < 128 → qch true c.toNat = true) {d : UInt8} (hd : d.toNat < 128) (hq : qch true d.toNat = false) : c ≠ d := by
  rintro rfl
  rw [h hd] at hq
  cases hq
theorem head_sp {c : UInt8} (h : c.toNat < 128 → qch true c.toNat = true) : isSp c = false := by
  cases hs : isSp c with
  | false => rfl
  | true =>
    exfalso
    unfold isSp at hs
    simp at hs
    have h1 := h (by omega)
    rcases hs with e | e | e | e <;> (rw [e] at h1; exact absurd h1 (by decide))
theorem q61 (f : Bool) : qch f (61 : UInt8).toNat = false := by cases f <;> decide
theorem q62 (f : Bool) : qch f (62 : UInt8).toNat = false := by cases f <;> decide
theorem q47 (f : Bool) : qch f (47 : UInt8).toNat = false := by cases f <;> decide
theorem q32 (f : Bool) : qch f (32 : UInt8).toNat = false := by cases f <;> decide

/-- A canonical attribute is read back. -/
theorem attAt_canon {l nm v r : Bytes} {a n : Nat} (hn : isQName nm = true) (h : l.drop n = nm ++ 61 :: 34 :: (esc true v ++ 34 :: r)) : attAt l a n = .ok (⟨[], nm, v, n⟩, n + nm.length + 2 + (esc true v).length + 1) := by
  have h0 : nm.length ≠ 0 := fun h => ((isQName_iff _).1 hn).1 (List.eq_nil_of_length_eq_zero h)
  have d1 : l.drop (n + nm.length) = 61 :: 34 :: (esc true v ++ 34 :: r) := drop_add h
  have d2 : l.drop (n + nm.length + 1) = 34 :: (esc true v ++ 34 :: r) := drop_one d1
  have d3 : l.drop (n + nm.length + 1 + 1) = esc true v ++ 34 :: r := drop_one d2
  have d4 : l.drop (n + nm.length + 1 + 1 + (esc true v).length) = 34 :: r := drop_add d3
  have hlen := drop_len d4 (by simp)
  simp only [List.length_cons] at hlen
  have e1 : spEnd l (n + nm.length) = n + nm.length := spEnd_at d1 (by decide)
  have e2 : spEnd l (n + nm.length + 1) = n + nm.length + 1 := spEnd_at d2 (by decide)
  have e3 : hasAt l (n + nm.length) [61] = true := by rw [hasAt_drop d1]; simp
  have e4 : isQuote l (n + nm.length + 1) = true := by unfold isQuote; rw [hasAt_drop d2]; simp
  have e5 : valEnd l 34 (n + nm.length + 1 + 1) = n + nm.length + 1 + 1 + (esc true v).length := by
    unfold valEnd
    rw [d3, run_stop (fun b hb => ?_) (by decide)]
    have := esc_bytes true v b hb
    simp only [bne_iff_ne, ne_eq, Bool.and_eq_true]
    exact ⟨fun e => this.2 rfl (by rw [e]; rfl), fun e => this.1 (by rw [e]; rfl)⟩
  have e6 : cont true l (n + nm.length + 1 + 1) (n + nm.length + 1 + 1 + (esc true v).length) = .ok v := by
    unfold cont
    rw [List.drop_take, d3, Nat.add_sub_cancel_left, List.take_left, contS_esc]
  unfold attAt
  rw [h, name_at hn (by decide) q61, if_neg h0, e1, e2, e3, e4, if_neg (by decide), if_neg (by decide), getD_drop d2, List.take_left]
  unfold valAt
  rw [e5, e6]
  simp only
  rw [if_neg (by omega), getD_drop d4, if_neg (by decide)]
/-- Canonical attributes with the places where they stand. -/
def attsAt : Nat → List Att → List Att
  | _, [] => []
  | n, a :: l => ⟨[], a.name, a.value, (n + 1 : Nat)⟩ :: attsAt (n + (attC a).length) l
theorem attC_len (a : Att) : (attC a).length = 1 + a.name.length + 2 + (esc true a.value).length + 1 := by simp [attC]; omega
def tagEnd (em : Bool) : Bytes := if em = true then [47, 62] else [62]
theorem tagF_canon {l r : Bytes} {a : Nat} {em : Bool} : ∀ (ats : List Att) (f n : Nat) (bs : List Att) (seen : List Bytes), (∀ b ∈ bs, b.name ∈ seen) → attsOkS seen ats = true →
    l.drop n = attsC ats ++ (tagEnd em ++ r) → ats.length < f → tagF l a f n bs = .ok (bs ++ attsAt n ats, em, n + (attsC ats).length + (tagEnd em).length)
  | _, 0, _, _, _, _, _, _, hf => by omega
  | [], f + 1, n, bs, seen, _, _, h, _ => by
    rw [attsC, List.nil_append] at h
    rw [tagF]
    cases em with
    | false =>
      have h' : l.drop n = 62 :: r := h
      rw [spEnd_at h' (by decide), if_pos (by rw [hasAt_drop h']; simp)]
      simp [attsAt, attsC, tagEnd]
    | true =>
      have h' : l.drop n = 47 :: 62 :: r := h
      rw [spEnd_at h' (by decide), if_neg (by rw [hasAt_drop h']; simp), if_pos (by rw [hasAt_drop h']; simp)]
      simp [attsAt, attsC, tagEnd]
  | b :: ats, f + 1, n, bs, seen, hs, hok, h, hf => by
    rw [attsOkS] at hok
    simp only [Bool.and_eq_true, Bool.not_eq_true'] at hok
    obtain ⟨⟨⟨⟨h1, h2⟩, h3⟩, h4⟩, h5⟩ := hok
    obtain ⟨c, y, hcy, hc⟩ := name_head h3
    have hd : l.drop n = 32 :: (b.name ++ 61 :: 34 :: (esc true b.value ++ 34 :: (attsC ats ++ (tagEnd em ++ r)))) := by
      rw [h, attsC, List.append_assoc, attC_form]
    have hd1 := drop_one hd
    have hd2 : l.drop (n + 1) = c :: (y ++ 61 :: 34 :: (esc true b.value ++ 34 :: (attsC ats ++ (tagEnd em ++ r)))) := by rw [hd1, hcy]; rfl
    have hsp : spEnd l n = n + 1 := spEnd_one (c := c) (by rw [hd, hcy]; rfl) (head_sp hc)
    have n62 : c ≠ 62 := head_ne hc (by decide) (by decide)
    have n47 : c ≠ 47 := head_ne hc (by decide) (by decide)
    have hdup : ¬ bs.any (fun x => x.name == b.name) = true := by
      intro hx
      rw [List.any_eq_true] at hx
      obtain ⟨x, hx1, hx2⟩ := hx
      have h7 := hs x hx1
      rw [eq_of_beq hx2] at h7
      rw [List.contains_eq_mem, decide_eq_false_iff_not] at h2
      exact h2 h7
    have hmem : ∀ x ∈ bs ++ [(⟨[], b.name, b.value, (n + 1 : Nat)⟩ : Att)], x.name ∈ b.name :: seen := fun x hx => by
      rcases List.mem_append.1 hx with h8 | h8
      · exact List.mem_cons_of_mem _ (hs x h8)
      · simp at h8; subst h8; simp
    have hdrop : l.drop (n + 1 + b.name.length + 2 + (esc true b.value).length + 1) = attsC ats ++ (tagEnd em ++ r) := by
      have d0 : l.drop n = attC b ++ (attsC ats ++ (tagEnd em ++ r)) := by rw [h, attsC, List.append_assoc]
      rw [show n + 1 + b.name.length + 2 + (esc true b.value).length + 1 = n + (attC b).length by rw [attC_len]; omega]
      exact drop_add d0
    rw [tagF, hsp, if_neg (by rw [hasAt_drop hd2]; simp [Ne.symm n62]), if_neg (by rw [hasAt_drop hd2]; simp [Ne.symm n47]), if_neg (by rw [hasAt_drop hd2]; simp [Ne.symm n47]), if_neg (by omega), attAt_canon h3 hd1]
    simp only
    rw [if_neg hdup, tagF_canon ats f _ _ (b.name :: seen) hmem h5 hdrop (by simp at hf; omega)]
    · rw [show n + 1 + b.name.length + 2 + (esc true b.value).length + 1 = n + (attC b).length by rw [attC_len]; omega]
      simp only [attsAt, attsC, List.append_assoc, List.singleton_append, List.length_append]
      rw [show n + ((attC b).length + (attsC ats).length) = n + (attC b).length + (attsC ats).length by omega]
theorem attsC_size : ∀ l : List Att, l.length ≤ (attsC l).length
  | [] => Nat.le_refl _
  | a :: l => by
    have := attsC_size l
    have := attC_len a
    rw [attsC, List.length_append, List.length_cons]; omega
/-- A canonical start tag. -/
theorem consAt_start {l nm r : Bytes} {a : Nat} {em : Bool} {ats : List Att} (hn : isQName nm = true) (hok : attsOk ats = true) (h : l.drop a = 60 :: (nm ++ (attsC ats ++ (tagEnd em ++ r)))) :
    consAt l a = .ok (⟨1, nm, attsAt (a + 1 + nm.length) ats, em, [], a⟩, a + 1 + nm.length + (attsC ats).length + (tagEnd em).length) := by
  obtain ⟨c, y, hcy, hc⟩ := name_head hn
  have h' : l.drop a = 60 :: c :: (y ++ (attsC ats ++ (tagEnd em ++ r))) := by rw [h, hcy]; rfl
  have n63 : c ≠ 63 := head_ne hc (by decide) (by decide)
  have n33 : c ≠ 33 := head_ne hc (by decide) (by decide)
  have n47 : c ≠ 47 := head_ne hc (by decide) (by decide)
  have no : ∀ (d : UInt8) (s : Bytes), d ≠ c → ¬ hasAt l a (60 :: d :: s) = true := fun d s hd hx => by
    rw [hasAt_drop h'] at hx
    simp at hx
    exact hd hx.1
  have d1 := drop_one h
  have d2 : l.drop (a + 1 + nm.length) = attsC ats ++ (tagEnd em ++ r) := drop_add d1
  have hnl : nameLen (l.drop (a + 1)) = nm.length := by
    rw [d1]
    cases ats with
    | nil => cases em with
      | false => exact name_at (c := 62) hn (by decide) q62
      | true => exact name_at (c := 47) (r := 62 :: r) hn (by decide) q47
    | cons b ats =>
      rw [attsC, List.append_assoc, attC_form]
      exact name_at (c := 32) hn (by decide) q32
  have h0 : nm.length ≠ 0 := fun h => ((isQName_iff _).1 hn).1 (List.eq_nil_of_length_eq_zero h)
  have hlen := drop_len h (by simp)
  simp only [List.length_cons, List.length_append] at hlen
  have hsz := attsC_size ats
  unfold consAt
  rw [if_neg (show ¬ hasAt l a sPi = true from no 63 [] (Ne.symm n63)), if_neg (show ¬ hasAt l a sCom = true from no 33 [45, 45] (Ne.symm n33)), if_neg (show ¬ hasAt l a sCd = true from no 33 [91, 67, 68, 65, 84, 65, 91] (Ne.symm n33)), if_neg (show ¬ hasAt l a sDoc = true from no 33 [68, 79, 67, 84, 89, 80, 69] (Ne.symm n33)), if_neg (show ¬ hasAt l a sBang = true from no 33 [] (Ne.symm n33)), if_neg (show ¬ hasAt l a sEnd = true from no 47 [] (Ne.symm n47)),
    if_pos (by rw [hasAt_drop h]; simp [sLt])]
  unfold startAt
  rw [hnl, if_neg h0]
  unfold tagS
  rw [tagF_canon ats _ _ [] [] (fun b hb => by cases hb) hok d2 (by omega), d1, List.take_left]
  rfl
/-- A canonical end tag. -/
theorem consAt_end {l nm r : Bytes} {a : Nat} (hn : isQName nm = true) (h : l.drop a = 60 :: 47 :: (nm ++ 62 :: r)) :
    consAt l a = .ok (⟨2, nm, [], false, [], a⟩, a + 2 + nm.length + 1) := by
  have no : ∀ (d : UInt8) (s : Bytes), d ≠ 47 → ¬ hasAt l a (60 :: d :: s) = true := fun d s hd hx => by
    rw [hasAt_drop h] at hx
    simp at hx
    exact hd hx.1
  have d1 : l.drop (a + 2) = nm ++ 62 :: r := drop_add (x := [60, 47]) h
  have d2 : l.drop (a + 2 + nm.length) = 62 :: r := drop_add d1
  have h0 : nm.length ≠ 0 := fun h => ((isQName_iff _).1 hn).1 (List.eq_nil_of_length_eq_zero h)
  unfold consAt
  rw [if_neg (show ¬ hasAt l a sPi = true from no 63 [] (by decide)), if_neg (show ¬ hasAt l a sCom = true from no 33 [45, 45] (by decide)), if_neg (show ¬ hasAt l a sCd = true from no 33 [91, 67, 68, 65, 84, 65, 91] (by decide)), if_neg (show ¬ hasAt l a sDoc = true from no 33 [68, 79, 67, 84, 89, 80, 69] (by decide)), if_neg (show ¬ hasAt l a sBang = true from no 33 [] (by decide)),
    if_pos (by rw [hasAt_drop h]; simp [sEnd])]
  unfold endAt
  rw [d1, name_at hn (by decide) q62, if_neg h0, spEnd_at d2 (by decide), if_pos (by rw [hasAt_drop d2]; simp), List.take_left]
theorem findS_none {c : UInt8} : ∀ {x : Bytes}, (∀ b ∈ x, b ≠ c) → findS [c] x = none
  | [], _ => by rw [findS, if_neg (by simp)]
  | a :: x, h => by
    have ha : c ≠ a := fun e => h a (by simp) e.symm
    rw [findS, if_neg (by simp [ha]), findS_none (fun b hb => h b (by simp [hb]))]; rfl
theorem findS_at {c : UInt8} : ∀ {x r : Bytes}, (∀ b ∈ x, b ≠ c) → findS [c] (x ++ c :: r) = some x.length
  | [], r, _ => findS_hit (by simp)
  | a :: x, r, h => by
    have ha : c ≠ a := fun e => h a (by simp) e.symm
    rw [List.cons_append, findS, if_neg (by simp [ha]), findS_at (fun b hb => h b (by simp [hb]))]; rfl
/-- Text up to a tag or to the end. -/
theorem consAt_plain {l x y v : Bytes} {a : Nat} (hx : x ≠ []) (h60 : ∀ b ∈ x, b ≠ 60) (h : l.drop a = x ++ y) (hy : y = [] ∨ ∃ r, y = 60 :: r) (hv : contS false 0 x a = .ok v) :
    consAt l a = .ok (⟨3, [], [], false, v, a⟩, a + x.length) := by
  cases x with
  | nil => exact absurd rfl hx
  | cons c x =>
    have hc : c ≠ 60 := h60 c (by simp)
    have no : ∀ (s : Bytes), ¬ hasAt l a (60 :: s) = true := fun s h2 => by
      rw [hasAt_drop h] at h2
      simp at h2
      exact hc h2.1.symm
    have hlen := drop_len h (by simp)
    have ht : textEnd l a = a + (c :: x).length := by
      unfold textEnd
      rw [h]
      rcases hy with rfl | ⟨r, rfl⟩
      · rw [List.append_nil, show sLt = [60] from rfl, findS_none h60]
        simp at hlen ⊢; omega
      · rw [show sLt = [60] from rfl, findS_at h60]
    have hc2 : cont false l a (a + (c :: x).length) = .ok v := by
      unfold cont
      rw [List.drop_take, h, Nat.add_sub_cancel_left, List.take_left, hv]
    rw [consAt_else (show ¬ hasAt l a sLt = true from no []), ht, hc2]
theorem tok_step {l : Bytes} {f n e : Nat} {ts : List Tok} {t : Tok} (hn : n < l.length) (h : consAt l n = .ok (t, e)) : tokF l (f + 1) n ts = tokF l f e (if keepTok t = true then ts ++ [t] else ts) := by
  rw [tokF, if_pos hn, h]
theorem tok_done {l : Bytes} {f : Nat} {ts : List Tok} : tokF l (f + 1) l.length ts = .ok ts := by rw [tokF, if_neg (by omega)]
end Go.Proofs.YtclhdppppgjgfaaGreatDoor
set_option linter.unusedVariables false
namespace Go.Proofs.YtclhdppppgjgfaaGreatDoor

theorem check_enc {r : Nat} (hr : okRune r) (hc : isChar r = true) : (check (enc r)).2 = 0 := by
  have hd := enc_dec hr []
  rw [List.append_nil] at hd
  have hl := enc_len r hr
  have h0 : enc r ≠ [] := by intro h; rw [h] at hl; simp at hl
  unfold check
  rw [chk_next h0 (by rw [hd]; simp; omega) (by rw [hd]; exact hc), hd]
  simp [chkS]
theorem esc_same {a : Bool} : ∀ {l : Bytes}, (∀ x ∈ l, escOne a x = [x]) → esc a l = l
  | [], _ => rfl
  | c :: l, h => by
    have ih : esc a l = l := esc_same (fun x hx => h x (by simp [hx]))
    have : esc a (c :: l) = escOne a c ++ esc a l := by simp [esc]
    rw [this, ih, h c (by simp)]; rfl
theorem rep_mem (a : Bool) (c : UInt8) : rep a c = [] ∨ rep a c ∈ [[38, 97, 109, 112, 59], [38, 108, 116, 59], [38, 103, 116, 59], [38, 35, 49, 51, 59], [38, 113, 117, 111, 116, 59], [38, 35, 57, 59], [38, 35, 49, 48, 59]] := by
  unfold rep
  repeat' split
  all_goals simp
theorem check_reps : ∀ x ∈ ([[38, 97, 109, 112, 59], [38, 108, 116, 59], [38, 103, 116, 59], [38, 35, 49, 51, 59], [38, 113, 117, 111, 116, 59], [38, 35, 57, 59], [38, 35, 49, 48, 59]] : List Bytes), (check x).2 = 0 := by decide
theorem check_enc_esc {a : Bool} {r : Nat} (hr : okRune r) (hc : isChar r = true) : (check (esc a (enc r))).2 = 0 := by
  by_cases h : r < 128
  · have e : enc r = [UInt8.ofNat r] := by unfold enc; rw [if_neg (by simpa using hr), if_pos h]
    have e2 : esc a [UInt8.ofNat r] = escOne a (UInt8.ofNat r) := by simp [esc]
    by_cases h2 : rep a (UInt8.ofNat r) = []
    · rw [e, e2, escOne_no h2, ← e]; exact check_enc hr hc
    · rw [e, e2, escOne_of rfl h2]
      rcases rep_mem a (UInt8.ofNat r) with h3 | h3
      · exact absurd h3 h2
      · exact check_reps _ h3
  · rw [esc_same]
    · exact check_enc hr hc
    · intro x hx
      rcases enc_byte hr x hx with ⟨_, h2⟩ | h2
      · omega
      · exact escOne_no (rep_no (by omega) (by omega) (by omega) (by omega) (fun _ => ⟨by omega, by omega, by omega⟩))
theorem check_esc (a : Bool) : ∀ (k : Nat) (l : Bytes), l.length ≤ k → (check l).2 = 0 → (check (esc a l)).2 = 0
  | 0, l, hk, _ => by
    have : l = [] := List.eq_nil_of_length_eq_zero (by omega)
    subst this; rfl
  | k + 1, l, hk, h => by
    by_cases h0 : l = []
    · subst h0; rfl
    by_cases hd : (dec l).2 = 0
    · unfold check at h; rw [chk_bad h0 hd] at h; simp at h
    cases hc : isChar (dec l).1 with
    | false => unfold check at h; rw [chk_char h0 hd hc] at h; simp at h
    | true =>
      have hl := (dec_le l).1
      have he := dec_enc l hd
      have h2 : (check (l.drop (dec l).2)).2 = 0 := by
        have h3 := h
        unfold check at h3 ⊢
        rw [chk_next h0 hd hc, chkS_at 0 _ 0] at h3
        exact h3
      have e : l = enc (dec l).1 ++ l.drop (dec l).2 := by rw [he.2, List.take_append_drop]
      have ih := check_esc a k (l.drop (dec l).2) (by rw [List.length_drop]; omega) h2
      have e2 : esc a l = esc a (enc (dec l).1) ++ esc a (l.drop (dec l).2) := by rw [← esc_append, ← e]
      rw [e2, check_app (check_enc_esc he.1 hc)]
      exact ih
theorem check_esc_ok (a : Bool) {l : Bytes} (h : (check l).2 = 0) : (check (esc a l)).2 = 0 := check_esc a _ l (Nat.le_refl _) h
theorem check_cat {x y : Bytes} (hx : (check x).2 = 0) (hy : (check y).2 = 0) : (check (x ++ y)).2 = 0 := by rw [check_app hx]; exact hy

/-! The document of the statement on values. -/
/-! CDATA sections. -/
end Go.Proofs.YtclhdppppgjgfaaGreatDoor
set_option linter.unusedVariables false
namespace Go.Proofs.YtclhdppppgjgfaaGreatDoor

/-! Checked bytes and their parts. -/
theorem enc_low {r : Nat} (h : r < 128) : enc r = [UInt8.ofNat r] := by
  unfold enc
  rw [if_neg (by unfold okRune; omega), if_pos h]
/-- A rune read from the same first bytes is the same. -/
theorem dec_pre {l m : Bytes} (h : (dec l).2 ≠ 0) (hm : m.take (dec l).2 = l.take (dec l).2) : dec m = dec l := by
  have h1 := dec_enc l h
  have h2 := (dec_le l).1
  have e : m = enc (dec l).1 ++ m.drop (dec l).2 := by rw [h1.2, ← hm, List.take_append_drop]
  have e2 : (enc (dec l).1).length = (dec l).2 := by rw [h1.2, List.length_take]; omega
  have e3 := enc_dec h1.1 (m.drop (dec l).2)
  rw [← e, e2] at e3
  exact e3
theorem check_next {l : Bytes} (h0 : l ≠ []) (h : (check l).2 = 0) : (dec l).2 ≠ 0 ∧ isChar (dec l).1 = true ∧ (check (l.drop (dec l).2)).2 = 0 := by
  by_cases hd : (dec l).2 = 0
  · unfold check at h; rw [chk_bad h0 hd] at h; simp at h
  cases hc : isChar (dec l).1 with
  | false => unfold check at h; rw [chk_char h0 hd hc] at h; simp at h
  | true =>
    refine ⟨hd, rfl, ?_⟩
    unfold check at h ⊢
    rw [chk_next h0 hd hc, chkS_at 0 _ 0] at h
    exact h
theorem check_of {l : Bytes} (hd : (dec l).2 ≠ 0) (hc : isChar (dec l).1 = true) (h : (check (l.drop (dec l).2)).2 = 0) : (check l).2 = 0 := by
  by_cases h0 : l = []
  · subst h0; rfl
  unfold check at h ⊢
  rw [chk_next h0 hd hc, chkS_at 0 _ 0]
  exact h
/-- A rune's bytes end ahead of a low byte. -/
theorem dec_short {x y : Bytes} {c : UInt8} (hc : c.toNat < 128) (h0 : x ≠ []) (hd : (dec (x ++ c :: y)).2 ≠ 0) : (dec (x ++ c :: y)).2 ≤ x.length := by
  have he := dec_enc _ hd
  have hl := (dec_le (x ++ c :: y)).1
  rcases Nat.lt_or_ge x.length (dec (x ++ c :: y)).2 with hlt | hge
  · exfalso
    have hlen : (enc (dec (x ++ c :: y)).1).length = (dec (x ++ c :: y)).2 := by rw [he.2, List.length_take]; omega
    have hm : c ∈ enc (dec (x ++ c :: y)).1 := by
      rw [he.2, List.take_append]
      obtain ⟨m, hm⟩ : ∃ m, (dec (x ++ c :: y)).2 - x.length = m + 1 := ⟨(dec (x ++ c :: y)).2 - x.length - 1, by omega⟩
      rw [hm]; simp
    rcases enc_byte he.1 c hm with ⟨_, e2⟩ | e
    · rw [enc_low e2] at hlen
      have := List.length_pos_iff.2 h0
      simp at hlen; omega
    · omega
  · exact hge
theorem check_pre (c : UInt8) (y : Bytes) (hc : c.toNat < 128) : ∀ (k : Nat) (x : Bytes), x.length ≤ k → (check (x ++ c :: y)).2 = 0 → (check x).2 = 0
  | 0, x, hk, _ => by
    have : x = [] := List.eq_nil_of_length_eq_zero (by omega)
    subst this; rfl
  | k + 1, x, hk, h => by
    by_cases h0 : x = []
    · subst h0; rfl
    obtain ⟨hd, hi, hn⟩ := check_next (by simp) h
    have hle := dec_short hc h0 hd
    have he : dec x = dec (x ++ c :: y) := dec_pre hd (by rw [List.take_append_of_le_length hle])
    rw [drop_app hle] at hn
    have := check_pre c y hc k (x.drop (dec (x ++ c :: y)).2) (by rw [List.length_drop]; omega) hn
    exact check_of (by rw [he]; exact hd) (by rw [he]; exact hi) (by rw [he]; exact this)
theorem check_pre' {x y : Bytes} {c : UInt8} (hc : c.toNat < 128) (h : (check (x ++ c :: y)).2 = 0) : (check x).2 = 0 := check_pre c y hc _ x (Nat.le_refl _) h
theorem check_one {c : UInt8} {t : Bytes} (hc : c.toNat < 128) (h : (check (c :: t)).2 = 0) : (check [c]).2 = 0 ∧ (check t).2 = 0 := by
  obtain ⟨h1, h2, h3⟩ := check_next (by simp) h
  rw [dec_low hc] at h1 h2 h3
  refine ⟨check_of ?_ ?_ ?_, h3⟩
  · rw [dec_low hc]; exact h1
  · rw [dec_low hc]; exact h2
  · rw [dec_low hc]; rfl
/-- The bytes ahead of a place are whole runes. -/
def Bd (l : Bytes) (a : Nat) : Prop := (check (l.take a)).2 = 0
theorem Bd.zero (l : Bytes) : Bd l 0 := rfl
theorem Bd.end_ {l : Bytes} (hc : (check l).2 = 0) : Bd l l.length := by unfold Bd; rw [List.take_length]; exact hc
theorem bd_at {l : Bytes} {a : Nat} (hc : (check l).2 = 0) (h : a < l.length) (hl : l[a].toNat < 128) : Bd l a ∧ Bd l (a + 1) := by
  have e : l = l.take a ++ l[a] :: l.drop (a + 1) := by rw [← List.drop_eq_getElem_cons h, List.take_append_drop]
  have h1 : (check (l.take a)).2 = 0 := check_pre' hl (by rw [← e]; exact hc)
  have h2 : (check (l[a] :: l.drop (a + 1))).2 = 0 := by
    have := check_app h1 (l[a] :: l.drop (a + 1))
    rw [← e] at this
    rw [this] at hc
    exact hc
  refine ⟨h1, ?_⟩
  unfold Bd
  rw [List.take_succ_eq_append_getElem h]
  exact check_cat h1 (check_one hl h2).1
theorem Bd.seg {l : Bytes} {a b : Nat} (ha : Bd l a) (hb : Bd l b) (hab : a ≤ b) : (check ((l.take b).drop a)).2 = 0 := by
  unfold Bd at ha hb
  have e : l.take b = l.take a ++ (l.take b).drop a := by
    have : (l.take b).take a = l.take a := by rw [List.take_take, Nat.min_eq_left hab]
    rw [← this, List.take_append_drop]
  rw [e, check_app ha] at hb
  exact hb

/-! Names. -/
theorem qch_char {f : Bool} {r : Nat} (h : qch f r = true) : isChar r = true := by
  unfold qch at h
  simp only [Bool.or_eq_true, Bool.and_eq_true, decide_eq_true_eq] at h
  rcases h with (h | h) | h
  · exact isChar_yes (by omega)
  · have h2 := h.2
    unfold nameChar at h2
    rw [Bool.or_eq_true, more_iff] at h2
    rcases h2 with h2 | h2
    · exact isChar_yes (by omega)
    · exact (nameStart_pos h2).2.2
  · exact (nameStart_pos h).2.2
theorem check_name (m : Nat) : ∀ (l : Bytes) (f : Bool), l.length ≤ m → nmS 0 f l = l.length → (check l).2 = 0 := by
  induction m with
  | zero => intro l f h _; have : l = [] := List.eq_nil_of_length_eq_zero (by omega); subst this; rfl
  | succ m ih =>
    intro l f h hn
    by_cases h0 : l = []
    · subst h0; rfl
    have hp := List.length_pos_iff.2 h0
    by_cases hd : (dec l).2 = 0
    · rw [nm_stop (.inl hd)] at hn; omega
    cases hq : qch f (dec l).1 with
    | false => rw [nm_stop (.inr hq)] at hn; omega
    | true =>
      have hle := (dec_le l).1
      rw [nm_next hd hq] at hn
      exact check_of hd (qch_char hq) (ih _ false (by rw [List.length_drop]; omega) (by rw [List.length_drop]; omega))
theorem check_qname {l : Bytes} (h : isQName l = true) : (check l).2 = 0 := check_name _ l true (Nat.le_refl _) ((isQName_iff l).1 h).2
theorem nmS_take (m : Nat) : ∀ (l : Bytes) (f : Bool), l.length ≤ m → nmS 0 f (l.take (nmS 0 f l)) = nmS 0 f l := by
  induction m with
  | zero => intro l f h; have : l = [] := List.eq_nil_of_length_eq_zero (by omega); subst this; rfl
  | succ m ih =>
    intro l f h
    by_cases hd : (dec l).2 = 0
    · rw [nm_stop (.inl hd)]; rfl
    cases hq : qch f (dec l).1 with
    | false => rw [nm_stop (.inr hq)]; rfl
    | true =>
      have hle := (dec_le l).1
      have e := nm_next hd hq
      have hx := nmS_le (l.drop (dec l).2) 0 false
      have h1 := ih (l.drop (dec l).2) false (by rw [List.length_drop]; omega)
      have e1 : dec (l.take (nmS 0 f l)) = dec l := dec_pre hd (by rw [List.take_take, Nat.min_eq_left (by omega)])
      have e2 : (l.take (nmS 0 f l)).drop (dec l).2 = (l.drop (dec l).2).take (nmS 0 false (l.drop (dec l).2)) := by
        rw [List.drop_take, e, Nat.add_sub_cancel_left]
      rw [nm_next (by rw [e1]; exact hd) (by rw [e1]; exact hq), e1, e2, h1, ← e]
theorem qname_take {l : Bytes} (h : nameLen l ≠ 0) : isQName (l.take (nameLen l)) = true := by
  rw [isQName_iff]
  have h1 : nameLen (l.take (nameLen l)) = nameLen l := nmS_take _ l true (Nat.le_refl _)
  have h2 := nameLen_le l
  refine ⟨fun h3 => ?_, ?_⟩
  · rw [h3] at h1
    exact h h1.symm
  · rw [h1, List.length_take]; omega

/-! Text. -/
theorem check_lines (m : Nat) : ∀ (l : Bytes), l.length ≤ m → (check l).2 = 0 → (check (linesB l)).2 = 0 := by
  induction m with
  | zero => intro l h _; have : l = [] := List.eq_nil_of_length_eq_zero (by omega); subst this; rfl
  | succ m ih =>
    intro l h hc
    cases l with
    | nil => rfl
    | cons a t =>
      obtain ⟨hd, hi, hn⟩ := check_next (by simp) hc
      by_cases ha : a.toNat < 128
      · rw [dec_low ha] at hn
        have h1 := ih t (by simp at h; omega) hn
        rw [linesB]
        split
        · exact h1
        · split
          · exact check_cat (x := [10]) (by decide) h1
          · exact check_cat (x := [a]) (check_one ha hc).1 h1
      · have he := dec_enc _ hd
        have hle := (dec_le (a :: t)).1
        have hl2 : ∀ (x z : Bytes), (∀ b ∈ x, 128 ≤ b.toNat) → linesB (x ++ z) = x ++ linesB z := by
          intro x z hx
          induction x with
          | nil => rfl
          | cons b x ihx =>
            have hb := hx b (by simp)
            rw [List.cons_append, linesB, if_neg (by omega), if_neg (by omega), ihx (fun c hc => hx c (by simp [hc]))]; rfl
        have e : a :: t = enc (dec (a :: t)).1 ++ (a :: t).drop (dec (a :: t)).2 := by rw [he.2, List.take_append_drop]
        have hhigh : ∀ b ∈ enc (dec (a :: t)).1, 128 ≤ b.toNat := by
          intro b hb
          rcases enc_byte he.1 b hb with ⟨_, h2⟩ | h2
          · exfalso
            rw [enc_low h2] at e
            simp only [List.cons_append, List.nil_append, List.cons.injEq] at e
            rw [e.1, u8_of (by omega)] at ha
            omega
          · exact h2
        rw [e, hl2 _ _ hhigh]
        exact check_cat (check_enc he.1 hi) (ih _ (by rw [List.length_drop]; omega) hn)
theorem check_contS (v : Bool) (m : Nat) : ∀ (l : Bytes) (n : Nat) (x : Bytes), l.length ≤ m → (check l).2 = 0 → contS v 0 l n = .ok x → (check x).2 = 0 := by
  induction m with
  | zero =>
    intro l n x h _ hx
    have : l = [] := List.eq_nil_of_length_eq_zero (by omega)
    subst this; cases hx; rfl
  | succ m ih =>
    intro l n x h hc hx
    cases l with
    | nil => cases hx; rfl
    | cons a t =>
      obtain ⟨hd, hi, hn⟩ := check_next (by simp) hc
      by_cases ha : a.toNat < 128
      · rw [dec_low ha] at hn
        simp only [List.drop_succ_cons, List.drop_zero] at hn
        rw [contS] at hx
        split at hx
        · cases hr : tailRef t with
          | none => rw [hr] at hx; cases hx
          | some q =>
            obtain ⟨r, k⟩ := q
            rw [hr] at hx
            have hlen := tailRef_len hr
            simp only at hx
            rw [contS_skip v (k + 1) t _ hlen] at hx
            cases hy : contS v 0 (t.drop (k + 1)) (n + 1 + (k + 1)) with
            | error q => rw [hy] at hx; cases hx
            | ok y =>
              rw [hy] at hx
              cases hx
              have hch := tailRef_char hr
              have h2 : (check (t.drop (k + 1))).2 = 0 := by
                unfold tailRef at hr
                cases hu : upto 59 t with
                | none => rw [hu] at hr; cases hr
                | some z =>
                  rw [hu] at hr
                  obtain ⟨w, hw, _⟩ := upto_some hu
                  simp only [Option.bind_some] at hr
                  cases hq : nameRef z with
                  | none => rw [hq] at hr; cases hr
                  | some rr =>
                    rw [hq] at hr
                    simp only [Option.map_some, Option.some.injEq, Prod.mk.injEq] at hr
                    obtain ⟨_, rfl⟩ := hr
                    rw [hw] at hn
                    have h3 := check_pre' (by decide) hn
                    rw [check_app h3] at hn
                    have h4 := (check_one (by decide) hn).2
                    rw [hw, ← List.drop_drop, List.drop_left]
                    exact h4
              exact check_cat (check_enc (isChar_ok hch) hch) (ih _ _ y (by rw [List.length_drop]; simp at h; omega) h2 hy)
        · split at hx
          · exact ih t _ x (by simp at h; omega) hn hx
          · cases hy : contS v 0 t (n + 1) with
            | error q => rw [hy] at hx; cases hx
            | ok y =>
              rw [hy] at hx
              cases hx
              refine check_cat ?_ (ih t _ y (by simp at h; omega) hn hy)
              have h1 := (check_one ha hc).1
              unfold blanks
              simp only [List.map_cons, List.map_nil]
              have h10 : (check [(10 : UInt8)]).2 = 0 := by decide
              have h32 : (check [(32 : UInt8)]).2 = 0 := by decide
              by_cases hz : v = true ∧ isSp (if a.toNat = 13 then 10 else a) = true
              · rw [if_pos hz]; exact h32
              · rw [if_neg hz]
                split
                · exact h10
                · exact h1
      · have he := dec_enc _ hd
        have hle := (dec_le (a :: t)).1
        have hl2 : ∀ (y z : Bytes) (n : Nat), (∀ b ∈ y, 128 ≤ b.toNat) → contS v 0 (y ++ z) n = (contS v 0 z (n + y.length)).map (y ++ ·) := by
          intro y z
          induction y with
          | nil => intro n _; simp only [List.nil_append, List.length_nil, Nat.add_zero]; cases contS v 0 z n <;> rfl
          | cons b y ihy =>
            intro n hx
            have hb := hx b (by simp)
            have hsp : isSp b = false := by unfold isSp; simp; omega
            rw [List.cons_append, contS, if_neg (by rintro rfl; revert hb; decide), if_neg (by omega), if_neg (by omega), ihy (n + 1) (fun c hc => hx c (by simp [hc])), List.length_cons, show n + 1 + y.length = n + (y.length + 1) by omega]
            have : blanks v [b] = [b] := by unfold blanks; simp [hsp]
            rw [this, map_map_ex]; rfl
        have e : a :: t = enc (dec (a :: t)).1 ++ (a :: t).drop (dec (a :: t)).2 := by rw [he.2, List.take_append_drop]
        have hhigh : ∀ b ∈ enc (dec (a :: t)).1, 128 ≤ b.toNat := by
          intro b hb
          rcases enc_byte he.1 b hb with ⟨_, h2⟩ | h2
          · exfalso
            rw [enc_low h2] at e
            simp only [List.cons_append, List.nil_append, List.cons.injEq] at e
            rw [e.1, u8_of (by omega)] at ha
            omega
          · exact h2
        rw [e, hl2 _ _ _ hhigh] at hx
        cases hy : contS v 0 ((a :: t).drop (dec (a :: t)).2) (n + (enc (dec (a :: t)).1).length) with
        | error q => rw [hy] at hx; cases hx
        | ok y =>
          rw [hy] at hx
          cases hx
          exact check_cat (check_enc he.1 hi) (ih _ _ y (by rw [List.length_drop]; omega) hn hy)
theorem check_cont {v : Bool} {l x : Bytes} {a b : Nat} (ha : Bd l a) (hb : Bd l b) (hab : a ≤ b) (h : cont v l a b = .ok x) : (check x).2 = 0 := check_contS v _ _ _ x (Nat.le_refl _) (ha.seg hb hab) h

/-! Constructs. -/
theorem findS_has {t : Bytes} : ∀ {x : Bytes} {k : Nat}, findS t x = some k → t.isPrefixOf (x.drop k) = true
  | [], k, h => by
    rw [findS] at h
    split at h
    · rename_i e; subst e; simp
    · cases h
  | a :: x, k, h => by
    rw [findS] at h
    split at h
    · rename_i e; cases h; exact e
    · cases hf : findS t x with
      | none => rw [hf] at h; cases h
      | some j =>
        rw [hf] at h
        cases h
        exact findS_has (x := x) hf
theorem hasAt_get {l t : Bytes} {n : Nat} (h : hasAt l n t = true) {i : Nat} (hi : i < t.length) : ∃ h2 : n + i < l.length, l[n + i] = t[i] := by
  unfold hasAt at h
  rw [List.isPrefixOf_iff_prefix] at h
  obtain ⟨r, hr⟩ := h
  have h1 : (l.drop n)[i]? = some t[i] := by rw [← hr, List.getElem?_append_left hi, List.getElem?_eq_getElem hi]
  rw [List.getElem?_drop] at h1
  exact List.getElem?_eq_some_iff.1 h1
theorem skipAt_bd {l : Bytes} {a k e : Nat} {s : Bytes} {c : UInt8} (hc : (check l).2 = 0) (hlow : c.toNat < 128) (h : skipAt l a k (s ++ [c]) = .ok e) : Bd l e := by
  unfold skipAt at h
  cases hf : findS (s ++ [c]) (l.drop (a + k)) with
  | none => rw [hf] at h; cases h
  | some j =>
    rw [hf] at h
    cases h
    have h1 := findS_has hf
    rw [List.drop_drop] at h1
    obtain ⟨h2, h3⟩ := hasAt_get (l := l) (n := a + k + j) h1 (i := s.length) (by simp)
    have h4 := (bd_at hc h2 (by rw [h3]; simpa using hlow)).2
    simp only [List.length_append, List.length_cons, List.length_nil] at h4 ⊢
    exact h4
theorem has_bd {l : Bytes} {n : Nat} {c : UInt8} (hc : (check l).2 = 0) (hlow : c.toNat < 128) (h : hasAt l n [c] = true) : Bd l n ∧ Bd l (n + 1) := by
  obtain ⟨h1, h2⟩ := has_one.1 h
  exact bd_at hc h1 (by rw [h2]; exact hlow)
theorem textEnd_bd {l : Bytes} (hc : (check l).2 = 0) (a : Nat) : Bd l (textEnd l a) := by
  unfold textEnd
  cases hf : findS sLt (l.drop a) with
  | none => exact Bd.end_ hc
  | some j =>
    have h1 := findS_has hf
    rw [List.drop_drop] at h1
    exact (has_bd (c := 60) (n := a + j) hc (by decide) h1).1
theorem attAt_good {l : Bytes} {a n : Nat} {b : Att} {e : Nat} (hc : (check l).2 = 0) (hn : n ≤ l.length) (h : attAt l a n = .ok (b, e)) : b.space = [] ∧ isQName b.name = true ∧ charsOk b.value = true := by
  unfold attAt at h
  by_cases h1 : nameLen (l.drop n) = 0
  · rw [if_pos h1] at h; cases h
  rw [if_neg h1] at h
  by_cases h2 : hasAt l (spEnd l (n + nameLen (l.drop n))) [61] = false
  · rw [if_pos h2] at h; cases h
  rw [if_neg h2] at h
  have hq := qname_take h1
  generalize spEnd l (spEnd l (n + nameLen (l.drop n)) + 1) = y at *
  by_cases h3 : isQuote l y = false
  · rw [if_pos h3] at h; cases h
  rw [if_neg h3] at h
  have h4 : ∃ q : UInt8, q.toNat < 128 ∧ l.getD y 0 = q ∧ Bd l (y + 1) ∧ y + 1 ≤ l.length := by
    unfold isQuote at h3
    have h4 : hasAt l y [34] = true ∨ hasAt l y [39] = true := by
      cases h5 : hasAt l y [34] <;> cases h6 : hasAt l y [39] <;> simp_all
    rcases h4 with h4 | h4
    · obtain ⟨g1, g2⟩ := has_one.1 h4
      exact ⟨34, by decide, by rw [List.getD_eq_getElem?_getD, List.getElem?_eq_getElem g1, Option.getD_some, g2], (has_bd hc (by decide) h4).2, g1⟩
    · obtain ⟨g1, g2⟩ := has_one.1 h4
      exact ⟨39, by decide, by rw [List.getD_eq_getElem?_getD, List.getElem?_eq_getElem g1, Option.getD_some, g2], (has_bd hc (by decide) h4).2, g1⟩
  obtain ⟨q, hq1, hq2, hb, hyl⟩ := h4
  rw [hq2] at h
  unfold valAt at h
  have hv := valEnd_ge l q (y + 1)
  have hv2 := valEnd_le (q := q) hyl
  have hrun : valEnd l q (y + 1) ≠ l.length → Bd l (valEnd l q (y + 1)) := by
    intro hne
    have hlt : valEnd l q (y + 1) < l.length := by omega
    have hh : ((l.drop (y + 1)).drop (run (fun c => c != q && c != 60) (l.drop (y + 1)))).head? = some l[valEnd l q (y + 1)] := by
      rw [List.drop_drop, List.head?_drop]
      exact List.getElem?_eq_getElem hlt
    have h5 := run_head hh
    refine (bd_at hc hlt ?_).1
    simp only [Bool.and_eq_false_iff, bne_eq_false_iff_eq] at h5
    rcases h5 with h5 | h5
    · rw [h5]; exact hq1
    · rw [h5]; decide
  cases hx : cont true l (y + 1) (valEnd l q (y + 1)) with
  | error z => rw [hx] at h; cases h
  | ok v =>
    rw [hx] at h
    simp only at h
    split at h
    · cases h
    · rename_i h6
      split at h
      · cases h
      · cases h
        refine ⟨rfl, hq, ?_⟩
        unfold charsOk
        rw [check_cont hb (hrun h6) hv hx]; rfl
theorem attsOkS_snoc : ∀ (l : List Att) (seen : List Bytes) (b : Att), attsOkS seen l = true → b.space = [] → isQName b.name = true → charsOk b.value = true → b.name ∉ seen → (∀ c ∈ l, c.name ≠ b.name) → attsOkS seen (l ++ [b]) = true
  | [], seen, b, _, h1, h2, h3, h4, _ => by
    rw [List.nil_append, attsOkS, attsOkS, h1, h2, h3]
    simp [h4]
  | a :: l, seen, b, h, h1, h2, h3, h4, h5 => by
    rw [attsOkS] at h
    simp only [Bool.and_eq_true] at h
    rw [List.cons_append, attsOkS, attsOkS_snoc l (a.name :: seen) b h.2 h1 h2 h3 (by simp only [List.mem_cons, not_or]; exact ⟨fun e => h5 a (by simp) e.symm, h4⟩) (fun c hc => h5 c (by simp [hc]))]
    simp only [Bool.and_eq_true]
    exact ⟨h.1, trivial⟩
theorem tagF_good {l : Bytes} {a : Nat} (hc : (check l).2 = 0) : ∀ (f n : Nat) (bs cs : List Att) (em : Bool) (e : Nat), n ≤ l.length → attsOk bs = true → tagF l a f n bs = .ok (cs, em, e) → attsOk cs = true ∧ Bd l e
  | 0, _, _, _, _, _, _, _, h => by cases h
  | f + 1, n, bs, cs, em, e, hn, hb, h => by
    rw [tagF] at h
    by_cases h1 : hasAt l (spEnd l n) [62] = true
    · rw [if_pos h1] at h
      cases h
      exact ⟨hb, (has_bd hc (by decide) h1).2⟩
    rw [if_neg h1] at h
    by_cases h2 : hasAt l (spEnd l n) [47, 62] = true
    · rw [if_pos h2] at h
      cases h
      obtain ⟨h3, h4⟩ := hasAt_get h2 (i := 1) (by decide)
      exact ⟨hb, (bd_at hc h3 (by rw [h4]; decide)).2⟩
    rw [if_neg h2] at h
    by_cases h3 : hasAt l (spEnd l n) [47] = true
    · rw [if_pos h3] at h; cases h
    rw [if_neg h3] at h
    by_cases h4 : spEnd l n = n
    · rw [if_pos h4] at h; cases h
    rw [if_neg h4] at h
    cases ha : attAt l a (spEnd l n) with
    | error y => rw [ha] at h; cases h
    | ok p =>
      obtain ⟨b, y⟩ := p
      rw [ha] at h
      have h5 := attAt_ok (spEnd_le hn) ha
      have h6 := attAt_good hc (spEnd_le hn) ha
      simp only at h
      split at h
      · cases h
      · rename_i h7
        refine tagF_good hc f y _ cs em e h5.2.1 ?_ h
        refine attsOkS_snoc bs [] b hb h6.1 h6.2.1 h6.2.2 (by simp) (fun c hc e => h7 ?_)
        rw [List.any_eq_true]
        exact ⟨c, hc, by simp [e]⟩

/-- A token that a valid tree can be made of. -/
structure TokGd (t : Tok) : Prop where
  kind : t.kind = 1 ∨ t.kind = 2 ∨ t.kind = 3
  start : t.kind = 1 → isQName t.name = true ∧ attsOk t.attrs = true
  text : t.kind = 3 → t.text ≠ [] ∧ charsOk t.text = true
theorem keep_text {t : Tok} (h : t.kind = 3) (hk : keepTok t = true) : t.text ≠ [] := by
  unfold keepTok at hk
  rw [h] at hk
  simpa using hk
theorem consAt_good {l : Bytes} {a : Nat} {t : Tok} {e : Nat} (hc : (check l).2 = 0) (ha : a < l.length) (hb : Bd l a) (h : consAt l a = .ok (t, e)) : Bd l e ∧ (keepTok t = true → TokGd t) := by
  have hz : ∀ k : Nat, ¬ keepTok (zTok 3) = true := fun _ => by decide
  unfold consAt at h
  by_cases h1 : hasAt l a sPi = true
  · rw [if_pos h1] at h
    cases hs : skipAt l a 2 sPiEnd with
    | error q => rw [hs] at h; cases h
    | ok x =>
      rw [hs] at h; cases h
      exact ⟨skipAt_bd (s := [63]) (c := 62) hc (by decide) hs, fun hk => absurd hk (hz 0)⟩
  rw [if_neg h1] at h
  by_cases h2 : hasAt l a sCom = true
  · rw [if_pos h2] at h
    cases hs : skipAt l a 4 sComEnd with
    | error q => rw [hs] at h; cases h
    | ok x =>
      rw [hs] at h; cases h
      exact ⟨skipAt_bd (s := [45, 45]) (c := 62) hc (by decide) hs, fun hk => absurd hk (hz 0)⟩
  rw [if_neg h2] at h
  by_cases h3 : hasAt l a sCd = true
  · rw [if_pos h3] at h
    cases hs : skipAt l a 9 sCdEnd with
    | error q => rw [hs] at h; cases h
    | ok x =>
      rw [hs] at h; cases h
      refine ⟨skipAt_bd (s := [93, 93]) (c := 62) hc (by decide) hs, fun hk => ⟨.inr (.inr rfl), fun e => absurd (show _ = _ from e) (show ¬ ((_ : Int) = _) by simp), fun _ => ⟨keep_text rfl hk, ?_⟩⟩⟩
      obtain ⟨g1, g2⟩ := hasAt_get h3 (i := 8) (by decide)
      have b1 : Bd l (a + 9) := (bd_at hc g1 (by rw [g2]; decide)).2
      have hx := skipAt_ok (by decide) hs
      have b2 : Bd l (e - 3) := by
        unfold skipAt at hs
        cases hf : findS sCdEnd (l.drop (a + 9)) with
        | none => rw [hf] at hs; cases hs
        | some j =>
          rw [hf] at hs
          cases hs
          have h1 := findS_has hf
          rw [List.drop_drop] at h1
          have h1' : hasAt l (a + 9 + j) sCdEnd = true := h1
          obtain ⟨h2, h3⟩ := hasAt_get h1' (i := 0) (by decide)
          have := (bd_at hc h2 (by rw [h3]; decide)).1
          simpa [sCdEnd] using this
      have h5 := Bd.seg b1 b2 (by simp [sCdEnd] at hx; omega)
      rw [List.drop_take] at h5
      unfold charsOk
      simp only
      rw [check_lines _ _ (Nat.le_refl _) h5]; rfl
  rw [if_neg h3] at h
  by_cases h4 : hasAt l a sDoc = true
  · rw [if_pos h4] at h; cases h
  rw [if_neg h4] at h
  by_cases h5 : hasAt l a sBang = true
  · rw [if_pos h5] at h; cases h
  rw [if_neg h5] at h
  by_cases h6 : hasAt l a sEnd = true
  · rw [if_pos h6] at h
    unfold endAt at h
    split at h
    · cases h
    · split at h
      · rename_i g
        cases h
        exact ⟨(has_bd hc (by decide) g).2, fun _ => ⟨.inr (.inl rfl), fun e => absurd (show _ = _ from e) (show ¬ ((_ : Int) = _) by simp), fun e => absurd (show _ = _ from e) (show ¬ ((_ : Int) = _) by simp)⟩⟩
      · cases h
  rw [if_neg h6] at h
  by_cases h7 : hasAt l a sLt = true
  · rw [if_pos h7] at h
    unfold startAt at h
    have hk := nameLen_le (l.drop (a + 1))
    rw [List.length_drop] at hk
    split at h
    · cases h
    · rename_i g
      cases hs : tagS l a (a + 1 + nameLen (l.drop (a + 1))) [] with
      | error q => rw [hs] at h; cases h
      | ok r =>
        obtain ⟨bs, em, y⟩ := r
        rw [hs] at h
        cases h
        have := tagF_good hc _ _ [] bs em e (by omega) rfl hs
        exact ⟨this.2, fun _ => ⟨.inl rfl, fun _ => ⟨qname_take g, this.1⟩, fun e => absurd (show _ = _ from e) (show ¬ ((_ : Int) = _) by simp)⟩⟩
  rw [if_neg h7] at h
  cases hx : cont false l a (textEnd l a) with
  | error q => rw [hx] at h; cases h
  | ok x =>
    rw [hx] at h
    cases h
    have hte := textEnd_bd hc a
    refine ⟨hte, fun hk => ⟨.inr (.inr rfl), fun e => absurd (show _ = _ from e) (show ¬ ((_ : Int) = _) by simp), fun _ => ⟨keep_text rfl hk, ?_⟩⟩⟩
    unfold charsOk
    simp only
    rw [check_cont hb hte (textEnd_ge l a (by omega)).1 hx]; rfl
theorem tokF_good {l : Bytes} (hc : (check l).2 = 0) : ∀ (f n : Nat) (ts ls : List Tok), Bd l n → (∀ t ∈ ts, TokGd t) → tokF l f n ts = .ok ls → ∀ t ∈ ls, TokGd t
  | 0, _, _, _, _, _, h => by cases h
  | f + 1, n, ts, ls, hb, ht, h => by
    rw [tokF] at h
    by_cases hlt : n < l.length
    · rw [if_pos hlt] at h
      cases hq : consAt l n with
      | error q => rw [hq] at h; cases h
      | ok p =>
        obtain ⟨t, e⟩ := p
        rw [hq] at h
        have h1 := consAt_good hc hlt hb hq
        refine tokF_good hc f e _ ls h1.1 ?_ h
        intro u hu
        split at hu
        · rename_i hk
          rcases List.mem_append.1 hu with h2 | h2
          · exact ht u h2
          · simp at h2; subst h2; exact h1.2 hk
        · exact ht u hu
    · rw [if_neg hlt] at h
      cases h; exact ht
theorem toks_good (l : Bytes) : ∀ t ∈ (toks l).1, TokGd t := by
  unfold toks
  split
  · intro t ht; cases ht
  · rename_i hc
    have hc' : (check l).2 = 0 := by simpa using hc
    cases hq : tokS l (if hasAt l 0 sBom = true then 3 else 0) [] with
    | error q => intro t ht; cases ht
    | ok ls =>
      refine tokF_good hc' _ _ [] ls ?_ (fun t ht => by cases ht) hq
      split
      · rename_i hbom
        unfold Bd
        rw [hasAt_take] at hbom
        have : l.take 3 = sBom := by simpa [sBom] using hbom
        rw [this]; decide
      · exact Bd.zero l

/-! Trees. -/
def lastD : Bool → List Node → Bool
  | b, [] => b
  | _, k :: ks => lastD (k.kind == 1) ks
theorem vldL_snoc {lim : Bool} : ∀ (ks : List Node) (k : Node) (d : Nat) (b : Bool), vldL lim (ks ++ [k]) d b = (vldL lim ks d b && (if k.kind == 1 then !(lastD b ks) && dataOk k else vld lim k (d + 1)))
  | [], k, d, b => by simp [vldL, lastD]
  | x :: ks, k, d, b => by rw [List.cons_append, vldL, vldL, vldL_snoc ks k d, lastD, Bool.and_assoc]
theorem lastD_last : ∀ {ks : List Node} {n : Node} (b : Bool), ks.getLast? = some n → lastD b ks = (n.kind == 1)
  | [], n, b, h => by simp at h
  | [x], n, b, h => by simp at h; subst h; rfl
  | x :: y :: ks, n, b, h => by
    rw [lastD]
    exact lastD_last _ (by simpa using h)
theorem addText_vld {ks : List Node} {u : Tok} {d : Nat} {lim : Bool} (hu : u.text ≠ []) (hc : charsOk u.text = true) (h : vldL lim ks d false = true) : vldL lim (addText ks u) d false = true := by
  have hnew : dataOk (.mk 1 [] [] [] [] u.text u.pos) = true := by
    unfold dataOk
    simp [Node.text, Node.space, Node.name, Node.attrs, Node.kids, hu, hc]
  unfold addText
  cases hl : ks.getLast? with
  | none =>
    have : ks = [] := by simpa using hl
    subst this
    rw [vldL_snoc, h]
    simp [Node.kind, lastD, hnew]
  | some n =>
    obtain ⟨k, s, nm, ats, kk, t, p⟩ := n
    simp only
    have hsp := last_split hl
    have hld := lastD_last false hl
    simp only [Node.kind] at hld
    split
    · rename_i hk
      subst hk
      rw [hsp, vldL_snoc] at h
      simp only [Node.kind, beq_self_eq_true, if_true, Bool.and_eq_true] at h
      rw [vldL_snoc]
      simp only [Node.kind, beq_self_eq_true, if_true, Bool.and_eq_true]
      refine ⟨h.1, h.2.1, ?_⟩
      have h2 := h.2.2
      unfold dataOk at h2 ⊢
      simp only [Node.text, Node.space, Node.name, Node.attrs, Node.kids, Bool.and_eq_true] at h2 ⊢
      refine ⟨⟨⟨⟨⟨?_, ?_⟩, h2.1.1.1.2⟩, h2.1.1.2⟩, h2.1.2⟩, h2.2⟩
      · simp [hu]
      · unfold charsOk at hc h2 ⊢
        have h3 := h2.1.1.1.1.2
        rw [beq_iff_eq] at hc h3 ⊢
        exact check_cat h3 hc
    · rename_i hk
      rw [vldL_snoc, h, hld]
      simp [Node.kind, hnew, hk]
mutual
theorem elemF_vld {ts : List Tok} {en : Nat} (hg : ∀ t ∈ ts, TokGd t) : ∀ {f d i : Nat} {n : Node} {j : Nat}, (∀ t, ts[i]? = some t → t.kind = 1) → elemF ts en f d i = .ok (n, j) → vld true n d = true
  | 0, _, _, _, _, _, h => by rw [elemF] at h; cases h
  | f + 1, d, i, n, j, hk, h => by
    rw [elemF] at h
    cases ht : ts[i]? with
    | none => rw [ht] at h; cases h
    | some t =>
      have hm : t ∈ ts := List.mem_of_getElem? ht
      have h1 := (hg t hm).start (hk t ht)
      rw [ht] at h
      simp only at h
      split at h
      · cases h
      · rename_i hd
        split at h
        · cases h
          rw [vld]
          simp [vldL, headOk, Node.kind, Node.space, Node.text, Node.name, Node.attrs, h1.1, h1.2, hd]
        · cases hkk : kidsF ts en f d t.name (i + 1) [] with
          | error e => rw [hkk] at h; cases h
          | ok p =>
            obtain ⟨ks, j'⟩ := p
            rw [hkk] at h
            cases h
            have := kidsF_vld hg hkk rfl
            rw [vld, this]
            simp [headOk, Node.kind, Node.space, Node.text, Node.name, Node.attrs, h1.1, h1.2, hd]
theorem kidsF_vld {ts : List Tok} {en : Nat} (hg : ∀ t ∈ ts, TokGd t) : ∀ {f d : Nat} {nm : Bytes} {i : Nat} {ks ks' : List Node} {j : Nat}, kidsF ts en f d nm i ks = .ok (ks', j) → vldL true ks d false = true → vldL true ks' d false = true
  | 0, _, _, _, _, _, _, h, _ => by rw [kidsF] at h; cases h
  | f + 1, d, nm, i, ks, ks', j, h, hv => by
    rw [kidsF] at h
    cases ht : ts[i]? with
    | none => rw [ht] at h; cases h
    | some u =>
      have hm : u ∈ ts := List.mem_of_getElem? ht
      have hgu := hg u hm
      rw [ht] at h
      simp only at h
      split at h
      · split at h
        · cases h; exact hv
        · cases h
      · rename_i h2
        split at h
        · rename_i h1
          cases he : elemF ts en f (d + 1) i with
          | error e => rw [he] at h; cases h
          | ok p =>
            obtain ⟨k, j'⟩ := p
            rw [he] at h
            have hvk := elemF_vld hg (fun t hh => by rw [ht] at hh; cases hh; exact h1) he
            refine kidsF_vld hg h ?_
            have hk0 := (vld_head hvk).1
            rw [vldL_snoc, hv, hvk]
            simp [hk0]
        · rename_i h1
          have h3 : u.kind = 3 := by rcases hgu.kind with h4 | h4 | h4 <;> first | exact absurd h4 h1 | exact absurd h4 h2 | exact h4
          exact kidsF_vld hg h (addText_vld (hgu.text h3).1 (hgu.text h3).2 hv)
end
theorem parL_vld {ts : List Tok} {en : Nat} (hg : ∀ t ∈ ts, TokGd t) : ∀ {f i : Nat} {r : Option Node} {n : Node}, (∀ m, r = some m → vld true m 1 = true) → parL ts en f i r = .ok n → vld true n 1 = true
  | 0, _, _, _, _, h => by rw [parL] at h; cases h
  | f + 1, i, r, n, hr, h => by
    rw [parL_succ] at h
    cases ht : ts[i]? with
    | none =>
      rw [ht] at h
      cases r with
      | none => cases h
      | some m0 => cases h; exact hr n rfl
    | some t =>
      have hgt := hg t (List.mem_of_getElem? ht)
      rw [ht] at h
      simp only at h
      split at h
      · cases h
      · split at h
        · cases h
        · rename_i h2
          split at h
          · cases h
          · split at h
            · exact parL_vld hg hr h
            · rename_i h3
              have h1 : t.kind = 1 := by rcases hgt.kind with h4 | h4 | h4 <;> first | exact h4 | exact absurd h4 h2 | exact absurd h4 h3
              cases he : elemF ts en (2 * ts.length) 1 i with
              | error e => rw [he] at h; cases h
              | ok p =>
                obtain ⟨m, j⟩ := p
                rw [he] at h
                have hvm := elemF_vld hg (fun t' hh => by rw [ht] at hh; cases hh; exact h1) he
                exact parL_vld hg (fun x hx => by cases hx; exact hvm) h
/-- The tree of an accepted document is valid. -/
theorem parse_vld {l : Bytes} {n : Node} (h : parse l = .ok n) : vld true n 1 = true := by
  unfold parse at h
  split at h
  · cases h
  · exact parL_vld (toks_good l) (fun m hm => by cases hm) h
theorem parse_shape {l : Bytes} {n : Node} (h : parse l = .ok n) : n.kind = 0 ∧ depth n ≤ 100 := by
  have h1 := parse_vld h
  have h2 := (vld_head h1).1
  refine ⟨h2, ?_⟩
  rw [vld_depth n 1 (by omega)] at h1
  simp only [Bool.and_eq_true, decide_eq_true_eq] at h1
  omega
end Go.Proofs.YtclhdppppgjgfaaGreatDoor
