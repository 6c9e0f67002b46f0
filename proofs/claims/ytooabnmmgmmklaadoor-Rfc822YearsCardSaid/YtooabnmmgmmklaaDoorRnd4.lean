/-
  Plain laws of chapter 4: what is read back of canonical dates. No program.
-/
import Derived.Test.YtooabnmmgmmklaaDoorWrd4
set_option linter.unusedVariables false
namespace Go.Proofs.YtooabnmmgmmklaaDoor

/-- What Parse returns. -/
def parse4 (l : Bytes) : Int × Int := parseW (splitW (collapse l))
theorem parse4_join {ws : List Bytes} (h : ∀ x ∈ ws, isWord x) (h0 : ws ≠ []) : parse4 (joinW ws) = parseW ws := by
  unfold parse4
  rw [collapse_words, wordsOf_join ws h, splitW_join ws h h0]
theorem parse4_spread {sp : Bytes} (hs : ∀ c ∈ sp, spc c = true) (h0 : sp ≠ []) (s : Bytes) : parse4 (sp ++ (spread sp (collapse s) ++ sp)) = parse4 s := by
  unfold parse4
  rw [collapse_spread hs h0]

/-! Bytes of words. -/
theorem dg_cases (n : Nat) : ∃ k, k < 10 ∧ dg n = UInt8.ofNat (48 + k) := ⟨n % 10, by omega, rfl⟩
theorem dg_spc (n : Nat) : spc (dg n) = false := by
  unfold spc
  rw [dg_nat]
  have h : ((48 + n % 10 : Nat) : Int) ≠ 32 ∧ ((48 + n % 10 : Nat) : Int) ≠ 9 ∧ ((48 + n % 10 : Nat) : Int) ≠ 10 ∧ ((48 + n % 10 : Nat) : Int) ≠ 13 := by omega
  simp only [Bool.or_eq_false_iff, beq_eq_false_iff_ne]
  exact ⟨⟨⟨h.1, h.2.1⟩, h.2.2.1⟩, h.2.2.2⟩
theorem dg_low (n : Nat) : low (dg n) = dg n := by
  unfold low
  rw [dg_nat, if_neg (by omega)]
theorem low58 : low 58 = 58 := by decide
theorem low32 : low 32 = 32 := by decide
theorem d2_word (n : Nat) : isWord (d2 n) := ⟨by simp [d2], fun c hc => by
  simp only [d2, List.mem_cons, List.not_mem_nil, or_false] at hc
  rcases hc with rfl | rfl <;> exact dg_spc _⟩
theorem d4_word (n : Nat) : isWord (d4 n) := ⟨by simp [d4], fun c hc => by
  simp only [d4, List.mem_cons, List.not_mem_nil, or_false] at hc
  rcases hc with rfl | rfl | rfl | rfl <;> exact dg_spc _⟩
theorem clk_form (s : Nat) : clk s = [dg (s / 3600 / 10), dg (s / 3600), 58, dg (s / 60 % 60 / 10), dg (s / 60 % 60), 58, dg (s % 60 / 10), dg (s % 60)] := rfl
theorem clk_word (s : Nat) : isWord (clk s) := ⟨by rw [clk_form]; simp, fun c hc => by
  rw [clk_form] at hc
  simp only [List.mem_cons, List.not_mem_nil, or_false] at hc
  rcases hc with rfl | rfl | rfl | rfl | rfl | rfl | rfl | rfl <;> first | exact dg_spc _ | decide⟩
theorem d2_low (n : Nat) : lowS (d2 n) = d2 n := by
  show [low (dg (n / 10)), low (dg n)] = _
  rw [dg_low, dg_low]; rfl
theorem d4_low (n : Nat) : lowS (d4 n) = d4 n := by
  show [low (dg (n / 1000)), low (dg (n / 100)), low (dg (n / 10)), low (dg n)] = _
  rw [dg_low, dg_low, dg_low, dg_low]; rfl
theorem clk_low (s : Nat) : lowS (clk s) = clk s := by
  rw [clk_form]
  show [low (dg _), low (dg _), low 58, low (dg _), low (dg _), low 58, low (dg _), low (dg _)] = _
  simp only [dg_low, low58]

/-! The parts of a canonical date. -/
def dayN (w : Nat) : Bytes := titleS (dayTab.getD w [])
def monN (m : Nat) : Bytes := titleS (monTab.getD (m - 1) [])
def sGMT : Bytes := [71, 77, 84]
theorem dayTab_ok : ∀ x ∈ dayTab, isDay (x ++ [44]) = true ∧ isDay (titleS x ++ [44]) = true ∧ isDay x = false ∧ isDay (titleS x) = false ∧ lowS (titleS x) = x ∧ lowS x = x ∧ (x.all fun c => !spc c) = true ∧ ((titleS x).all fun c => !spc c) = true ∧ x.length = 3 ∧ (titleS x).length = 3 := by decide
theorem monTab_ok : ∀ i : Fin 12, monthOf (titleS (monTab.getD i.1 [])) = i.1 + 1 ∧ lowS (titleS (monTab.getD i.1 [])) = monTab.getD i.1 [] ∧ ((titleS (monTab.getD i.1 [])).all fun c => !spc c) = true ∧ ((monTab.getD i.1 []).all fun c => !spc c) = true ∧ (titleS (monTab.getD i.1 [])).length = 3 ∧ (monTab.getD i.1 []).length = 3 := by decide
theorem word_of {x : Bytes} (h0 : x.length = 3) (h : (x.all fun c => !spc c) = true) : isWord x := by
  refine ⟨fun e => by subst e; simp at h0, fun c hc => ?_⟩
  rw [List.all_eq_true] at h
  simpa using h c hc
theorem clockOf_clk {s : Nat} (h : s < 86400) : clockOf (clk s) = some (s / 3600, s / 60 % 60, s % 60) := by
  have e1 : (clk s).take 2 = d2 (s / 3600) := rfl
  have e2 : ((clk s).drop 3).take 2 = d2 (s / 60 % 60) := rfl
  have e3 : (clk s).drop 6 = d2 (s % 60) := rfl
  have l : (clk s).length = 8 := rfl
  unfold clockOf
  rw [l, if_neg (by simp), if_pos ⟨rfl, rfl, rfl⟩, e1, e2, e3, (num_d2 (by omega)).1, (num_d2 (by omega)).1, (num_d2 (by omega)).1]
theorem yearOf_d4 {y : Nat} (h : y < 10000) : yearOf (d4 y) = some y := by
  unfold yearOf
  rw [(num_d4 h).2]
  rfl
theorem secOf_time {t : Int} {y m d s : Nat} (h : TimeOf t y m d s) : secOf y m d ((s / 3600 : Nat) : Int) ((s / 60 % 60 : Nat) : Int) ((s % 60 : Nat) : Int) = some t := by
  have h1 := h.sec; have h2 := h.eq
  unfold secOf
  rw [if_pos ⟨h.date, by omega, by omega, by omega, by omega, by omega, by omega⟩]
  congr 1
  omega
/-- Five words of a canonical date, the names in any case. -/
theorem words5_time {t : Int} {y m d s : Nat} (h : TimeOf t y m d s) {mw z : Bytes} (hm : lowS mw = monTab.getD (m - 1) []) (hz : lowS z = [103, 109, 116]) : words5 (d2 d) mw (d4 y) (clk s) z = (t, 0) := by
  have hp := h.parts
  have hr := h.range
  have e1 : monthOf mw = m := by
    have := (monTab_ok ⟨m - 1, by omega⟩).1
    have h2 := (monTab_ok ⟨m - 1, by omega⟩).2.1
    simp only at this h2
    unfold monthOf at this ⊢
    rw [h2] at this
    rw [hm, this]; omega
  have e2 : zoneOf z = some 0 := by
    unfold zoneOf
    rw [hz]
    rfl
  unfold words5
  rw [(num_d2 (by omega)).2, yearOf_d4 (by omega), clockOf_clk h.sec, e2, e1]
  simp only
  rw [if_neg (by omega), secOf_time h]
  simp only
  rw [if_neg (by omega)]
  simp
theorem parseW_time {t : Int} {y m d s : Nat} (h : TimeOf t y m d s) {dw mw z : Bytes} (hd : isDay dw = true) (hm : lowS mw = monTab.getD (m - 1) []) (hz : lowS z = [103, 109, 116]) : parseW [dw, d2 d, mw, d4 y, clk s, z] = (t, 0) := by
  unfold parseW
  rw [show ([dw, d2 d, mw, d4 y, clk s, z].headD []) = dw from rfl, if_pos hd]
  exact words5_time h hm hz
theorem isDay_d2 (n : Nat) : isDay (d2 n) = false := by
  unfold isDay
  rw [d2_low]
  have : ∀ x ∈ dayTab, (d2 n == x ++ [44]) = false := by
    intro x hx
    have hl := (dayTab_ok x hx).2.2.2.2.2.2.2.2.1
    rw [beq_eq_false_iff_ne]
    intro e
    have := congrArg List.length e
    rw [List.length_append, hl] at this
    simp [d2] at this
  rw [Bool.eq_false_iff]
  intro hh
  rw [List.any_eq_true] at hh
  obtain ⟨x, hx, h2⟩ := hh
  rw [this x hx] at h2
  cases h2
theorem parseW_noday {t : Int} {y m d s : Nat} (h : TimeOf t y m d s) {mw z : Bytes} (hm : lowS mw = monTab.getD (m - 1) []) (hz : lowS z = [103, 109, 116]) : parseW [d2 d, mw, d4 y, clk s, z] = (t, 0) := by
  unfold parseW
  rw [show ([d2 d, mw, d4 y, clk s, z].headD []) = d2 d from rfl, isDay_d2]
  exact words5_time h hm hz
theorem parseW_six {a b c d e f : Bytes} (h : isDay a = false) : parseW [a, b, c, d, e, f] = (0, 20) := by
  unfold parseW
  rw [show ([a, b, c, d, e, f].headD []) = a from rfl, h]
  rfl

/-! The canonical date as words; in lower and in upper case. -/
theorem f82_join (w y m d s : Nat) : f82 w y m d s = joinW [dayN w ++ [44], d2 d, monN m, d4 y, clk s, sGMT] := by
  simp [f82, joinW, dayN, monN, sGMT]
def upc (c : UInt8) : UInt8 := if 97 ≤ c.toNat ∧ c.toNat ≤ 122 then UInt8.ofNat (c.toNat - 32) else c
def upS (s : Bytes) : Bytes := s.map upc
theorem joinW_map {f : UInt8 → UInt8} (h : f 32 = 32) : ∀ ws : List Bytes, (joinW ws).map f = joinW (ws.map fun x => x.map f)
  | [] => rfl
  | [x] => rfl
  | x :: y :: l => by
    have := joinW_map h (y :: l)
    rw [List.map_cons] at this
    rw [joinW, List.map_append, List.map_cons, h, this, List.map_cons, List.map_cons, joinW]
theorem low_up : ∀ c : UInt8, low (upc c) = low c := by
  intro c
  have hc := u8_lt c
  unfold low upc
  by_cases h : 97 ≤ c.toNat ∧ c.toNat ≤ 122
  · rw [if_pos h, u8_of (by omega), if_pos (by omega), if_neg (by omega), show c.toNat - 32 + 32 = c.toNat by omega, UInt8.ofNat_toNat]
  · rw [if_neg h]
theorem low_low : ∀ c : UInt8, low (low c) = low c := by
  intro c
  have hc := u8_lt c
  unfold low
  by_cases h : 65 ≤ c.toNat ∧ c.toNat ≤ 90
  · rw [if_pos h, u8_of (by omega), if_neg (by omega)]
  · rw [if_neg h, if_neg h]
theorem lowS_up (x : Bytes) : lowS (upS x) = lowS x := by
  unfold lowS upS
  rw [List.map_map]
  congr 1
  funext c
  exact low_up c
theorem lowS_low (x : Bytes) : lowS (lowS x) = lowS x := by
  unfold lowS
  rw [List.map_map]
  congr 1
  funext c
  exact low_low c
theorem up_dg (n : Nat) : upc (dg n) = dg n := by
  unfold upc
  rw [dg_nat, if_neg (by omega)]
theorem isDay_low {x y : Bytes} (h : lowS x = lowS y) : isDay x = isDay y := by unfold isDay; rw [h]
theorem spc_map {f : UInt8 → UInt8} (hf : ∀ c, spc (f c) = spc c) {x : Bytes} (h : isWord x) : isWord (x.map f) := by
  refine ⟨fun e => h.1 (by simpa using e), fun c hc => ?_⟩
  rw [List.mem_map] at hc
  obtain ⟨a, ha, rfl⟩ := hc
  rw [hf]; exact h.2 a ha
theorem spc_nat (c : UInt8) : spc c = decide (c.toNat = 32 ∨ c.toNat = 9 ∨ c.toNat = 10 ∨ c.toNat = 13) := by
  unfold spc
  rw [Bool.eq_iff_iff]
  simp only [Bool.or_eq_true, beq_iff_eq, decide_eq_true_eq]
  omega
theorem spc_low (c : UInt8) : spc (low c) = spc c := by
  have hc := u8_lt c
  rw [spc_nat, spc_nat]
  unfold low
  by_cases h : 65 ≤ c.toNat ∧ c.toNat ≤ 90
  · rw [if_pos h, u8_of (by omega)]
    congr 1
    simp only [eq_iff_iff]; omega
  · rw [if_neg h]
theorem spc_up (c : UInt8) : spc (upc c) = spc c := by
  have hc := u8_lt c
  rw [spc_nat, spc_nat]
  unfold upc
  by_cases h : 97 ≤ c.toNat ∧ c.toNat ≤ 122
  · rw [if_pos h, u8_of (by omega)]
    congr 1
    simp only [eq_iff_iff]; omega
  · rw [if_neg h]
/-- A weekday's place. -/
theorem dayN_mem {w : Nat} (h : w < 7) : dayTab.getD w [] ∈ dayTab := by
  have : w = 0 ∨ w = 1 ∨ w = 2 ∨ w = 3 ∨ w = 4 ∨ w = 5 ∨ w = 6 := by omega
  rcases this with rfl | rfl | rfl | rfl | rfl | rfl | rfl <;> decide
theorem dayN_word {w : Nat} (h : w < 7) : isWord (dayN w ++ [44]) ∧ isWord (dayN w) ∧ isDay (dayN w ++ [44]) = true ∧ isDay (dayN w) = false ∧ (dayN w).length = 3 := by
  have := dayTab_ok _ (dayN_mem h)
  have hw := word_of this.2.2.2.2.2.2.2.2.2 this.2.2.2.2.2.2.2.1
  refine ⟨⟨by simp, fun c hc => ?_⟩, hw, this.2.1, this.2.2.2.1, this.2.2.2.2.2.2.2.2.2⟩
  rcases List.mem_append.1 hc with hc | hc
  · exact hw.2 c hc
  · simp at hc; subst hc; decide
theorem monN_word {m : Nat} (h1 : 1 ≤ m) (h2 : m ≤ 12) : isWord (monN m) ∧ lowS (monN m) = monTab.getD (m - 1) [] := by
  have := monTab_ok ⟨m - 1, by omega⟩
  exact ⟨word_of this.2.2.2.2.1 this.2.2.1, this.2.1⟩
theorem sGMT_word : isWord sGMT ∧ lowS sGMT = [103, 109, 116] := ⟨⟨by decide, by decide⟩, by decide⟩
/-- Whatever the case of its letters, a canonical date is read back. -/
theorem parse4_f82 {t : Int} {y m d s w : Nat} (h : TimeOf t y m d s) (hw : w < 7) {f : UInt8 → UInt8} (hf32 : f 32 = 32) (hfs : ∀ c, spc (f c) = spc c) (hfl : ∀ c, low (f c) = low c) (hfd : ∀ n, f (dg n) = dg n) (hf58 : f 58 = 58) :
    parse4 ((f82 w y m d s).map f) = (t, 0) := by
  have hp := h.parts
  obtain ⟨w1, _, w3, _, _⟩ := dayN_word hw
  obtain ⟨m1, m2⟩ := monN_word hp.2.2.1 hp.2.2.2.1
  have hlow : ∀ x : Bytes, lowS (x.map f) = lowS x := by
    intro x
    unfold lowS
    rw [List.map_map]
    congr 1
    funext c
    exact hfl c
  have e1 : (d2 d).map f = d2 d := by show [f (dg (d / 10)), f (dg d)] = _; rw [hfd, hfd]; rfl
  have e2 : (d4 y).map f = d4 y := by show [f (dg (y / 1000)), f (dg (y / 100)), f (dg (y / 10)), f (dg y)] = _; rw [hfd, hfd, hfd, hfd]; rfl
  have e3 : (clk s).map f = clk s := by
    rw [clk_form]
    simp only [List.map_cons, List.map_nil, hfd, hf58]
  rw [f82_join, joinW_map hf32]
  simp only [List.map_cons, List.map_nil]
  rw [e1, e2, e3, parse4_join]
  · exact parseW_time h (by rw [isDay_low (hlow _)]; exact w3) (by rw [hlow]; exact m2) (by rw [hlow]; exact sGMT_word.2)
  · intro x hx
    simp only [List.mem_cons, List.not_mem_nil, or_false] at hx
    rcases hx with rfl | rfl | rfl | rfl | rfl | rfl
    · exact spc_map hfs w1
    · exact d2_word d
    · exact spc_map hfs m1
    · exact d4_word y
    · exact clk_word s
    · exact spc_map hfs sGMT_word.1
  · simp
theorem parse4_plain {t : Int} {y m d s w : Nat} (h : TimeOf t y m d s) (hw : w < 7) : parse4 (f82 w y m d s) = (t, 0) := by
  have := parse4_f82 h hw (f := id) rfl (fun _ => rfl) (fun _ => rfl) (fun _ => rfl) rfl
  rw [List.map_id] at this
  exact this
theorem parse4_lower {t : Int} {y m d s w : Nat} (h : TimeOf t y m d s) (hw : w < 7) : parse4 (lowS (f82 w y m d s)) = (t, 0) :=
  parse4_f82 h hw low32 spc_low low_low dg_low low58
theorem parse4_upper {t : Int} {y m d s w : Nat} (h : TimeOf t y m d s) (hw : w < 7) : parse4 (upS (f82 w y m d s)) = (t, 0) :=
  parse4_f82 h hw (by decide) spc_up low_up up_dg (by decide)
/-- Another day of the week, none, and one without its comma. -/
theorem parse4_weekday {t : Int} {y m d s w k : Nat} (h : TimeOf t y m d s) (hw : w < 7) (hk : k < 7) :
    parse4 (dayN k ++ (f82 w y m d s).drop 3) = (t, 0) ∧ parse4 ((f82 w y m d s).drop 5) = (t, 0) ∧ parse4 (dayN k ++ 32 :: (f82 w y m d s).drop 5) = (0, 20) := by
  have hp := h.parts
  obtain ⟨w1, _, w3, _, wl⟩ := dayN_word hw
  obtain ⟨k1, k2, k3, k4, kl⟩ := dayN_word hk
  obtain ⟨m1, m2⟩ := monN_word hp.2.2.1 hp.2.2.2.1
  have hws : ∀ x ∈ [d2 d, monN m, d4 y, clk s, sGMT], isWord x := by
    intro x hx
    simp only [List.mem_cons, List.not_mem_nil, or_false] at hx
    rcases hx with rfl | rfl | rfl | rfl | rfl
    · exact d2_word d
    · exact m1
    · exact d4_word y
    · exact clk_word s
    · exact sGMT_word.1
  have e0 : f82 w y m d s = dayN w ++ ([44, 32] ++ joinW [d2 d, monN m, d4 y, clk s, sGMT]) := by
    rw [f82_join, joinW]; simp
  have e3 : (f82 w y m d s).drop 3 = [44, 32] ++ joinW [d2 d, monN m, d4 y, clk s, sGMT] := by
    rw [e0, ← wl, List.drop_left]
  have e5 : (f82 w y m d s).drop 5 = joinW [d2 d, monN m, d4 y, clk s, sGMT] := by
    rw [show (5 : Nat) = 3 + 2 from rfl, ← List.drop_drop, e3]; rfl
  have jc : ∀ (a b : Bytes) (l : List Bytes), joinW (a :: b :: l) = a ++ 32 :: joinW (b :: l) := fun _ _ _ => rfl
  refine ⟨?_, ?_, ?_⟩
  · rw [e3, show dayN k ++ ([44, 32] ++ joinW [d2 d, monN m, d4 y, clk s, sGMT]) = joinW [dayN k ++ [44], d2 d, monN m, d4 y, clk s, sGMT] by rw [jc (dayN k ++ [44])]; simp]
    rw [parse4_join (fun x hx => by rcases List.mem_cons.1 hx with rfl | hx; exact k1; exact hws x hx) (by simp)]
    exact parseW_time h k3 m2 sGMT_word.2
  · rw [e5, parse4_join hws (by simp)]
    exact parseW_noday h m2 sGMT_word.2
  · rw [e5, show dayN k ++ 32 :: joinW [d2 d, monN m, d4 y, clk s, sGMT] = joinW [dayN k, d2 d, monN m, d4 y, clk s, sGMT] by rw [jc (dayN k)]]
    rw [parse4_join (fun x hx => by rcases List.mem_cons.1 hx with rfl | hx; exact k2; exact hws x hx) (by simp)]
    exact parseW_six k4
end Go.Proofs.YtooabnmmgmmklaaDoor
