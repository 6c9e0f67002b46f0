/-
  Walks of chapter 4: zones (the program).
-/
import Derived.Test.YtooabnmmgmmklaaDoorNum4
import Derived.Test.YtooabnmmgmmklaaDoorMap
import Derived.OwnWalk
set_option linter.unusedVariables false
namespace Go.Proofs.YtooabnmmgmmklaaDoor
open Go.RowKit

/-- The names, as the map holds them. -/
def zoneM : List (Bytes × Value) := zoneTab.map fun p => (p.1, .int .i64 p.2)
theorem zone_put1 {w : World} {b : Nat} (h : MapOf w b (putM [117, 116] (.int .i64 0) (zoneM.take 0))) : MapOf w b (zoneM.take 1) := h
theorem zone_put2 {w : World} {b : Nat} (h : MapOf w b (putM [117, 116, 99] (.int .i64 0) (zoneM.take 1))) : MapOf w b (zoneM.take 2) := h
theorem zone_put3 {w : World} {b : Nat} (h : MapOf w b (putM [103, 109, 116] (.int .i64 0) (zoneM.take 2))) : MapOf w b (zoneM.take 3) := h
theorem zone_put4 {w : World} {b : Nat} (h : MapOf w b (putM [122] (.int .i64 0) (zoneM.take 3))) : MapOf w b (zoneM.take 4) := h
theorem zone_put5 {w : World} {b : Nat} (h : MapOf w b (putM [101, 115, 116] (.int .i64 (-5)) (zoneM.take 4))) : MapOf w b (zoneM.take 5) := h
theorem zone_put6 {w : World} {b : Nat} (h : MapOf w b (putM [101, 100, 116] (.int .i64 (-4)) (zoneM.take 5))) : MapOf w b (zoneM.take 6) := h
theorem zone_put7 {w : World} {b : Nat} (h : MapOf w b (putM [99, 115, 116] (.int .i64 (-6)) (zoneM.take 6))) : MapOf w b (zoneM.take 7) := h
theorem zone_put8 {w : World} {b : Nat} (h : MapOf w b (putM [99, 100, 116] (.int .i64 (-5)) (zoneM.take 7))) : MapOf w b (zoneM.take 8) := h
theorem zone_put9 {w : World} {b : Nat} (h : MapOf w b (putM [109, 115, 116] (.int .i64 (-7)) (zoneM.take 8))) : MapOf w b (zoneM.take 9) := h
theorem zone_put10 {w : World} {b : Nat} (h : MapOf w b (putM [109, 100, 116] (.int .i64 (-6)) (zoneM.take 9))) : MapOf w b (zoneM.take 10) := h
theorem zone_put11 {w : World} {b : Nat} (h : MapOf w b (putM [112, 115, 116] (.int .i64 (-8)) (zoneM.take 10))) : MapOf w b (zoneM.take 11) := h
theorem zone_put12 {w : World} {b : Nat} (h : MapOf w b (putM [112, 100, 116] (.int .i64 (-7)) (zoneM.take 11))) : MapOf w b (zoneM.take 12) := h
theorem look_zone (k : Bytes) : look k zoneM = ((zoneTab.find? fun x => x.1 == k).map fun x => Value.int .i64 x.2) := by
  unfold zoneM
  generalize zoneTab = l
  induction l with
  | nil => rfl
  | cons p l ih =>
    rw [List.map_cons, look, List.find?_cons, ih]
    by_cases h : k = p.1
    · subst h; simp
    · have h1 : (k == p.1) = false := by simp [h]
      have h2 : (p.1 == k) = false := by simp [Ne.symm h]
      simp only [h1, h2, Bool.false_eq_true, if_false]
def zV (o : Option Int) : Int := match o with | none => 0 | some n => n
theorem zoneTab_small {s : Bytes} {x : Bytes × Int} (h : (zoneTab.find? fun x => x.1 == s) = some x) : -8 ≤ x.2 ∧ x.2 ≤ 0 := by
  have hm := List.mem_of_find?_eq_some h
  have key : ∀ y ∈ zoneTab, -8 ≤ y.2 ∧ y.2 ≤ 0 := by decide
  exact key x hm
theorem zeroI (W : World) : (zeroValue 3).run Tryd.prog W = .ok (.int .i64 0) W := by kernel_rfl

set_option maxHeartbeats 4000000 in
set_option maxRecDepth 100000 in
theorem zone_any (l : Bytes) (w : World) (hl : l.length ≤ 1000000) :
    Calls Tryd.prog 31 #[.string (S l)] w fun e w' => e = .returned (.tuple #[.int .i64 (zV (zoneOf l)), .bool (zoneOf l).isSome]) ∧ Below w.heap.size w w' := by
  obtain ⟨Z, hZ⟩ : ∃ Z, zoneOf l = Z := ⟨_, rfl⟩
  rw [hZ]
  unfold zoneOf at hZ
  have hc := fun W => lower_any l W (by omega)
  have hlk := look_zone (lowS l)
  generalize hf : zoneTab.find? (fun x => x.1 == lowS l) = F at *
  generalize lowS l = D at *
  have HC := Lib.hid hc
  have HM0 := Lib.hid (show MapOf (w.alloc (.map #[] 0)) w.heap.size (zoneM.take 0) from MapOf.new w)
  have hmm := @run_makeMap Tryd.prog
  have B0 := Lib.hid (show Below w.heap.size w (w.alloc (.map #[] 0)) from (Below.refl _ _).alloc (Nat.le_refl _) _)
  have HZ := Lib.hid hZ
  have HLK := Lib.hid hlk
  have HF := Lib.hid hf
  clear hc hZ hlk hf
  go_enter Tryd.func31, Tryd.ntmps31
  go_wp2_with (first
    | (with_reducible refine gate ?_; refine wpList_map_ins rfl _ _ _ _ rfl Tryd.underlying85 Tryd.underlying9 (w.heap.size) (zoneM.take 0) HM0.out rfl [117, 116] rfl (.int .i64 0) rfl ?_; intro w1 hm1 hu1 hz1; replace hm1 := zone_put1 hm1)
    | (with_reducible refine gate ?_; refine wpList_map_ins rfl _ _ _ _ rfl Tryd.underlying85 Tryd.underlying9 (w.heap.size) (zoneM.take 1) hm1 rfl [117, 116, 99] rfl (.int .i64 0) rfl ?_; intro w2 hm2 hu2 hz2; replace hm2 := zone_put2 hm2; replace hu2 := hu1.trans hu2)
    | (with_reducible refine gate ?_; refine wpList_map_ins rfl _ _ _ _ rfl Tryd.underlying85 Tryd.underlying9 (w.heap.size) (zoneM.take 2) hm2 rfl [103, 109, 116] rfl (.int .i64 0) rfl ?_; intro w3 hm3 hu3 hz3; replace hm3 := zone_put3 hm3; replace hu3 := hu2.trans hu3)
    | (with_reducible refine gate ?_; refine wpList_map_ins rfl _ _ _ _ rfl Tryd.underlying85 Tryd.underlying9 (w.heap.size) (zoneM.take 3) hm3 rfl [122] rfl (.int .i64 0) rfl ?_; intro w4 hm4 hu4 hz4; replace hm4 := zone_put4 hm4; replace hu4 := hu3.trans hu4)
    | (with_reducible refine gate ?_; refine wpList_map_ins rfl _ _ _ _ rfl Tryd.underlying85 Tryd.underlying9 (w.heap.size) (zoneM.take 4) hm4 rfl [101, 115, 116] rfl (.int .i64 (-5)) rfl ?_; intro w5 hm5 hu5 hz5; replace hm5 := zone_put5 hm5; replace hu5 := hu4.trans hu5)
    | (with_reducible refine gate ?_; refine wpList_map_ins rfl _ _ _ _ rfl Tryd.underlying85 Tryd.underlying9 (w.heap.size) (zoneM.take 5) hm5 rfl [101, 100, 116] rfl (.int .i64 (-4)) rfl ?_; intro w6 hm6 hu6 hz6; replace hm6 := zone_put6 hm6; replace hu6 := hu5.trans hu6)
    | (with_reducible refine gate ?_; refine wpList_map_ins rfl _ _ _ _ rfl Tryd.underlying85 Tryd.underlying9 (w.heap.size) (zoneM.take 6) hm6 rfl [99, 115, 116] rfl (.int .i64 (-6)) rfl ?_; intro w7 hm7 hu7 hz7; replace hm7 := zone_put7 hm7; replace hu7 := hu6.trans hu7)
    | (with_reducible refine gate ?_; refine wpList_map_ins rfl _ _ _ _ rfl Tryd.underlying85 Tryd.underlying9 (w.heap.size) (zoneM.take 7) hm7 rfl [99, 100, 116] rfl (.int .i64 (-5)) rfl ?_; intro w8 hm8 hu8 hz8; replace hm8 := zone_put8 hm8; replace hu8 := hu7.trans hu8)
    | (with_reducible refine gate ?_; refine wpList_map_ins rfl _ _ _ _ rfl Tryd.underlying85 Tryd.underlying9 (w.heap.size) (zoneM.take 8) hm8 rfl [109, 115, 116] rfl (.int .i64 (-7)) rfl ?_; intro w9 hm9 hu9 hz9; replace hm9 := zone_put9 hm9; replace hu9 := hu8.trans hu9)
    | (with_reducible refine gate ?_; refine wpList_map_ins rfl _ _ _ _ rfl Tryd.underlying85 Tryd.underlying9 (w.heap.size) (zoneM.take 9) hm9 rfl [109, 100, 116] rfl (.int .i64 (-6)) rfl ?_; intro w10 hm10 hu10 hz10; replace hm10 := zone_put10 hm10; replace hu10 := hu9.trans hu10)
    | (with_reducible refine gate ?_; refine wpList_map_ins rfl _ _ _ _ rfl Tryd.underlying85 Tryd.underlying9 (w.heap.size) (zoneM.take 10) hm10 rfl [112, 115, 116] rfl (.int .i64 (-8)) rfl ?_; intro w11 hm11 hu11 hz11; replace hm11 := zone_put11 hm11; replace hu11 := hu10.trans hu11)
    | (with_reducible refine gate ?_; refine wpList_map_ins rfl _ _ _ _ rfl Tryd.underlying85 Tryd.underlying9 (w.heap.size) (zoneM.take 11) hm11 rfl [112, 100, 116] rfl (.int .i64 (-7)) rfl ?_; intro w12 hm12 hu12 hz12; replace hm12 := zone_put12 hm12; replace hu12 := hu11.trans hu12)
    )
  refine (HC.out _).mono ?_
  rintro e w13 ⟨rfl, hb13⟩
  have hmap := hm12.below hb13
  have hlook := hmap.run_lookup_ok Tryd.underlying85 Tryd.underlying9 (zeroI w13) D
  rw [show zoneM.take 12 = zoneM from rfl, HLK.out] at hlook
  have HB := Lib.hid ((B0.out.trans (hu12.below (Nat.le_refl _) B0.out.size)).trans (hb13.mono (Nat.le_trans B0.out.size hu12.size)))
  have hsz := HB.out.size
  clear hmap hb13 hm1 hm2 hm3 hm4 hm5 hm6 hm7 hm8 hm9 hm10 hm11 hm12 hu1 hu2 hu3 hu4 hu5 hu6 hu7 hu8 hu9 hu10 hu11 hu12 hz1 hz2 hz3 hz4 hz5 hz6 hz7 hz8 hz9 hz10 hz11 hz12 hmm HM0 B0 HC
  cases F with
  | some x =>
    obtain ⟨x1, x2⟩ := zoneTab_small HF.out
    have hz := HZ.out
    simp only [] at hz
    subst hz
    simp only [Option.map_some, Option.getD_some, Option.isSome_some] at hlook
    clear HZ
    go_wp2_with fail
    go_ret2
    exact ⟨rfl, HB.out⟩
  | none =>
    have hz := HZ.out
    simp only [] at hz
    simp only [Option.map_none, Option.getD_none, Option.isSome_none] at hlook
    clear HZ HLK HF
    by_cases h5 : l.length = 5
    · match l, h5 with
      | [a, b, c, d, f], _ =>
        have hnum := fun W => number_any [b, c, d, f] 4 4 (by decide) (by decide) W (by simp)
        have hdr : ([a, b, c, d, f] : Bytes).drop 1 = [b, c, d, f] := rfl
        rw [hdr] at hz
        have ha0 : ([a, b, c, d, f] : Bytes).getD 0 0 = a := rfl
        rw [ha0] at hz
        have hb8 := u8_lt a
        have e43 : a = 43 ↔ a.toNat = 43 := ⟨fun h => by rw [h]; rfl, fun h => UInt8.toNat_inj.1 (by rw [h]; rfl)⟩
        have e45 : a = 45 ↔ a.toNat = 45 := ⟨fun h => by rw [h]; rfl, fun h => UInt8.toNat_inj.1 (by rw [h]; rfl)⟩
        by_cases hs : a.toNat = 43 ∨ a.toNat = 45
        · rw [if_pos ⟨rfl, by rw [e43, e45]; exact hs⟩] at hz
          have hsg : (((a.toNat : Int) != 43) = false) ∨ (((a.toNat : Int) != 43) = true ∧ ((a.toNat : Int) != 45) = false) := by
            rcases hs with h | h
            · exact .inl (by rw [h]; rfl)
            · exact .inr ⟨by rw [h]; rfl, by rw [h]; rfl⟩
          cases hn : num 4 4 [b, c, d, f] with
          | none =>
            rw [hn] at hz hnum
            simp only [] at hz
            subst hz
            have HN := Lib.hid hnum
            clear hnum hn hdr ha0 e43 e45 hs
            rcases hsg with t1 | ⟨t1, t2⟩
            all_goals
              go_wp2_with (go_at_call 21; refine (HN.out _).mono ?_; rintro e w14 ⟨rfl, hb14⟩)
              go_ret2
              exact ⟨rfl, HB.out.trans (hb14.mono hsz)⟩
          | some n =>
            rw [hn] at hz hnum
            simp only [] at hz
            have hbn := num_len hn
            have hvb := valD_bound [b, c, d, f] 0 hbn.2.2.1
            rw [← hbn.2.2.2] at hvb
            have hn4 : n < 10000 := hvb
            rw [show numV (some n) = (n : Int) from rfl, show (some n).isSome = true from rfl] at hnum
            have HN := Lib.hid hnum
            have q1 : ((n : Int)).tdiv 100 = ((n / 100 : Nat) : Int) := by rw [Int.tdiv_eq_ediv_of_nonneg (by omega)]; omega
            have q2 : ((n : Int)).tmod 100 = ((n % 100 : Nat) : Int) := by rw [Int.tmod_eq_emod_of_nonneg (by omega)]; omega
            have q3 : n / 100 < 100 := by omega
            have q4 : n % 100 < 100 := by omega
            by_cases hbig : 23 < n / 100 ∨ 59 < n % 100
            · rw [if_pos hbig] at hz
              subst hz
              generalize n / 100 = p at *
              generalize n % 100 = q at *
              have hbig' : (23 : Int) < (p : Int) ∨ (¬ (23 : Int) < (p : Int) ∧ (59 : Int) < (q : Int)) := by omega
              clear hnum hn hdr ha0 e43 e45 hs hbn hvb hbig
              rcases hsg with t1 | ⟨t1, t2⟩
              all_goals
                rcases hbig' with k1 | ⟨k1, k2⟩
                all_goals
                  go_wp2_with (go_at_call 21; refine (HN.out _).mono ?_; rintro e w14 ⟨rfl, hb14⟩)
                  go_ret2
                  exact ⟨rfl, HB.out.trans (hb14.mono hsz)⟩
            · rw [if_neg hbig] at hz
              generalize n / 100 = p at *
              generalize n % 100 = q at *
              have k1 : ¬ (23 : Int) < (p : Int) := by omega
              have k2 : ¬ (59 : Int) < (q : Int) := by omega
              by_cases hm : a.toNat = 45
              · have t4 : ((a.toNat : Int) == 45) = true := by rw [hm]; rfl
                rw [if_pos (e45.2 hm)] at hz
                subst hz
                clear hnum hn hdr ha0 e43 e45 hs hbn hvb hbig hm
                rcases hsg with t1 | ⟨t1, t2⟩
                all_goals
                  go_wp2_with (go_at_call 21; refine (HN.out _).mono ?_; rintro e w14 ⟨rfl, hb14⟩)
                  go_ret2
                  exact ⟨ret_IB (by simp [zV]) rfl, HB.out.trans (hb14.mono hsz)⟩
              · have t4 : ((a.toNat : Int) == 45) = false := by rw [beq_eq_false_iff_ne]; omega
                rw [if_neg (fun h => hm (e45.1 h))] at hz
                subst hz
                clear hnum hn hdr ha0 e43 e45 hs hbn hvb hbig hm
                rcases hsg with t1 | ⟨t1, t2⟩
                all_goals
                  go_wp2_with (go_at_call 21; refine (HN.out _).mono ?_; rintro e w14 ⟨rfl, hb14⟩)
                  go_ret2
                  exact ⟨ret_IB (by simp [zV]) rfl, HB.out.trans (hb14.mono hsz)⟩
        · rw [if_neg (by rw [e43, e45]; exact fun h => hs h.2)] at hz
          subst hz
          have t1 : ((a.toNat : Int) != 43) = true := by rw [bne_iff_ne]; omega
          have t2 : ((a.toNat : Int) != 45) = true := by rw [bne_iff_ne]; omega
          clear hnum hdr ha0 e43 e45 hs
          go_wp2_with fail
          go_ret2
          exact ⟨rfl, HB.out⟩
    · rw [if_neg (fun h => h5 h.1)] at hz
      subst hz
      have t5 : ((l.length : Int) != 5) = true := by rw [bne_iff_ne]; omega
      go_wp2_with fail
      go_ret2
      exact ⟨rfl, HB.out⟩
end Go.Proofs.YtooabnmmgmmklaaDoor
