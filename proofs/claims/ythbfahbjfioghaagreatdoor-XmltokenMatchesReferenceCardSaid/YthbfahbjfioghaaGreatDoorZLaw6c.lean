/-
  Walk of chapter 6's statement MatchesReference.
-/
import Derived.Test.YthbfahbjfioghaaGreatDoorG1
import Derived.Test.YthbfahbjfioghaaGreatDoorTokR7
import Derived.Test.YthbfahbjfioghaaGreatDoorTok4
set_option linter.unusedVariables false
namespace Go.Proofs.YthbfahbjfioghaaGreatDoor
open Go.RowKit

set_option maxHeartbeats 2000000 in
set_option maxRecDepth 100000 in
theorem law6matches_any (l : Bytes) (m : Int) (w : World) (hT : Tabs w) (hM : MaxLen m w) (hl : l.length ≤ 9223372036854775807) :
    Calls Tryz.prog 3 #[.string (S l)] w fun e w' => e = .returned (.bool true) ∧ Below w.heap.size w w' := by
  have hal := fun W => fun (hW : Below w.heap.size w W) => alive6_any m W (hT.next hW) (hM.below hW)
  have HAL := Lib.hid hal
  by_cases h5 : 3000 < l.length
  · have h5' : (3000 : Int) < l.length := by omega
    clear hal hT hM
    go_enter Tryz.func3, Tryz.ntmps3
    go_wp2_with (go_at_call 14; refine (HAL.out _ (Below.refl _ _)).mono ?_; rintro e w1 ⟨rfl, hb1⟩)
    go_ret
    exact ⟨rfl, hb1⟩
  · have h5' : ¬ (3000 : Int) < l.length := by omega
    have h1 := tokens_any l m w hT hM (by omega)
    have h2 := fun W => refTokens_any l W (by omega)
    have hn := (toks_all l).1
    have ht := (toks_facts l).2.1
    have hsm := fun A B c d p q W a1 a2 a3 a4 => sameToks_any (toks l).1 A B c d p q W a1 a2 a3 a4 (by omega) (fun t h => by have := ht t h; omega)
    generalize toks l = R at *
    obtain ⟨ts, x, y⟩ := R
    have H1 := Lib.hid h1
    have H2 := Lib.hid h2
    have HS := Lib.hid hsm
    have e1 : ((x : Int) == (x : Int)) = true := by simp
    have e2 : ((y : Int) == (y : Int)) = true := by simp
    clear hal hT hM h1 h2 hsm ht hn
    go_enter Tryz.func3, Tryz.ntmps3
    go_wp2_with fail
    refine H1.out.mono ?_
    rintro e w1 ⟨⟨v1, rfl, hr1⟩, hb1⟩
    have p1 := hr1.toksP (p' := fun k => k < w1.heap.size) (fun k hk => hk.2.1) (fun k hk => (hr1.lt k hk).2)
    obtain ⟨A1, c1, rfl, _⟩ := p1.slice
    have P1 := Lib.hid p1
    have B1 := Lib.hid hb1
    clear hr1 hb1 p1
    go_wp2_with fail
    refine (H2.out _).mono ?_
    rintro e w2 ⟨⟨v2, rfl, hr2⟩, hb2⟩
    have p2 := hr2.toksP (p' := fun k => k < w2.heap.size) (fun k hk => hk.2.1) (fun k hk => (hr2.lt k hk).2)
    obtain ⟨A2, c2, rfl, _⟩ := p2.slice
    have P2 := Lib.hid p2
    have B2 := Lib.hid (B1.out.trans (hb2.mono B1.out.size))
    have B12 := Lib.hid hb2
    clear hr2 hb2 p2
    go_wp2_with (first
      | (go_at_call 14; refine (HAL.out _ B2.out).mono ?_; rintro e w3 ⟨rfl, hb3⟩; have B3 := Lib.hid (B2.out.trans (hb3.mono B2.out.size)); have X3 := Lib.hid hb3; have Y3 := Lib.hid (B12.out.trans (hb3.mono B12.out.size)); clear hb3)
      | (go_at_call 17; refine (HS.out _ _ _ _ (fun k => k < w1.heap.size) (fun k => k < w2.heap.size) _ (fun k hk => Nat.lt_of_lt_of_le hk Y3.out.size) (fun k hk => Nat.lt_of_lt_of_le hk X3.out.size) (ToksP.keep P1.out (fun k hk => Y3.out.block k hk) (fun _ h => h)) (ToksP.keep P2.out (fun k hk => X3.out.block k hk) (fun _ h => h))).mono ?_; rintro e w4 ⟨rfl, hb4⟩))
    go_ret
    exact ⟨rfl, B3.out.trans (hb4.mono B3.out.size)⟩
end Go.Proofs.YthbfahbjfioghaaGreatDoor
