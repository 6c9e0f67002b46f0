/-
  Walk of chapter 6: the reference's construct.
-/
import Derived.Test.YthbfahbjfioghaaGreatDoorTokR5
set_option linter.unusedVariables false
namespace Go.Proofs.YthbfahbjfioghaaGreatDoor
open Go.RowKit

theorem TokRes.move {w w' : World} {p p' : Nat → Prop} {r : Except (Nat × Nat) (Tok × Nat)} {e : Ending} (h : TokRes w p r e) (hb : ∀ k, p k → w'.heap[k]? = w.heap[k]?) (hp : ∀ k, p k → p' k) : TokRes w' p' r e := by
  unfold TokRes at *
  cases r with
  | error q => exact h
  | ok x =>
    obtain ⟨t, k⟩ := x
    simp only at h ⊢
    obtain ⟨A, c, h1, h2⟩ := h
    exact ⟨A, c, h1, h2.keep hb hp⟩
/-- The parts of a token that is returned. -/
theorem TokRes.open_ {w : World} {p : Nat → Prop} {r : Except (Nat × Nat) (Tok × Nat)} {e : Ending} (h : TokRes w p r e) : ∃ t A c x y, e = .returned (.tuple #[.agg (tokCells t A c), .int .i64 x, .int .i64 y]) := by
  unfold TokRes at h
  cases r with
  | error q =>
    obtain ⟨t, A, c, h⟩ := h
    exact ⟨t, A, c, _, _, h⟩
  | ok x =>
    obtain ⟨t, k⟩ := x
    simp only at h
    obtain ⟨A, c, h1, h2⟩ := h
    exact ⟨t, A, c, _, _, h1⟩

set_option maxHeartbeats 4000000 in
set_option maxRecDepth 100000 in
theorem refCons_any (l : Bytes) (a : Nat) (w : World) (ha : a < l.length) (hl : l.length ≤ 100000000000) :
    Calls Tryz.prog 44 #[.string (S l), .int .i64 a] w fun e w' => TokRes w' (fun b => w.heap.size ≤ b ∧ b < w'.heap.size) (consAt l a) e ∧ Below w.heap.size w w' := by
  obtain ⟨R, hR⟩ : ∃ R, consAt l a = R := ⟨_, rfl⟩
  rw [hR]
  unfold consAt at hR
  have hres := heap_alloc_new w (.cells zTokC 43)
  have HB0 : Below w.heap.size w (w.alloc (.cells zTokC 43)) := (Below.refl _ _).alloc (Nat.le_refl _) _
  have hs0 : (w.alloc (.cells zTokC 43)).heap.size = w.heap.size + 1 := by simp
  have d1 : ∀ w, Calls Tryz.prog 43 #[.string (S l), .int .i64 a, .string ⟨#[60, 63]⟩] w fun e w' => e = .returned (.bool (hasAt l a sPi)) ∧ w = w' := fun w => refHas_any l a sPi w (by omega) (by omega) (by decide) (by simp [sPi])
  have d2 : ∀ w, Calls Tryz.prog 43 #[.string (S l), .int .i64 a, .string ⟨#[60, 33, 45, 45]⟩] w fun e w' => e = .returned (.bool (hasAt l a sCom)) ∧ w = w' := fun w => refHas_any l a sCom w (by omega) (by omega) (by decide) (by simp [sCom])
  have d3 : ∀ w, Calls Tryz.prog 43 #[.string (S l), .int .i64 a, .string ⟨#[60, 33, 91, 67, 68, 65, 84, 65, 91]⟩] w fun e w' => e = .returned (.bool (hasAt l a sCd)) ∧ w = w' := fun w => refHas_any l a sCd w (by omega) (by omega) (by decide) (by simp [sCd])
  have d4 : ∀ w, Calls Tryz.prog 43 #[.string (S l), .int .i64 a, .string ⟨#[60, 33, 68, 79, 67, 84, 89, 80, 69]⟩] w fun e w' => e = .returned (.bool (hasAt l a sDoc)) ∧ w = w' := fun w => refHas_any l a sDoc w (by omega) (by omega) (by decide) (by simp [sDoc])
  have d5 : ∀ w, Calls Tryz.prog 43 #[.string (S l), .int .i64 a, .string ⟨#[60, 33]⟩] w fun e w' => e = .returned (.bool (hasAt l a sBang)) ∧ w = w' := fun w => refHas_any l a sBang w (by omega) (by omega) (by decide) (by simp [sBang])
  have d6 : ∀ w, Calls Tryz.prog 43 #[.string (S l), .int .i64 a, .string ⟨#[60, 47]⟩] w fun e w' => e = .returned (.bool (hasAt l a sEnd)) ∧ w = w' := fun w => refHas_any l a sEnd w (by omega) (by omega) (by decide) (by simp [sEnd])
  have d7 : ∀ w, Calls Tryz.prog 43 #[.string (S l), .int .i64 a, .string ⟨#[60]⟩] w fun e w' => e = .returned (.bool (hasAt l a sLt)) ∧ w = w' := fun w => refHas_any l a sLt w (by omega) (by omega) (by decide) (by simp [sLt])
  cases b1 : hasAt l a sPi
  case true =>
    rw [b1, if_pos rfl] at hR
    rw [b1] at d1
    have D1 := Lib.hid d1
    have hle := hasAt_le b1
    simp [sPi] at hle
    have c1 : ∀ w, Calls Tryz.prog 78 #[.string (S l), .int .i64 a, .string ⟨#[60, 63]⟩, .string ⟨#[63, 62]⟩] w fun e w' => e = .returned (.tuple #[.int .i64 (skR (skipAt l a 2 sPiEnd)).1, .int .i64 (skR (skipAt l a 2 sPiEnd)).2]) ∧ w = w' := fun w => refSkip_any l sPi sPiEnd a w (by omega) (by simp [sPi]; omega) (by simp [sPiEnd]) (by decide)
    cases hq : skipAt l a 2 sPiEnd with
    | error q =>
      rw [hq] at hR c1
      simp only [skR] at c1
      have C1 := Lib.hid c1
      have HR := Lib.hid hR
      clear hR c1 hq hle b1 d1 d2 d3 d4 d5 d6 d7
      go_enter Tryz.func44, Tryz.ntmps44
      go_wp2_with (first
        | (go_at_call 43; first | (with_reducible refine (D1.out _).mono ?_; rintro e w' ⟨rfl, rfl⟩))
        | (go_at_call 78; refine (C1.out _).mono ?_; rintro e w' ⟨rfl, rfl⟩)
        | (with_reducible refine gate ?_; refine wp_store_tok rfl _ _ rfl w.heap.size _ _ _ _ _ _ _ _ _ rfl rfl hres rfl ?_; intro w2 hw2 hu2))
      refine bodyPost_ret (v := .tuple #[.agg _, _, _]) (res_whole3 Tryz.results44 _ _ w.heap.size rfl _ _ hw2 Tryz.underlying43 rfl tokSize _ _ rfl rfl) rfl ⟨?_, ?_⟩
      · rw [← HR.out]; exact TokRes.err (t := zTok 3)
      · exact HB0.trans (hu2.below (Nat.le_refl _) HB0.size)
    | ok q =>
      rw [hq] at hR c1
      simp only [skR] at c1
      have C1 := Lib.hid c1
      have HR := Lib.hid hR
      clear hR c1 hq hle b1 d1 d2 d3 d4 d5 d6 d7
      go_enter Tryz.func44, Tryz.ntmps44
      go_wp2_with (first
        | (go_at_call 43; first | (with_reducible refine (D1.out _).mono ?_; rintro e w' ⟨rfl, rfl⟩))
        | (go_at_call 78; refine (C1.out _).mono ?_; rintro e w' ⟨rfl, rfl⟩)
        | (with_reducible refine gate ?_; refine wp_store_tok rfl _ _ rfl w.heap.size _ _ _ _ _ _ _ _ _ rfl rfl hres rfl ?_; intro w2 hw2 hu2))
      refine bodyPost_ret (v := .tuple #[.agg _, _, _]) (res_whole3 Tryz.results44 _ _ w.heap.size rfl _ _ hw2 Tryz.underlying43 rfl tokSize _ _ rfl rfl) rfl ⟨?_, ?_⟩
      · rw [← HR.out]; exact TokRes.fine (t := zTok 3) rfl (AttsP.none _ _)
      · exact HB0.trans (hu2.below (Nat.le_refl _) HB0.size)
  case false =>
    rw [b1, if_neg (by decide)] at hR
    rw [b1] at d1
    have D1 := Lib.hid d1
    clear d1 b1
    cases b2 : hasAt l a sCom
    case true =>
      rw [b2, if_pos rfl] at hR
      rw [b2] at d2
      have D2 := Lib.hid d2
      have hle := hasAt_le b2
      simp [sCom] at hle
      have c1 : ∀ w, Calls Tryz.prog 78 #[.string (S l), .int .i64 a, .string ⟨#[60, 33, 45, 45]⟩, .string ⟨#[45, 45, 62]⟩] w fun e w' => e = .returned (.tuple #[.int .i64 (skR (skipAt l a 4 sComEnd)).1, .int .i64 (skR (skipAt l a 4 sComEnd)).2]) ∧ w = w' := fun w => refSkip_any l sCom sComEnd a w (by omega) (by simp [sCom]; omega) (by simp [sComEnd]) (by decide)
      cases hq : skipAt l a 4 sComEnd with
      | error q =>
        rw [hq] at hR c1
        simp only [skR] at c1
        have C1 := Lib.hid c1
        have HR := Lib.hid hR
        clear hR c1 hq hle b2 d2 d3 d4 d5 d6 d7
        go_enter Tryz.func44, Tryz.ntmps44
        go_wp2_with (first
          | (go_at_call 43; first | (with_reducible refine (D1.out _).mono ?_; rintro e w' ⟨rfl, rfl⟩) | (with_reducible refine (D2.out _).mono ?_; rintro e w' ⟨rfl, rfl⟩))
          | (go_at_call 78; refine (C1.out _).mono ?_; rintro e w' ⟨rfl, rfl⟩)
          | (with_reducible refine gate ?_; refine wp_store_tok rfl _ _ rfl w.heap.size _ _ _ _ _ _ _ _ _ rfl rfl hres rfl ?_; intro w2 hw2 hu2))
        refine bodyPost_ret (v := .tuple #[.agg _, _, _]) (res_whole3 Tryz.results44 _ _ w.heap.size rfl _ _ hw2 Tryz.underlying43 rfl tokSize _ _ rfl rfl) rfl ⟨?_, ?_⟩
        · rw [← HR.out]; exact TokRes.err (t := zTok 3)
        · exact HB0.trans (hu2.below (Nat.le_refl _) HB0.size)
      | ok q =>
        rw [hq] at hR c1
        simp only [skR] at c1
        have C1 := Lib.hid c1
        have HR := Lib.hid hR
        clear hR c1 hq hle b2 d2 d3 d4 d5 d6 d7
        go_enter Tryz.func44, Tryz.ntmps44
        go_wp2_with (first
          | (go_at_call 43; first | (with_reducible refine (D1.out _).mono ?_; rintro e w' ⟨rfl, rfl⟩) | (with_reducible refine (D2.out _).mono ?_; rintro e w' ⟨rfl, rfl⟩))
          | (go_at_call 78; refine (C1.out _).mono ?_; rintro e w' ⟨rfl, rfl⟩)
          | (with_reducible refine gate ?_; refine wp_store_tok rfl _ _ rfl w.heap.size _ _ _ _ _ _ _ _ _ rfl rfl hres rfl ?_; intro w2 hw2 hu2))
        refine bodyPost_ret (v := .tuple #[.agg _, _, _]) (res_whole3 Tryz.results44 _ _ w.heap.size rfl _ _ hw2 Tryz.underlying43 rfl tokSize _ _ rfl rfl) rfl ⟨?_, ?_⟩
        · rw [← HR.out]; exact TokRes.fine (t := zTok 3) rfl (AttsP.none _ _)
        · exact HB0.trans (hu2.below (Nat.le_refl _) HB0.size)
    case false =>
      rw [b2, if_neg (by decide)] at hR
      rw [b2] at d2
      have D2 := Lib.hid d2
      clear d2 b2
      cases b3 : hasAt l a sCd
      case true =>
        rw [b3, if_pos rfl] at hR
        rw [b3] at d3
        have D3 := Lib.hid d3
        have hle := hasAt_le b3
        simp [sCd] at hle
        have c1 : ∀ w, Calls Tryz.prog 78 #[.string (S l), .int .i64 a, .string ⟨#[60, 33, 91, 67, 68, 65, 84, 65, 91]⟩, .string ⟨#[93, 93, 62]⟩] w fun e w' => e = .returned (.tuple #[.int .i64 (skR (skipAt l a 9 sCdEnd)).1, .int .i64 (skR (skipAt l a 9 sCdEnd)).2]) ∧ w = w' := fun w => refSkip_any l sCd sCdEnd a w (by omega) (by simp [sCd]; omega) (by simp [sCdEnd]) (by decide)
        cases hq : skipAt l a 9 sCdEnd with
        | error q =>
          have hqe : q.2 ≠ 0 := by
            unfold skipAt at hq
            split at hq
            · cases hq; simp
            · cases hq
          have t6 : ((q.2 : Int) == 0) = false := by rw [beq_eq_false_iff_ne]; omega
          have t7 : ((q.2 : Int) != 0) = true := by rw [bne, t6]; rfl
          rw [hq] at hR c1
          simp only [skR] at c1
          have C1 := Lib.hid c1
          have HR := Lib.hid hR
          clear hR c1 hq hle hqe b3 d3 d4 d5 d6 d7
          go_enter Tryz.func44, Tryz.ntmps44
          go_wp2_with (first
            | (go_at_call 43; first | (with_reducible refine (D1.out _).mono ?_; rintro e w' ⟨rfl, rfl⟩) | (with_reducible refine (D2.out _).mono ?_; rintro e w' ⟨rfl, rfl⟩) | (with_reducible refine (D3.out _).mono ?_; rintro e w' ⟨rfl, rfl⟩))
            | (go_at_call 78; refine (C1.out _).mono ?_; rintro e w' ⟨rfl, rfl⟩)
            | (with_reducible refine gate ?_; refine wp_store_tok rfl _ _ rfl w.heap.size _ _ _ _ _ _ _ _ _ rfl rfl hres rfl ?_; intro w2 hw2 hu2))
          refine bodyPost_ret (v := .tuple #[.agg _, _, _]) (res_whole3 Tryz.results44 _ _ w.heap.size rfl _ _ hw2 Tryz.underlying43 rfl tokSize _ _ rfl rfl) rfl ⟨?_, ?_⟩
          · rw [← HR.out]; exact TokRes.err (t := zTok 0)
          · exact HB0.trans (hu2.below (Nat.le_refl _) HB0.size)
        | ok q =>
          have hqe := skipAt_ok (by simp [sCdEnd]) hq
          simp [sCdEnd] at hqe
          rw [hq] at hR c1
          simp only [skR] at c1
          have C1 := Lib.hid c1
          have c2 := fun w => refLines_any ((l.drop (a + 9)).take (q - 3 - (a + 9))) w (by rw [List.length_take, List.length_drop]; omega)
          have C2 := Lib.hid c2
          have e1 : (a : Int) + 9 ≤ (q : Int) - 3 := by omega
          have e2 : (q : Int) - 3 ≤ l.length := by omega
          have e3 : ((q : Int) - 3).toNat = q - 3 := by omega
          have e4 : (0 : Int) ≤ (q : Int) - 3 := by omega
          have e5 : (3 : Int) ≤ q := by omega
          have HR := Lib.hid hR
          clear hR c1 c2 hq hle b3 d3 d4 d5 d6 d7
          go_enter Tryz.func44, Tryz.ntmps44
          go_wp2_with (first
            | (go_at_call 43; first | (with_reducible refine (D1.out _).mono ?_; rintro e w' ⟨rfl, rfl⟩) | (with_reducible refine (D2.out _).mono ?_; rintro e w' ⟨rfl, rfl⟩) | (with_reducible refine (D3.out _).mono ?_; rintro e w' ⟨rfl, rfl⟩))
            | (go_at_call 78; refine (C1.out _).mono ?_; rintro e w' ⟨rfl, rfl⟩)
            | fail)
          refine (C2.out _).mono ?_
          rintro e w5 ⟨rfl, hb5⟩
          have hres5 := (hb5.block _ (by simp)).trans hres
          have HB5 := HB0.trans (hb5.mono HB0.size)
          clear hres
          have hres := hres5
          go_wp2_with (first
            | (with_reducible refine gate ?_; refine wp_store_tok rfl _ _ rfl w.heap.size _ _ _ _ _ _ _ _ _ rfl rfl hres rfl ?_; intro w2 hw2 hu2))
          refine bodyPost_ret (v := .tuple #[.agg _, _, _]) (res_whole3 Tryz.results44 _ _ w.heap.size rfl _ _ hw2 Tryz.underlying43 rfl tokSize _ _ rfl rfl) rfl ⟨?_, ?_⟩
          · rw [← HR.out]; exact TokRes.fine (t := ⟨3, [], [], false, linesB ((l.drop (a + 9)).take (q - 3 - (a + 9))), a⟩) rfl (AttsP.none _ _)
          · exact HB5.trans (hu2.below (Nat.le_refl _) HB5.size)
      case false =>
        rw [b3, if_neg (by decide)] at hR
        rw [b3] at d3
        have D3 := Lib.hid d3
        clear d3 b3
        cases b4 : hasAt l a sDoc
        case true =>
          rw [b4, if_pos rfl] at hR
          rw [b4] at d4
          have D4 := Lib.hid d4
          have HR := Lib.hid hR
          clear hR b4 d4 d5 d6 d7
          go_enter Tryz.func44, Tryz.ntmps44
          go_wp2_with (first
            | (go_at_call 43; first | (with_reducible refine (D1.out _).mono ?_; rintro e w' ⟨rfl, rfl⟩) | (with_reducible refine (D2.out _).mono ?_; rintro e w' ⟨rfl, rfl⟩) | (with_reducible refine (D3.out _).mono ?_; rintro e w' ⟨rfl, rfl⟩) | (with_reducible refine (D4.out _).mono ?_; rintro e w' ⟨rfl, rfl⟩))
            | (with_reducible refine gate ?_; refine wp_store_tok rfl _ _ rfl w.heap.size _ _ _ _ _ _ _ _ _ rfl rfl hres rfl ?_; intro w2 hw2 hu2))
          refine bodyPost_ret (v := .tuple #[.agg _, _, _]) (res_whole3 Tryz.results44 _ _ w.heap.size rfl _ _ hw2 Tryz.underlying43 rfl tokSize _ _ rfl rfl) rfl ⟨?_, ?_⟩
          · rw [← HR.out]; exact TokRes.err (q := (a, 11)) (t := zTok 0)
          · exact HB0.trans (hu2.below (Nat.le_refl _) HB0.size)
        case false =>
          rw [b4, if_neg (by decide)] at hR
          rw [b4] at d4
          have D4 := Lib.hid d4
          clear d4 b4
          cases b5 : hasAt l a sBang
          case true =>
            rw [b5, if_pos rfl] at hR
            rw [b5] at d5
            have D5 := Lib.hid d5
            have HR := Lib.hid hR
            clear hR b5 d5 d6 d7
            go_enter Tryz.func44, Tryz.ntmps44
            go_wp2_with (first
              | (go_at_call 43; first | (with_reducible refine (D1.out _).mono ?_; rintro e w' ⟨rfl, rfl⟩) | (with_reducible refine (D2.out _).mono ?_; rintro e w' ⟨rfl, rfl⟩) | (with_reducible refine (D3.out _).mono ?_; rintro e w' ⟨rfl, rfl⟩) | (with_reducible refine (D4.out _).mono ?_; rintro e w' ⟨rfl, rfl⟩) | (with_reducible refine (D5.out _).mono ?_; rintro e w' ⟨rfl, rfl⟩))
              | (with_reducible refine gate ?_; refine wp_store_tok rfl _ _ rfl w.heap.size _ _ _ _ _ _ _ _ _ rfl rfl hres rfl ?_; intro w2 hw2 hu2))
            refine bodyPost_ret (v := .tuple #[.agg _, _, _]) (res_whole3 Tryz.results44 _ _ w.heap.size rfl _ _ hw2 Tryz.underlying43 rfl tokSize _ _ rfl rfl) rfl ⟨?_, ?_⟩
            · rw [← HR.out]; exact TokRes.err (q := (a, 7)) (t := zTok 0)
            · exact HB0.trans (hu2.below (Nat.le_refl _) HB0.size)
          case false =>
            rw [b5, if_neg (by decide)] at hR
            rw [b5] at d5
            have D5 := Lib.hid d5
            clear d5 b5
            cases b6 : hasAt l a sEnd
            case true =>
              rw [b6, if_pos rfl] at hR
              rw [b6] at d6
              have D6 := Lib.hid d6
              have hle := hasAt_le b6
              simp [sEnd] at hle
              have c1 := fun w => refEnd_any l a w (by omega) (by omega)
              rw [hR] at c1
              have C1 := Lib.hid c1
              clear hR c1 hle b6 d6 d7
              go_enter Tryz.func44, Tryz.ntmps44
              go_wp2_with (first
                | (go_at_call 43; first | (with_reducible refine (D1.out _).mono ?_; rintro e w' ⟨rfl, rfl⟩) | (with_reducible refine (D2.out _).mono ?_; rintro e w' ⟨rfl, rfl⟩) | (with_reducible refine (D3.out _).mono ?_; rintro e w' ⟨rfl, rfl⟩) | (with_reducible refine (D4.out _).mono ?_; rintro e w' ⟨rfl, rfl⟩) | (with_reducible refine (D5.out _).mono ?_; rintro e w' ⟨rfl, rfl⟩) | (with_reducible refine (D6.out _).mono ?_; rintro e w' ⟨rfl, rfl⟩))
                | fail)
              refine (C1.out _).mono ?_
              rintro e w5 ⟨ht, hb5⟩
              have HT := Lib.hid ht
              have hres5 := (hb5.block _ (by simp)).trans hres
              have HB5 := HB0.trans (hb5.mono HB0.size)
              obtain ⟨tt, A, c, x, y, rfl⟩ := ht.open_
              clear hres ht
              have hres := hres5
              go_wp2_with (first
                | (with_reducible refine gate ?_; refine wp_store_tok rfl _ _ rfl w.heap.size _ _ _ _ _ _ _ _ _ rfl rfl hres rfl ?_; intro w2 hw2 hu2))
              refine bodyPost_ret (v := .tuple #[.agg _, _, _]) (res_whole3 Tryz.results44 _ _ w.heap.size rfl _ _ hw2 Tryz.underlying43 rfl tokSize _ _ rfl rfl) rfl ⟨?_, ?_⟩
              · exact HT.out.move (fun k hk => hu2.block k hk.2 (by have := hk.1; rw [hs0] at this; omega)) (fun k hk => ⟨by have := hk.1; rw [hs0] at this; omega, by have := hk.2; have := hu2.size; omega⟩)
              · exact HB5.trans (hu2.below (Nat.le_refl _) HB5.size)
            case false =>
              rw [b6, if_neg (by decide)] at hR
              rw [b6] at d6
              have D6 := Lib.hid d6
              clear d6 b6
              cases b7 : hasAt l a sLt
              case true =>
                rw [b7, if_pos rfl] at hR
                rw [b7] at d7
                have D7 := Lib.hid d7
                have hle := hasAt_le b7
                simp [sLt] at hle
                have c1 := fun w => refStart_any l a w (by omega) hl
                rw [hR] at c1
                have C1 := Lib.hid c1
                clear hR c1 hle b7 d7
                go_enter Tryz.func44, Tryz.ntmps44
                go_wp2_with (first
                  | (go_at_call 43; first | (with_reducible refine (D1.out _).mono ?_; rintro e w' ⟨rfl, rfl⟩) | (with_reducible refine (D2.out _).mono ?_; rintro e w' ⟨rfl, rfl⟩) | (with_reducible refine (D3.out _).mono ?_; rintro e w' ⟨rfl, rfl⟩) | (with_reducible refine (D4.out _).mono ?_; rintro e w' ⟨rfl, rfl⟩) | (with_reducible refine (D5.out _).mono ?_; rintro e w' ⟨rfl, rfl⟩) | (with_reducible refine (D6.out _).mono ?_; rintro e w' ⟨rfl, rfl⟩) | (with_reducible refine (D7.out _).mono ?_; rintro e w' ⟨rfl, rfl⟩))
                  | fail)
                refine (C1.out _).mono ?_
                rintro e w5 ⟨ht, hb5⟩
                have HT := Lib.hid ht
                have hres5 := (hb5.block _ (by simp)).trans hres
                have HB5 := HB0.trans (hb5.mono HB0.size)
                obtain ⟨tt, A, c, x, y, rfl⟩ := ht.open_
                clear hres ht
                have hres := hres5
                go_wp2_with (first
                  | (with_reducible refine gate ?_; refine wp_store_tok rfl _ _ rfl w.heap.size _ _ _ _ _ _ _ _ _ rfl rfl hres rfl ?_; intro w2 hw2 hu2))
                refine bodyPost_ret (v := .tuple #[.agg _, _, _]) (res_whole3 Tryz.results44 _ _ w.heap.size rfl _ _ hw2 Tryz.underlying43 rfl tokSize _ _ rfl rfl) rfl ⟨?_, ?_⟩
                · exact HT.out.move (fun k hk => hu2.block k hk.2 (by have := hk.1; rw [hs0] at this; omega)) (fun k hk => ⟨by have := hk.1; rw [hs0] at this; omega, by have := hk.2; have := hu2.size; omega⟩)
                · exact HB5.trans (hu2.below (Nat.le_refl _) HB5.size)
              case false =>
                rw [b7, if_neg (by decide)] at hR
                rw [b7] at d7
                have D7 := Lib.hid d7
                clear d7 b7
                have c1 := fun w => refFind_any l a sLt w (by omega) (by omega) (by decide) (by simp [sLt])
                have hte := textEnd_ge l a (by omega)
                have c2 := fun w => refContent_any false l a (textEnd l a) w hte.1 hte.2 (by omega)
                have hcase : ∃ z : Int, (z < 0 ∧ textEnd l a = l.length ∨ z = textEnd l a) ∧ optI ((findS sLt (l.drop a)).map (· + a)) = z := by
                  refine ⟨_, ?_, rfl⟩
                  unfold textEnd
                  cases findS sLt (l.drop a) with
                  | none => left; exact ⟨by simp [optI], rfl⟩
                  | some j => right; simp only [Option.map_some, optI]; omega
                obtain ⟨z, hz, hzz⟩ := hcase
                rw [hzz] at c1
                clear hzz
                obtain ⟨te, hte2⟩ : ∃ te, textEnd l a = te := ⟨_, rfl⟩
                rw [hte2] at hz hR c2 hte
                clear hte2
                cases hcc : cont false l a te with
                | error m =>
                  rw [hcc] at c2 hR
                  simp only [contR] at c2
                  simp only at hR
                  have C1 : Hid (∀ w, Calls Tryz.prog 81 #[.string (S l), .int .i64 a, .string ⟨#[60]⟩] w fun e w' => e = .returned (.int .i64 z) ∧ w = w') := c1
                  have C2 := Lib.hid c2
                  have HR := Lib.hid hR
                  clear hR c1 c2 hcc
                  rcases hz with ⟨hz1, hz2⟩ | hz1
                  · subst hz2
                    go_enter Tryz.func44, Tryz.ntmps44
                    go_wp2_with (first
                      | (go_at_call 43; first | (with_reducible refine (D1.out _).mono ?_; rintro e w' ⟨rfl, rfl⟩) | (with_reducible refine (D2.out _).mono ?_; rintro e w' ⟨rfl, rfl⟩) | (with_reducible refine (D3.out _).mono ?_; rintro e w' ⟨rfl, rfl⟩) | (with_reducible refine (D4.out _).mono ?_; rintro e w' ⟨rfl, rfl⟩) | (with_reducible refine (D5.out _).mono ?_; rintro e w' ⟨rfl, rfl⟩) | (with_reducible refine (D6.out _).mono ?_; rintro e w' ⟨rfl, rfl⟩) | (with_reducible refine (D7.out _).mono ?_; rintro e w' ⟨rfl, rfl⟩))
                      | (go_at_call 81; refine (C1.out _).mono ?_; rintro e w' ⟨rfl, rfl⟩)
                      | fail)
                    refine (C2.out _).mono ?_
                    rintro e w5 ⟨rfl, hb5⟩
                    have hres5 := (hb5.block _ (by simp)).trans hres
                    have HB5 := HB0.trans (hb5.mono HB0.size)
                    clear hres
                    have hres := hres5
                    go_wp2_with (first
                      | (with_reducible refine gate ?_; refine wp_store_tok rfl _ _ rfl w.heap.size _ _ _ _ _ _ _ _ _ rfl rfl hres rfl ?_; intro w2 hw2 hu2))
                    refine bodyPost_ret (v := .tuple #[.agg _, _, _]) (res_whole3 Tryz.results44 _ _ w.heap.size rfl _ _ hw2 Tryz.underlying43 rfl tokSize _ _ rfl rfl) rfl ⟨?_, ?_⟩
                    · rw [← HR.out]; exact TokRes.err (q := (m, 12)) (t := ⟨3, [], [], false, [], a⟩)
                    · exact HB5.trans (hu2.below (Nat.le_refl _) HB5.size)
                  · have hz2 : (0 : Int) ≤ te := by omega
                    subst hz1
                    go_enter Tryz.func44, Tryz.ntmps44
                    go_wp2_with (first
                      | (go_at_call 43; first | (with_reducible refine (D1.out _).mono ?_; rintro e w' ⟨rfl, rfl⟩) | (with_reducible refine (D2.out _).mono ?_; rintro e w' ⟨rfl, rfl⟩) | (with_reducible refine (D3.out _).mono ?_; rintro e w' ⟨rfl, rfl⟩) | (with_reducible refine (D4.out _).mono ?_; rintro e w' ⟨rfl, rfl⟩) | (with_reducible refine (D5.out _).mono ?_; rintro e w' ⟨rfl, rfl⟩) | (with_reducible refine (D6.out _).mono ?_; rintro e w' ⟨rfl, rfl⟩) | (with_reducible refine (D7.out _).mono ?_; rintro e w' ⟨rfl, rfl⟩))
                      | (go_at_call 81; refine (C1.out _).mono ?_; rintro e w' ⟨rfl, rfl⟩)
                      | fail)
                    refine (C2.out _).mono ?_
                    rintro e w5 ⟨rfl, hb5⟩
                    have hres5 := (hb5.block _ (by simp)).trans hres
                    have HB5 := HB0.trans (hb5.mono HB0.size)
                    clear hres
                    have hres := hres5
                    go_wp2_with (first
                      | (with_reducible refine gate ?_; refine wp_store_tok rfl _ _ rfl w.heap.size _ _ _ _ _ _ _ _ _ rfl rfl hres rfl ?_; intro w2 hw2 hu2))
                    refine bodyPost_ret (v := .tuple #[.agg _, _, _]) (res_whole3 Tryz.results44 _ _ w.heap.size rfl _ _ hw2 Tryz.underlying43 rfl tokSize _ _ rfl rfl) rfl ⟨?_, ?_⟩
                    · rw [← HR.out]; exact TokRes.err (q := (m, 12)) (t := ⟨3, [], [], false, [], a⟩)
                    · exact HB5.trans (hu2.below (Nat.le_refl _) HB5.size)
                | ok v =>
                  rw [hcc] at c2 hR
                  simp only [contR] at c2
                  simp only at hR
                  have C1 : Hid (∀ w, Calls Tryz.prog 81 #[.string (S l), .int .i64 a, .string ⟨#[60]⟩] w fun e w' => e = .returned (.int .i64 z) ∧ w = w') := c1
                  have C2 := Lib.hid c2
                  have HR := Lib.hid hR
                  clear hR c1 c2 hcc
                  rcases hz with ⟨hz1, hz2⟩ | hz1
                  · subst hz2
                    go_enter Tryz.func44, Tryz.ntmps44
                    go_wp2_with (first
                      | (go_at_call 43; first | (with_reducible refine (D1.out _).mono ?_; rintro e w' ⟨rfl, rfl⟩) | (with_reducible refine (D2.out _).mono ?_; rintro e w' ⟨rfl, rfl⟩) | (with_reducible refine (D3.out _).mono ?_; rintro e w' ⟨rfl, rfl⟩) | (with_reducible refine (D4.out _).mono ?_; rintro e w' ⟨rfl, rfl⟩) | (with_reducible refine (D5.out _).mono ?_; rintro e w' ⟨rfl, rfl⟩) | (with_reducible refine (D6.out _).mono ?_; rintro e w' ⟨rfl, rfl⟩) | (with_reducible refine (D7.out _).mono ?_; rintro e w' ⟨rfl, rfl⟩))
                      | (go_at_call 81; refine (C1.out _).mono ?_; rintro e w' ⟨rfl, rfl⟩)
                      | fail)
                    refine (C2.out _).mono ?_
                    rintro e w5 ⟨rfl, hb5⟩
                    have hres5 := (hb5.block _ (by simp)).trans hres
                    have HB5 := HB0.trans (hb5.mono HB0.size)
                    clear hres
                    have hres := hres5
                    go_wp2_with (first
                      | (with_reducible refine gate ?_; refine wp_store_tok rfl _ _ rfl w.heap.size _ _ _ _ _ _ _ _ _ rfl rfl hres rfl ?_; intro w2 hw2 hu2))
                    refine bodyPost_ret (v := .tuple #[.agg _, _, _]) (res_whole3 Tryz.results44 _ _ w.heap.size rfl _ _ hw2 Tryz.underlying43 rfl tokSize _ _ rfl rfl) rfl ⟨?_, ?_⟩
                    · rw [← HR.out]; exact TokRes.fine (t := ⟨3, [], [], false, v, a⟩) rfl (AttsP.none _ _)
                    · exact HB5.trans (hu2.below (Nat.le_refl _) HB5.size)
                  · have hz2 : (0 : Int) ≤ te := by omega
                    subst hz1
                    go_enter Tryz.func44, Tryz.ntmps44
                    go_wp2_with (first
                      | (go_at_call 43; first | (with_reducible refine (D1.out _).mono ?_; rintro e w' ⟨rfl, rfl⟩) | (with_reducible refine (D2.out _).mono ?_; rintro e w' ⟨rfl, rfl⟩) | (with_reducible refine (D3.out _).mono ?_; rintro e w' ⟨rfl, rfl⟩) | (with_reducible refine (D4.out _).mono ?_; rintro e w' ⟨rfl, rfl⟩) | (with_reducible refine (D5.out _).mono ?_; rintro e w' ⟨rfl, rfl⟩) | (with_reducible refine (D6.out _).mono ?_; rintro e w' ⟨rfl, rfl⟩) | (with_reducible refine (D7.out _).mono ?_; rintro e w' ⟨rfl, rfl⟩))
                      | (go_at_call 81; refine (C1.out _).mono ?_; rintro e w' ⟨rfl, rfl⟩)
                      | fail)
                    refine (C2.out _).mono ?_
                    rintro e w5 ⟨rfl, hb5⟩
                    have hres5 := (hb5.block _ (by simp)).trans hres
                    have HB5 := HB0.trans (hb5.mono HB0.size)
                    clear hres
                    have hres := hres5
                    go_wp2_with (first
                      | (with_reducible refine gate ?_; refine wp_store_tok rfl _ _ rfl w.heap.size _ _ _ _ _ _ _ _ _ rfl rfl hres rfl ?_; intro w2 hw2 hu2))
                    refine bodyPost_ret (v := .tuple #[.agg _, _, _]) (res_whole3 Tryz.results44 _ _ w.heap.size rfl _ _ hw2 Tryz.underlying43 rfl tokSize _ _ rfl rfl) rfl ⟨?_, ?_⟩
                    · rw [← HR.out]; exact TokRes.fine (t := ⟨3, [], [], false, v, a⟩) rfl (AttsP.none _ _)
                    · exact HB5.trans (hu2.below (Nat.le_refl _) HB5.size)
end Go.Proofs.YthbfahbjfioghaaGreatDoor
