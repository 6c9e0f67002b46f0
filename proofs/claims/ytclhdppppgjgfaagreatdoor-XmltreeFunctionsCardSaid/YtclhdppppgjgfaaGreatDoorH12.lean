/-
  Several texts in one file, in build order:
  - Walk of chapter 6: the reference's construct.
  - Walk of chapter 6: the reference's Tokens.
  - Walk of chapter 6: the program's Tokens.
  - Storing a whole element into a row that the call has built itself.
  - Storing one cell of an element of a row that the call has built itself; attributes as elements.
  - Plain functions of chapter 8 (xmlns): names, splitting, scopes, resolving a tree. No program.
  - Plain laws of chapter 8: errors are errors, resolving a row of kids one by one, trees whose texts bear nothing; nodes as elements of rows.
-/
import Derived.Test.YtclhdppppgjgfaaGreatDoorH8
import Derived.Test.YtclhdppppgjgfaaGreatDoorH11
import Derived.Test.YtclhdppppgjgfaaGreatDoorH5
import Derived.Test.YtclhdppppgjgfaaGreatDoorH4
import Derived.Test.YtclhdppppgjgfaaGreatDoorH0
import Derived.Test.YtclhdppppgjgfaaGreatDoorH3
set_option linter.unusedVariables false
namespace Go.Proofs.YtclhdppppgjgfaaGreatDoor
open Go.RowKit

theorem TokRes.move {w w' : World} {p p' : Nat → Prop} {r : Except (Nat × Nat) (Tok × Nat)} {e : Ending} (h : TokRes w p r e) (hb : ∀ k, p k → w'.heap[k]? = w.heap[k]?) (hp : ∀ k, p k → p' k) : TokRes w' p' r e := by
  unfold TokRes at *
  cases r with
  | error q => exact h
  | ok x =>
    obtain ⟨t, k⟩ := x
    simp only at h ⊢
    obtain ⟨A, c, h1, h2⟩ := h
    exact ⟨A, c, h1, h2.keep hb hp⟩
/-- The parts of a token that is returned. -/
theorem TokRes.open_ {w : World} {p : Nat → Prop} {r : Except (Nat × Nat) (Tok × Nat)} {e : Ending} (h : TokRes w p r e) : ∃ t A c x y, e = .returned (.tuple #[.agg (tokCells t A c), .int .i64 x, .int .i64 y]) := by
  unfold TokRes at h
  cases r with
  | error q =>
    obtain ⟨t, A, c, h⟩ := h
    exact ⟨t, A, c, _, _, h⟩
  | ok x =>
    obtain ⟨t, k⟩ := x
    simp only at h
    obtain ⟨A, c, h1, h2⟩ := h
    exact ⟨t, A, c, _, _, h1⟩

set_option maxHeartbeats 4000000 in
set_option maxRecDepth 100000 in
theorem refCons_any (l : Bytes) (a : Nat) (w : World) (ha : a < l.length) (hl : l.length ≤ 100000000000) :
    Calls Tryz.prog 65 #[.string (S l), .int .i64 a] w fun e w' => TokRes w' (fun b => w.heap.size ≤ b ∧ b < w'.heap.size) (consAt l a) e ∧ Below w.heap.size w w' := by
  obtain ⟨R, hR⟩ : ∃ R, consAt l a = R := ⟨_, rfl⟩
  rw [hR]
  unfold consAt at hR
  have hres := heap_alloc_new w (.cells zTokC 62)
  have HB0 : Below w.heap.size w (w.alloc (.cells zTokC 62)) := (Below.refl _ _).alloc (Nat.le_refl _) _
  have hs0 : (w.alloc (.cells zTokC 62)).heap.size = w.heap.size + 1 := by simp
  have d1 : ∀ w, Calls Tryz.prog 64 #[.string (S l), .int .i64 a, .string ⟨#[60, 63]⟩] w fun e w' => e = .returned (.bool (hasAt l a sPi)) ∧ w = w' := fun w => refHas_any l a sPi w (by omega) (by omega) (by decide) (by simp [sPi])
  have d2 : ∀ w, Calls Tryz.prog 64 #[.string (S l), .int .i64 a, .string ⟨#[60, 33, 45, 45]⟩] w fun e w' => e = .returned (.bool (hasAt l a sCom)) ∧ w = w' := fun w => refHas_any l a sCom w (by omega) (by omega) (by decide) (by simp [sCom])
  have d3 : ∀ w, Calls Tryz.prog 64 #[.string (S l), .int .i64 a, .string ⟨#[60, 33, 91, 67, 68, 65, 84, 65, 91]⟩] w fun e w' => e = .returned (.bool (hasAt l a sCd)) ∧ w = w' := fun w => refHas_any l a sCd w (by omega) (by omega) (by decide) (by simp [sCd])
  have d4 : ∀ w, Calls Tryz.prog 64 #[.string (S l), .int .i64 a, .string ⟨#[60, 33, 68, 79, 67, 84, 89, 80, 69]⟩] w fun e w' => e = .returned (.bool (hasAt l a sDoc)) ∧ w = w' := fun w => refHas_any l a sDoc w (by omega) (by omega) (by decide) (by simp [sDoc])
  have d5 : ∀ w, Calls Tryz.prog 64 #[.string (S l), .int .i64 a, .string ⟨#[60, 33]⟩] w fun e w' => e = .returned (.bool (hasAt l a sBang)) ∧ w = w' := fun w => refHas_any l a sBang w (by omega) (by omega) (by decide) (by simp [sBang])
  have d6 : ∀ w, Calls Tryz.prog 64 #[.string (S l), .int .i64 a, .string ⟨#[60, 47]⟩] w fun e w' => e = .returned (.bool (hasAt l a sEnd)) ∧ w = w' := fun w => refHas_any l a sEnd w (by omega) (by omega) (by decide) (by simp [sEnd])
  have d7 : ∀ w, Calls Tryz.prog 64 #[.string (S l), .int .i64 a, .string ⟨#[60]⟩] w fun e w' => e = .returned (.bool (hasAt l a sLt)) ∧ w = w' := fun w => refHas_any l a sLt w (by omega) (by omega) (by decide) (by simp [sLt])
  cases b1 : hasAt l a sPi
  case true =>
    rw [b1, if_pos rfl] at hR
    rw [b1] at d1
    have D1 := Lib.hid d1
    have hle := hasAt_le b1
    simp [sPi] at hle
    have c1 : ∀ w, Calls Tryz.prog 93 #[.string (S l), .int .i64 a, .string ⟨#[60, 63]⟩, .string ⟨#[63, 62]⟩] w fun e w' => e = .returned (.tuple #[.int .i64 (skR (skipAt l a 2 sPiEnd)).1, .int .i64 (skR (skipAt l a 2 sPiEnd)).2]) ∧ w = w' := fun w => refSkip_any l sPi sPiEnd a w (by omega) (by simp [sPi]; omega) (by simp [sPiEnd]) (by decide)
    cases hq : skipAt l a 2 sPiEnd with
    | error q =>
      rw [hq] at hR c1
      simp only [skR] at c1
      have C1 := Lib.hid c1
      have HR := Lib.hid hR
      clear hR c1 hq hle b1 d1 d2 d3 d4 d5 d6 d7
      go_enter Tryz.func65, Tryz.ntmps65
      go_wp2_with (first
        | (go_at_call 64; first | (with_reducible refine (D1.out _).mono ?_; rintro e w' ⟨rfl, rfl⟩))
        | (go_at_call 93; refine (C1.out _).mono ?_; rintro e w' ⟨rfl, rfl⟩)
        | (with_reducible refine gate ?_; refine wp_store_tok rfl _ _ rfl w.heap.size _ _ _ _ _ _ _ _ _ rfl rfl hres rfl ?_; intro w2 hw2 hu2))
      refine bodyPost_ret (v := .tuple #[.agg _, _, _]) (res_whole3 Tryz.results65 _ _ w.heap.size rfl _ _ hw2 Tryz.underlying62 rfl tokSize _ _ rfl rfl) rfl ⟨?_, ?_⟩
      · rw [← HR.out]; exact TokRes.err (t := zTok 3)
      · exact HB0.trans (hu2.below (Nat.le_refl _) HB0.size)
    | ok q =>
      rw [hq] at hR c1
      simp only [skR] at c1
      have C1 := Lib.hid c1
      have HR := Lib.hid hR
      clear hR c1 hq hle b1 d1 d2 d3 d4 d5 d6 d7
      go_enter Tryz.func65, Tryz.ntmps65
      go_wp2_with (first
        | (go_at_call 64; first | (with_reducible refine (D1.out _).mono ?_; rintro e w' ⟨rfl, rfl⟩))
        | (go_at_call 93; refine (C1.out _).mono ?_; rintro e w' ⟨rfl, rfl⟩)
        | (with_reducible refine gate ?_; refine wp_store_tok rfl _ _ rfl w.heap.size _ _ _ _ _ _ _ _ _ rfl rfl hres rfl ?_; intro w2 hw2 hu2))
      refine bodyPost_ret (v := .tuple #[.agg _, _, _]) (res_whole3 Tryz.results65 _ _ w.heap.size rfl _ _ hw2 Tryz.underlying62 rfl tokSize _ _ rfl rfl) rfl ⟨?_, ?_⟩
      · rw [← HR.out]; exact TokRes.fine (t := zTok 3) rfl (AttsP.none _ _)
      · exact HB0.trans (hu2.below (Nat.le_refl _) HB0.size)
  case false =>
    rw [b1, if_neg (by decide)] at hR
    rw [b1] at d1
    have D1 := Lib.hid d1
    clear d1 b1
    cases b2 : hasAt l a sCom
    case true =>
      rw [b2, if_pos rfl] at hR
      rw [b2] at d2
      have D2 := Lib.hid d2
      have hle := hasAt_le b2
      simp [sCom] at hle
      have c1 : ∀ w, Calls Tryz.prog 93 #[.string (S l), .int .i64 a, .string ⟨#[60, 33, 45, 45]⟩, .string ⟨#[45, 45, 62]⟩] w fun e w' => e = .returned (.tuple #[.int .i64 (skR (skipAt l a 4 sComEnd)).1, .int .i64 (skR (skipAt l a 4 sComEnd)).2]) ∧ w = w' := fun w => refSkip_any l sCom sComEnd a w (by omega) (by simp [sCom]; omega) (by simp [sComEnd]) (by decide)
      cases hq : skipAt l a 4 sComEnd with
      | error q =>
        rw [hq] at hR c1
        simp only [skR] at c1
        have C1 := Lib.hid c1
        have HR := Lib.hid hR
        clear hR c1 hq hle b2 d2 d3 d4 d5 d6 d7
        go_enter Tryz.func65, Tryz.ntmps65
        go_wp2_with (first
          | (go_at_call 64; first | (with_reducible refine (D1.out _).mono ?_; rintro e w' ⟨rfl, rfl⟩) | (with_reducible refine (D2.out _).mono ?_; rintro e w' ⟨rfl, rfl⟩))
          | (go_at_call 93; refine (C1.out _).mono ?_; rintro e w' ⟨rfl, rfl⟩)
          | (with_reducible refine gate ?_; refine wp_store_tok rfl _ _ rfl w.heap.size _ _ _ _ _ _ _ _ _ rfl rfl hres rfl ?_; intro w2 hw2 hu2))
        refine bodyPost_ret (v := .tuple #[.agg _, _, _]) (res_whole3 Tryz.results65 _ _ w.heap.size rfl _ _ hw2 Tryz.underlying62 rfl tokSize _ _ rfl rfl) rfl ⟨?_, ?_⟩
        · rw [← HR.out]; exact TokRes.err (t := zTok 3)
        · exact HB0.trans (hu2.below (Nat.le_refl _) HB0.size)
      | ok q =>
        rw [hq] at hR c1
        simp only [skR] at c1
        have C1 := Lib.hid c1
        have HR := Lib.hid hR
        clear hR c1 hq hle b2 d2 d3 d4 d5 d6 d7
        go_enter Tryz.func65, Tryz.ntmps65
        go_wp2_with (first
          | (go_at_call 64; first | (with_reducible refine (D1.out _).mono ?_; rintro e w' ⟨rfl, rfl⟩) | (with_reducible refine (D2.out _).mono ?_; rintro e w' ⟨rfl, rfl⟩))
          | (go_at_call 93; refine (C1.out _).mono ?_; rintro e w' ⟨rfl, rfl⟩)
          | (with_reducible refine gate ?_; refine wp_store_tok rfl _ _ rfl w.heap.size _ _ _ _ _ _ _ _ _ rfl rfl hres rfl ?_; intro w2 hw2 hu2))
        refine bodyPost_ret (v := .tuple #[.agg _, _, _]) (res_whole3 Tryz.results65 _ _ w.heap.size rfl _ _ hw2 Tryz.underlying62 rfl tokSize _ _ rfl rfl) rfl ⟨?_, ?_⟩
        · rw [← HR.out]; exact TokRes.fine (t := zTok 3) rfl (AttsP.none _ _)
        · exact HB0.trans (hu2.below (Nat.le_refl _) HB0.size)
    case false =>
      rw [b2, if_neg (by decide)] at hR
      rw [b2] at d2
      have D2 := Lib.hid d2
      clear d2 b2
      cases b3 : hasAt l a sCd
      case true =>
        rw [b3, if_pos rfl] at hR
        rw [b3] at d3
        have D3 := Lib.hid d3
        have hle := hasAt_le b3
        simp [sCd] at hle
        have c1 : ∀ w, Calls Tryz.prog 93 #[.string (S l), .int .i64 a, .string ⟨#[60, 33, 91, 67, 68, 65, 84, 65, 91]⟩, .string ⟨#[93, 93, 62]⟩] w fun e w' => e = .returned (.tuple #[.int .i64 (skR (skipAt l a 9 sCdEnd)).1, .int .i64 (skR (skipAt l a 9 sCdEnd)).2]) ∧ w = w' := fun w => refSkip_any l sCd sCdEnd a w (by omega) (by simp [sCd]; omega) (by simp [sCdEnd]) (by decide)
        cases hq : skipAt l a 9 sCdEnd with
        | error q =>
          have hqe : q.2 ≠ 0 := by
            unfold skipAt at hq
            split at hq
            · cases hq; simp
            · cases hq
          have t6 : ((q.2 : Int) == 0) = false := by rw [beq_eq_false_iff_ne]; omega
          have t7 : ((q.2 : Int) != 0) = true := by rw [bne, t6]; rfl
          rw [hq] at hR c1
          simp only [skR] at c1
          have C1 := Lib.hid c1
          have HR := Lib.hid hR
          clear hR c1 hq hle hqe b3 d3 d4 d5 d6 d7
          go_enter Tryz.func65, Tryz.ntmps65
          go_wp2_with (first
            | (go_at_call 64; first | (with_reducible refine (D1.out _).mono ?_; rintro e w' ⟨rfl, rfl⟩) | (with_reducible refine (D2.out _).mono ?_; rintro e w' ⟨rfl, rfl⟩) | (with_reducible refine (D3.out _).mono ?_; rintro e w' ⟨rfl, rfl⟩))
            | (go_at_call 93; refine (C1.out _).mono ?_; rintro e w' ⟨rfl, rfl⟩)
            | (with_reducible refine gate ?_; refine wp_store_tok rfl _ _ rfl w.heap.size _ _ _ _ _ _ _ _ _ rfl rfl hres rfl ?_; intro w2 hw2 hu2))
          refine bodyPost_ret (v := .tuple #[.agg _, _, _]) (res_whole3 Tryz.results65 _ _ w.heap.size rfl _ _ hw2 Tryz.underlying62 rfl tokSize _ _ rfl rfl) rfl ⟨?_, ?_⟩
          · rw [← HR.out]; exact TokRes.err (t := zTok 0)
          · exact HB0.trans (hu2.below (Nat.le_refl _) HB0.size)
        | ok q =>
          have hqe := skipAt_ok (by simp [sCdEnd]) hq
          simp [sCdEnd] at hqe
          rw [hq] at hR c1
          simp only [skR] at c1
          have C1 := Lib.hid c1
          have c2 := fun w => refLines_any ((l.drop (a + 9)).take (q - 3 - (a + 9))) w (by rw [List.length_take, List.length_drop]; omega)
          have C2 := Lib.hid c2
          have e1 : (a : Int) + 9 ≤ (q : Int) - 3 := by omega
          have e2 : (q : Int) - 3 ≤ l.length := by omega
          have e3 : ((q : Int) - 3).toNat = q - 3 := by omega
          have e4 : (0 : Int) ≤ (q : Int) - 3 := by omega
          have e5 : (3 : Int) ≤ q := by omega
          have HR := Lib.hid hR
          clear hR c1 c2 hq hle b3 d3 d4 d5 d6 d7
          go_enter Tryz.func65, Tryz.ntmps65
          go_wp2_with (first
            | (go_at_call 64; first | (with_reducible refine (D1.out _).mono ?_; rintro e w' ⟨rfl, rfl⟩) | (with_reducible refine (D2.out _).mono ?_; rintro e w' ⟨rfl, rfl⟩) | (with_reducible refine (D3.out _).mono ?_; rintro e w' ⟨rfl, rfl⟩))
            | (go_at_call 93; refine (C1.out _).mono ?_; rintro e w' ⟨rfl, rfl⟩)
            | fail)
          refine (C2.out _).mono ?_
          rintro e w5 ⟨rfl, hb5⟩
          have hres5 := (hb5.block _ (by simp)).trans hres
          have HB5 := HB0.trans (hb5.mono HB0.size)
          clear hres
          have hres := hres5
          go_wp2_with (first
            | (with_reducible refine gate ?_; refine wp_store_tok rfl _ _ rfl w.heap.size _ _ _ _ _ _ _ _ _ rfl rfl hres rfl ?_; intro w2 hw2 hu2))
          refine bodyPost_ret (v := .tuple #[.agg _, _, _]) (res_whole3 Tryz.results65 _ _ w.heap.size rfl _ _ hw2 Tryz.underlying62 rfl tokSize _ _ rfl rfl) rfl ⟨?_, ?_⟩
          · rw [← HR.out]; exact TokRes.fine (t := ⟨3, [], [], false, linesB ((l.drop (a + 9)).take (q - 3 - (a + 9))), a⟩) rfl (AttsP.none _ _)
          · exact HB5.trans (hu2.below (Nat.le_refl _) HB5.size)
      case false =>
        rw [b3, if_neg (by decide)] at hR
        rw [b3] at d3
        have D3 := Lib.hid d3
        clear d3 b3
        cases b4 : hasAt l a sDoc
        case true =>
          rw [b4, if_pos rfl] at hR
          rw [b4] at d4
          have D4 := Lib.hid d4
          have HR := Lib.hid hR
          clear hR b4 d4 d5 d6 d7
          go_enter Tryz.func65, Tryz.ntmps65
          go_wp2_with (first
            | (go_at_call 64; first | (with_reducible refine (D1.out _).mono ?_; rintro e w' ⟨rfl, rfl⟩) | (with_reducible refine (D2.out _).mono ?_; rintro e w' ⟨rfl, rfl⟩) | (with_reducible refine (D3.out _).mono ?_; rintro e w' ⟨rfl, rfl⟩) | (with_reducible refine (D4.out _).mono ?_; rintro e w' ⟨rfl, rfl⟩))
            | (with_reducible refine gate ?_; refine wp_store_tok rfl _ _ rfl w.heap.size _ _ _ _ _ _ _ _ _ rfl rfl hres rfl ?_; intro w2 hw2 hu2))
          refine bodyPost_ret (v := .tuple #[.agg _, _, _]) (res_whole3 Tryz.results65 _ _ w.heap.size rfl _ _ hw2 Tryz.underlying62 rfl tokSize _ _ rfl rfl) rfl ⟨?_, ?_⟩
          · rw [← HR.out]; exact TokRes.err (q := (a, 11)) (t := zTok 0)
          · exact HB0.trans (hu2.below (Nat.le_refl _) HB0.size)
        case false =>
          rw [b4, if_neg (by decide)] at hR
          rw [b4] at d4
          have D4 := Lib.hid d4
          clear d4 b4
          cases b5 : hasAt l a sBang
          case true =>
            rw [b5, if_pos rfl] at hR
            rw [b5] at d5
            have D5 := Lib.hid d5
            have HR := Lib.hid hR
            clear hR b5 d5 d6 d7
            go_enter Tryz.func65, Tryz.ntmps65
            go_wp2_with (first
              | (go_at_call 64; first | (with_reducible refine (D1.out _).mono ?_; rintro e w' ⟨rfl, rfl⟩) | (with_reducible refine (D2.out _).mono ?_; rintro e w' ⟨rfl, rfl⟩) | (with_reducible refine (D3.out _).mono ?_; rintro e w' ⟨rfl, rfl⟩) | (with_reducible refine (D4.out _).mono ?_; rintro e w' ⟨rfl, rfl⟩) | (with_reducible refine (D5.out _).mono ?_; rintro e w' ⟨rfl, rfl⟩))
              | (with_reducible refine gate ?_; refine wp_store_tok rfl _ _ rfl w.heap.size _ _ _ _ _ _ _ _ _ rfl rfl hres rfl ?_; intro w2 hw2 hu2))
            refine bodyPost_ret (v := .tuple #[.agg _, _, _]) (res_whole3 Tryz.results65 _ _ w.heap.size rfl _ _ hw2 Tryz.underlying62 rfl tokSize _ _ rfl rfl) rfl ⟨?_, ?_⟩
            · rw [← HR.out]; exact TokRes.err (q := (a, 7)) (t := zTok 0)
            · exact HB0.trans (hu2.below (Nat.le_refl _) HB0.size)
          case false =>
            rw [b5, if_neg (by decide)] at hR
            rw [b5] at d5
            have D5 := Lib.hid d5
            clear d5 b5
            cases b6 : hasAt l a sEnd
            case true =>
              rw [b6, if_pos rfl] at hR
              rw [b6] at d6
              have D6 := Lib.hid d6
              have hle := hasAt_le b6
              simp [sEnd] at hle
              have c1 := fun w => refEnd_any l a w (by omega) (by omega)
              rw [hR] at c1
              have C1 := Lib.hid c1
              clear hR c1 hle b6 d6 d7
              go_enter Tryz.func65, Tryz.ntmps65
              go_wp2_with (first
                | (go_at_call 64; first | (with_reducible refine (D1.out _).mono ?_; rintro e w' ⟨rfl, rfl⟩) | (with_reducible refine (D2.out _).mono ?_; rintro e w' ⟨rfl, rfl⟩) | (with_reducible refine (D3.out _).mono ?_; rintro e w' ⟨rfl, rfl⟩) | (with_reducible refine (D4.out _).mono ?_; rintro e w' ⟨rfl, rfl⟩) | (with_reducible refine (D5.out _).mono ?_; rintro e w' ⟨rfl, rfl⟩) | (with_reducible refine (D6.out _).mono ?_; rintro e w' ⟨rfl, rfl⟩))
                | fail)
              refine (C1.out _).mono ?_
              rintro e w5 ⟨ht, hb5⟩
              have HT := Lib.hid ht
              have hres5 := (hb5.block _ (by simp)).trans hres
              have HB5 := HB0.trans (hb5.mono HB0.size)
              obtain ⟨tt, A, c, x, y, rfl⟩ := ht.open_
              clear hres ht
              have hres := hres5
              go_wp2_with (first
                | (with_reducible refine gate ?_; refine wp_store_tok rfl _ _ rfl w.heap.size _ _ _ _ _ _ _ _ _ rfl rfl hres rfl ?_; intro w2 hw2 hu2))
              refine bodyPost_ret (v := .tuple #[.agg _, _, _]) (res_whole3 Tryz.results65 _ _ w.heap.size rfl _ _ hw2 Tryz.underlying62 rfl tokSize _ _ rfl rfl) rfl ⟨?_, ?_⟩
              · exact HT.out.move (fun k hk => hu2.block k hk.2 (by have := hk.1; rw [hs0] at this; omega)) (fun k hk => ⟨by have := hk.1; rw [hs0] at this; omega, by have := hk.2; have := hu2.size; omega⟩)
              · exact HB5.trans (hu2.below (Nat.le_refl _) HB5.size)
            case false =>
              rw [b6, if_neg (by decide)] at hR
              rw [b6] at d6
              have D6 := Lib.hid d6
              clear d6 b6
              cases b7 : hasAt l a sLt
              case true =>
                rw [b7, if_pos rfl] at hR
                rw [b7] at d7
                have D7 := Lib.hid d7
                have hle := hasAt_le b7
                simp [sLt] at hle
                have c1 := fun w => refStart_any l a w (by omega) hl
                rw [hR] at c1
                have C1 := Lib.hid c1
                clear hR c1 hle b7 d7
                go_enter Tryz.func65, Tryz.ntmps65
                go_wp2_with (first
                  | (go_at_call 64; first | (with_reducible refine (D1.out _).mono ?_; rintro e w' ⟨rfl, rfl⟩) | (with_reducible refine (D2.out _).mono ?_; rintro e w' ⟨rfl, rfl⟩) | (with_reducible refine (D3.out _).mono ?_; rintro e w' ⟨rfl, rfl⟩) | (with_reducible refine (D4.out _).mono ?_; rintro e w' ⟨rfl, rfl⟩) | (with_reducible refine (D5.out _).mono ?_; rintro e w' ⟨rfl, rfl⟩) | (with_reducible refine (D6.out _).mono ?_; rintro e w' ⟨rfl, rfl⟩) | (with_reducible refine (D7.out _).mono ?_; rintro e w' ⟨rfl, rfl⟩))
                  | fail)
                refine (C1.out _).mono ?_
                rintro e w5 ⟨ht, hb5⟩
                have HT := Lib.hid ht
                have hres5 := (hb5.block _ (by simp)).trans hres
                have HB5 := HB0.trans (hb5.mono HB0.size)
                obtain ⟨tt, A, c, x, y, rfl⟩ := ht.open_
                clear hres ht
                have hres := hres5
                go_wp2_with (first
                  | (with_reducible refine gate ?_; refine wp_store_tok rfl _ _ rfl w.heap.size _ _ _ _ _ _ _ _ _ rfl rfl hres rfl ?_; intro w2 hw2 hu2))
                refine bodyPost_ret (v := .tuple #[.agg _, _, _]) (res_whole3 Tryz.results65 _ _ w.heap.size rfl _ _ hw2 Tryz.underlying62 rfl tokSize _ _ rfl rfl) rfl ⟨?_, ?_⟩
                · exact HT.out.move (fun k hk => hu2.block k hk.2 (by have := hk.1; rw [hs0] at this; omega)) (fun k hk => ⟨by have := hk.1; rw [hs0] at this; omega, by have := hk.2; have := hu2.size; omega⟩)
                · exact HB5.trans (hu2.below (Nat.le_refl _) HB5.size)
              case false =>
                rw [b7, if_neg (by decide)] at hR
                rw [b7] at d7
                have D7 := Lib.hid d7
                clear d7 b7
                have c1 := fun w => refFind_any l a sLt w (by omega) (by omega) (by decide) (by simp [sLt])
                have hte := textEnd_ge l a (by omega)
                have c2 := fun w => refContent_any false l a (textEnd l a) w hte.1 hte.2 (by omega)
                have hcase : ∃ z : Int, (z < 0 ∧ textEnd l a = l.length ∨ z = textEnd l a) ∧ optI ((findS sLt (l.drop a)).map (· + a)) = z := by
                  refine ⟨_, ?_, rfl⟩
                  unfold textEnd
                  cases findS sLt (l.drop a) with
                  | none => left; exact ⟨by simp [optI], rfl⟩
                  | some j => right; simp only [Option.map_some, optI]; omega
                obtain ⟨z, hz, hzz⟩ := hcase
                rw [hzz] at c1
                clear hzz
                obtain ⟨te, hte2⟩ : ∃ te, textEnd l a = te := ⟨_, rfl⟩
                rw [hte2] at hz hR c2 hte
                clear hte2
                cases hcc : cont false l a te with
                | error m =>
                  rw [hcc] at c2 hR
                  simp only [contR] at c2
                  simp only at hR
                  have C1 : Hid (∀ w, Calls Tryz.prog 97 #[.string (S l), .int .i64 a, .string ⟨#[60]⟩] w fun e w' => e = .returned (.int .i64 z) ∧ w = w') := c1
                  have C2 := Lib.hid c2
                  have HR := Lib.hid hR
                  clear hR c1 c2 hcc
                  rcases hz with ⟨hz1, hz2⟩ | hz1
                  · subst hz2
                    go_enter Tryz.func65, Tryz.ntmps65
                    go_wp2_with (first
                      | (go_at_call 64; first | (with_reducible refine (D1.out _).mono ?_; rintro e w' ⟨rfl, rfl⟩) | (with_reducible refine (D2.out _).mono ?_; rintro e w' ⟨rfl, rfl⟩) | (with_reducible refine (D3.out _).mono ?_; rintro e w' ⟨rfl, rfl⟩) | (with_reducible refine (D4.out _).mono ?_; rintro e w' ⟨rfl, rfl⟩) | (with_reducible refine (D5.out _).mono ?_; rintro e w' ⟨rfl, rfl⟩) | (with_reducible refine (D6.out _).mono ?_; rintro e w' ⟨rfl, rfl⟩) | (with_reducible refine (D7.out _).mono ?_; rintro e w' ⟨rfl, rfl⟩))
                      | (go_at_call 97; refine (C1.out _).mono ?_; rintro e w' ⟨rfl, rfl⟩)
                      | fail)
                    refine (C2.out _).mono ?_
                    rintro e w5 ⟨rfl, hb5⟩
                    have hres5 := (hb5.block _ (by simp)).trans hres
                    have HB5 := HB0.trans (hb5.mono HB0.size)
                    clear hres
                    have hres := hres5
                    go_wp2_with (first
                      | (with_reducible refine gate ?_; refine wp_store_tok rfl _ _ rfl w.heap.size _ _ _ _ _ _ _ _ _ rfl rfl hres rfl ?_; intro w2 hw2 hu2))
                    refine bodyPost_ret (v := .tuple #[.agg _, _, _]) (res_whole3 Tryz.results65 _ _ w.heap.size rfl _ _ hw2 Tryz.underlying62 rfl tokSize _ _ rfl rfl) rfl ⟨?_, ?_⟩
                    · rw [← HR.out]; exact TokRes.err (q := (m, 12)) (t := ⟨3, [], [], false, [], a⟩)
                    · exact HB5.trans (hu2.below (Nat.le_refl _) HB5.size)
                  · have hz2 : (0 : Int) ≤ te := by omega
                    subst hz1
                    go_enter Tryz.func65, Tryz.ntmps65
                    go_wp2_with (first
                      | (go_at_call 64; first | (with_reducible refine (D1.out _).mono ?_; rintro e w' ⟨rfl, rfl⟩) | (with_reducible refine (D2.out _).mono ?_; rintro e w' ⟨rfl, rfl⟩) | (with_reducible refine (D3.out _).mono ?_; rintro e w' ⟨rfl, rfl⟩) | (with_reducible refine (D4.out _).mono ?_; rintro e w' ⟨rfl, rfl⟩) | (with_reducible refine (D5.out _).mono ?_; rintro e w' ⟨rfl, rfl⟩) | (with_reducible refine (D6.out _).mono ?_; rintro e w' ⟨rfl, rfl⟩) | (with_reducible refine (D7.out _).mono ?_; rintro e w' ⟨rfl, rfl⟩))
                      | (go_at_call 97; refine (C1.out _).mono ?_; rintro e w' ⟨rfl, rfl⟩)
                      | fail)
                    refine (C2.out _).mono ?_
                    rintro e w5 ⟨rfl, hb5⟩
                    have hres5 := (hb5.block _ (by simp)).trans hres
                    have HB5 := HB0.trans (hb5.mono HB0.size)
                    clear hres
                    have hres := hres5
                    go_wp2_with (first
                      | (with_reducible refine gate ?_; refine wp_store_tok rfl _ _ rfl w.heap.size _ _ _ _ _ _ _ _ _ rfl rfl hres rfl ?_; intro w2 hw2 hu2))
                    refine bodyPost_ret (v := .tuple #[.agg _, _, _]) (res_whole3 Tryz.results65 _ _ w.heap.size rfl _ _ hw2 Tryz.underlying62 rfl tokSize _ _ rfl rfl) rfl ⟨?_, ?_⟩
                    · rw [← HR.out]; exact TokRes.err (q := (m, 12)) (t := ⟨3, [], [], false, [], a⟩)
                    · exact HB5.trans (hu2.below (Nat.le_refl _) HB5.size)
                | ok v =>
                  rw [hcc] at c2 hR
                  simp only [contR] at c2
                  simp only at hR
                  have C1 : Hid (∀ w, Calls Tryz.prog 97 #[.string (S l), .int .i64 a, .string ⟨#[60]⟩] w fun e w' => e = .returned (.int .i64 z) ∧ w = w') := c1
                  have C2 := Lib.hid c2
                  have HR := Lib.hid hR
                  clear hR c1 c2 hcc
                  rcases hz with ⟨hz1, hz2⟩ | hz1
                  · subst hz2
                    go_enter Tryz.func65, Tryz.ntmps65
                    go_wp2_with (first
                      | (go_at_call 64; first | (with_reducible refine (D1.out _).mono ?_; rintro e w' ⟨rfl, rfl⟩) | (with_reducible refine (D2.out _).mono ?_; rintro e w' ⟨rfl, rfl⟩) | (with_reducible refine (D3.out _).mono ?_; rintro e w' ⟨rfl, rfl⟩) | (with_reducible refine (D4.out _).mono ?_; rintro e w' ⟨rfl, rfl⟩) | (with_reducible refine (D5.out _).mono ?_; rintro e w' ⟨rfl, rfl⟩) | (with_reducible refine (D6.out _).mono ?_; rintro e w' ⟨rfl, rfl⟩) | (with_reducible refine (D7.out _).mono ?_; rintro e w' ⟨rfl, rfl⟩))
                      | (go_at_call 97; refine (C1.out _).mono ?_; rintro e w' ⟨rfl, rfl⟩)
                      | fail)
                    refine (C2.out _).mono ?_
                    rintro e w5 ⟨rfl, hb5⟩
                    have hres5 := (hb5.block _ (by simp)).trans hres
                    have HB5 := HB0.trans (hb5.mono HB0.size)
                    clear hres
                    have hres := hres5
                    go_wp2_with (first
                      | (with_reducible refine gate ?_; refine wp_store_tok rfl _ _ rfl w.heap.size _ _ _ _ _ _ _ _ _ rfl rfl hres rfl ?_; intro w2 hw2 hu2))
                    refine bodyPost_ret (v := .tuple #[.agg _, _, _]) (res_whole3 Tryz.results65 _ _ w.heap.size rfl _ _ hw2 Tryz.underlying62 rfl tokSize _ _ rfl rfl) rfl ⟨?_, ?_⟩
                    · rw [← HR.out]; exact TokRes.fine (t := ⟨3, [], [], false, v, a⟩) rfl (AttsP.none _ _)
                    · exact HB5.trans (hu2.below (Nat.le_refl _) HB5.size)
                  · have hz2 : (0 : Int) ≤ te := by omega
                    subst hz1
                    go_enter Tryz.func65, Tryz.ntmps65
                    go_wp2_with (first
                      | (go_at_call 64; first | (with_reducible refine (D1.out _).mono ?_; rintro e w' ⟨rfl, rfl⟩) | (with_reducible refine (D2.out _).mono ?_; rintro e w' ⟨rfl, rfl⟩) | (with_reducible refine (D3.out _).mono ?_; rintro e w' ⟨rfl, rfl⟩) | (with_reducible refine (D4.out _).mono ?_; rintro e w' ⟨rfl, rfl⟩) | (with_reducible refine (D5.out _).mono ?_; rintro e w' ⟨rfl, rfl⟩) | (with_reducible refine (D6.out _).mono ?_; rintro e w' ⟨rfl, rfl⟩) | (with_reducible refine (D7.out _).mono ?_; rintro e w' ⟨rfl, rfl⟩))
                      | (go_at_call 97; refine (C1.out _).mono ?_; rintro e w' ⟨rfl, rfl⟩)
                      | fail)
                    refine (C2.out _).mono ?_
                    rintro e w5 ⟨rfl, hb5⟩
                    have hres5 := (hb5.block _ (by simp)).trans hres
                    have HB5 := HB0.trans (hb5.mono HB0.size)
                    clear hres
                    have hres := hres5
                    go_wp2_with (first
                      | (with_reducible refine gate ?_; refine wp_store_tok rfl _ _ rfl w.heap.size _ _ _ _ _ _ _ _ _ rfl rfl hres rfl ?_; intro w2 hw2 hu2))
                    refine bodyPost_ret (v := .tuple #[.agg _, _, _]) (res_whole3 Tryz.results65 _ _ w.heap.size rfl _ _ hw2 Tryz.underlying62 rfl tokSize _ _ rfl rfl) rfl ⟨?_, ?_⟩
                    · rw [← HR.out]; exact TokRes.fine (t := ⟨3, [], [], false, v, a⟩) rfl (AttsP.none _ _)
                    · exact HB5.trans (hu2.below (Nat.le_refl _) HB5.size)
end Go.Proofs.YtclhdppppgjgfaaGreatDoor
set_option linter.unusedVariables false
namespace Go.Proofs.YtclhdppppgjgfaaGreatDoor
open Go.RowKit

/-- What Tokens returns: a row of tokens of its own (over the type T), all in blocks from B on. -/
def ToksRes (T : TypeId) (B : Nat) (w' : World) (r : List Tok × Nat × Nat) (e : Ending) : Prop :=
  ∃ v, e = .returned (.tuple #[v, .int .i64 r.2.1, .int .i64 r.2.2]) ∧ TokRow T w' B (fun b => B ≤ b ∧ b < w'.heap.size ∧ v.ownBlock ≠ some b) v r.1
theorem ToksRes.none {T : TypeId} {B : Nat} {w' : World} {x y : Nat} : ToksRes T B w' ([], x, y) (.returned (.tuple #[.slice .none 0 0, .int .i64 x, .int .i64 y])) := ⟨_, rfl, TokRow.nil _ _ _ _⟩
theorem consAt_err {l : Bytes} {a : Nat} {q : Nat × Nat} (h : consAt l a = .error q) : q.2 ≠ 0 := by
  have hm : ∀ a x, (missing l a x).2 ≠ 0 := fun a x => by unfold missing; split <;> simp
  have hsk : ∀ {k : Nat} {s : Bytes} {q : Nat × Nat}, skipAt l a k s = .error q → q.2 ≠ 0 := by
    intro k s q h
    unfold skipAt at h
    split at h
    · cases h; simp
    · cases h
  have hsm : ∀ {k : Nat} {s : Bytes} {g : Nat → Tok × Nat}, (skipAt l a k s).map g = .error q → q.2 ≠ 0 := by
    intro k s g h
    cases hq : skipAt l a k s with
    | error y => rw [hq] at h; cases h; exact hsk hq
    | ok y => rw [hq] at h; cases h
  have htg : ∀ (f n : Nat) (bs : List Att) (q : Nat × Nat), tagF l a (f + (l.length + 1 - n)) n bs = .error q → n ≤ l.length → q.2 ≠ 0 := by
    intro f n
    induction h : l.length + 1 - n using Nat.strongRecOn generalizing n f with
    | _ m ih =>
      intro bs q hq hn
      obtain ⟨m', rfl⟩ : ∃ m', m = m' + 1 := ⟨m - 1, by omega⟩
      rw [show f + (m' + 1) = (f + m') + 1 by omega, tagF] at hq
      have s1 := spEnd_ge l n
      have s2 := spEnd_le hn
      split at hq
      · cases hq
      · split at hq
        · cases hq
        · split at hq
          · cases hq; exact hm _ _
          · split at hq
            · cases hq; exact hm _ _
            · cases hat : attAt l a (spEnd l n) with
              | error y => rw [hat] at hq; cases hq; exact attAt_err hat
              | ok p =>
                obtain ⟨b, e⟩ := p
                rw [hat] at hq
                have hok := attAt_ok s2 hat
                simp only at hq
                split at hq
                · cases hq; simp
                · exact ih (l.length + 1 - e) (by omega) (f + m' - (l.length + 1 - e)) e rfl _ q (by rw [show f + m' - (l.length + 1 - e) + (l.length + 1 - e) = f + m' by omega]; exact hq) hok.2.1
  unfold consAt at h
  split at h
  · exact hsm h
  · split at h
    · exact hsm h
    · split at h
      · exact hsm h
      · split at h
        · cases h; simp
        · split at h
          · cases h; simp
          · split at h
            · unfold endAt at h
              split at h
              · cases h; exact hm _ _
              · split at h
                · cases h
                · cases h; exact hm _ _
            · split at h
              · unfold startAt at h
                have hk := nameLen_le (l.drop (a + 1))
                rw [List.length_drop] at hk
                split at h
                · cases h; exact hm _ _
                · rename_i hk0
                  unfold tagS at h
                  cases ht : tagF l a (l.length + 1) (a + 1 + nameLen (l.drop (a + 1))) [] with
                  | error y =>
                    rw [ht] at h
                    cases h
                    exact htg (a + 1 + nameLen (l.drop (a + 1))) _ [] q (by rw [show a + 1 + nameLen (l.drop (a + 1)) + (l.length + 1 - (a + 1 + nameLen (l.drop (a + 1)))) = l.length + 1 by omega]; exact ht) (by omega)
                  | ok p => rw [ht] at h; cases h
              · split at h
                · cases h; simp
                · cases h

set_option maxHeartbeats 4000000 in
set_option maxRecDepth 100000 in
theorem refTokens_any (l : Bytes) (w : World) (hl : l.length ≤ 100000000000) :
    Calls Tryz.prog 34 #[.string (S l)] w fun e w' => ToksRes 62 w.heap.size w' (toks l) e ∧ Below w.heap.size w w' := by
  obtain ⟨R, hR⟩ : ∃ R, toks l = R := ⟨_, rfl⟩
  rw [hR]
  unfold toks at hR
  have c1 := fun w => refCheck_any l w (by omega)
  by_cases hch : (check l).2 = 0
  · rw [if_neg (by simp [hch])] at hR
    have t6 : (((check l).2 : Int) == 0) = true := by rw [hch]; rfl
    have t7 : (((check l).2 : Int) != 0) = false := by rw [bne, t6]; rfl
    have d1 : ∀ w, Calls Tryz.prog 64 #[.string (S l), .int .i64 0, .string ⟨#[239, 187, 191]⟩] w fun e w' => e = .returned (.bool (hasAt l 0 sBom)) ∧ w = w' := fun w => refHas_any l 0 sBom w (by omega) (by omega) (by decide) (by simp [sBom])
    have hz0 : (if hasAt l 0 sBom = true then 3 else 0) ≤ l.length := by
      split
      · rename_i h
        have := hasAt_le h
        simp [sBom] at this; omega
      · omega
    obtain ⟨X, hX⟩ : ∃ X, tokS l (if hasAt l 0 sBom = true then 3 else 0) [] = X := ⟨_, rfl⟩
    rw [hX] at hR
    unfold tokS at hX
    have C1 := Lib.hid c1
    have HR := Lib.hid hR
    clear c1 hR hch
    have HS : ∃ (b : Bool) (z : Nat), hasAt l 0 sBom = b ∧ (b = true ∧ z = 3 ∨ b = false ∧ z = 0) ∧ z ≤ l.length ∧ tokF l (l.length + 1) z [] = X := by
      cases h : hasAt l 0 sBom
      · rw [h] at hX; exact ⟨_, 0, rfl, .inr ⟨rfl, rfl⟩, by omega, hX⟩
      · rw [h] at hX hz0; exact ⟨_, 3, rfl, .inl ⟨rfl, rfl⟩, hz0, hX⟩
    clear hX hz0
    obtain ⟨b, z0, hb, hbz, hz0, hX⟩ := HS
    rw [hb] at d1
    have D1 := Lib.hid d1
    have HX := Lib.hid hX
    clear d1 hb hX
    rcases hbz with ⟨rfl, rfl⟩ | ⟨rfl, rfl⟩
    all_goals
      go_enter Tryz.func34, Tryz.ntmps34
      go_wp2_with fail
      refine (C1.out _).mono ?_
      rintro e w1 ⟨rfl, hb1⟩
      have HB1 := Lib.hid hb1
      clear hb1
      go_wp2_with (go_at_call 64; refine (D1.out _).mono ?_; rintro e w' ⟨rfl, rfl⟩)
      go_loopw [5, 7] (fun i5 v7 wr => ∃ (z f : Nat) (ts : List Tok) (A : Option Addr) (c : Nat), z ≤ l.length ∧ l.length < z + f ∧ i5 = .int .i64 z ∧ v7 = .slice A ts.length c ∧ ts.length ≤ z ∧ tokF l f z ts = X ∧ TokRow 62 wr w.heap.size (fun b => w.heap.size ≤ b ∧ b < wr.heap.size ∧ (Value.slice A ts.length c).ownBlock ≠ some b) (.slice A ts.length c) ts ∧ Below w.heap.size w wr) (fun i5 _ _ => l.length - (intOf i5).toNat)
      case atStart => exact ⟨_, l.length + 1, [], none, 0, hz0, by omega, rfl, rfl, by simp, HX.out, TokRow.nil _ _ _ _, HB1.out⟩
      case round =>
        clear HB1 HX D1 C1 hz0
        obtain ⟨z, f, ts, A, c, hz, hzf, rfl, rfl, htl, htk, hrow, hB⟩ := hrel
        obtain ⟨f, rfl⟩ : ∃ g, f = g + 1 := ⟨f - 1, by omega⟩
        rw [tokF] at htk
        have HROW := Lib.hid hrow
        have HB := Lib.hid hB
        have hsz := hB.size
        clear hrow hB
        by_cases hlt : z < l.length
        · rw [if_pos hlt] at htk
          have hlt' : (z : Int) < l.length := by omega
          have c2 := fun w => refCons_any l z w hlt hl
          cases hc : consAt l z with
          | error q =>
            have hq := consAt_err hc
            have t8 : ((q.2 : Int) == 0) = false := by rw [beq_eq_false_iff_ne]; omega
            have t9 : ((q.2 : Int) != 0) = true := by rw [bne, t8]; rfl
            rw [hc] at c2 htk
            simp only at htk
            have hr := HR.out
            rw [← htk] at hr
            simp only at hr
            have HRR := Lib.hid hr
            have C2 := Lib.hid c2
            clear c2 htk hr hc hq HR
            go_wp2_with fail
            refine (C2.out _).mono ?_
            rintro e w5 ⟨⟨t, A5, c5, rfl⟩, hb5⟩
            have HB5 := Lib.hid ((HB.out.trans (hb5.mono hsz)).alloc (by have := hb5.size; omega) (.cells (tokCells t A5 c5) 62))
            clear hb5
            go_wp2_with fail
            go_ret3
            exact ⟨by rw [← HRR.out]; exact ToksRes.none, HB5.out⟩
          | ok p =>
            obtain ⟨t, k⟩ := p
            have hk := consAt_ok hlt hc
            rw [hc] at c2 htk
            simp only at htk
            have HTK := Lib.hid htk
            have C2 := Lib.hid c2
            clear c2 htk hc
            go_wp2_with fail
            refine (C2.out _).mono ?_
            rintro e w5 ⟨ht, hb5⟩
            unfold TokRes at ht
            simp only at ht
            obtain ⟨A5, c5, rfl, hatt⟩ := ht
            have hlt5 := hb5.size
            have HB6 := Lib.hid ((HB.out.trans (hb5.mono hsz)).alloc (by omega) (.cells (tokCells t A5 c5) 62))
            have hg6 := heap_alloc_new w5 (.cells (tokCells t A5 c5) 62)
            have hs6 : (w5.alloc (.cells (tokCells t A5 c5) 62)).heap.size = w5.heap.size + 1 := by simp
            have hal : Below w5.heap.size w5 (w5.alloc (.cells (tokCells t A5 c5) 62)) := (Below.refl _ _).alloc (Nat.le_refl _) _
            have hown := HROW.out.lt
            have RW6 : TokRow 62 (w5.alloc (.cells (tokCells t A5 c5) 62)) w.heap.size (fun b => w.heap.size ≤ b ∧ b < w5.heap.size ∧ (Value.slice A ts.length c).ownBlock ≠ some b) (.slice A ts.length c) ts :=
              (((HROW.out.below hb5 (fun b hb => hb.2.1)).more (fun b hb => ⟨hb.1, by have := hb.2.1; omega, hb.2.2⟩)).below hal (fun b hb => hb.2.1))
            have hat6 : TokP (w5.alloc (.cells (tokCells t A5 c5) 62)) (fun b => w.heap.size ≤ b ∧ b < w5.heap.size ∧ (Value.slice A ts.length c).ownBlock ≠ some b) t [.int .i64 t.kind, .string (S t.name), .slice A5 t.attrs.length c5, .bool t.empty, .string (S t.text), .int .i64 t.pos] :=
              ⟨_, rfl, hatt.keep (fun b hb => hal.block b hb.2) (fun b hb => ⟨by have := hb.1; omega, hb.2, fun e => by have := hown b e; have := hb.1; omega⟩)⟩
            clear hb5 hatt hal
            obtain ⟨q0, q1, q2, q3, q4, q5⟩ := cells6 hg6
            have hra : (w5.alloc (.cells (tokCells t A5 c5) 62)).rangeAt w5.heap.size 0 [.int .i64 t.kind, .string (S t.name), .slice A5 t.attrs.length c5, .bool t.empty, .string (S t.text), .int .i64 t.pos] := range_of_heap hg6
            have HR6 := Lib.hid RW6
            have HT6 := Lib.hid hat6
            have HOWN := Lib.hid hown
            clear RW6 hat6 hg6 hown C2 HROW HB q1 q2 q3 q5
            have F1 : Hid (∀ (g' c' : Nat) (w' : World), ((Value.slice A ts.length c).ownBlock = some g' ∨ (w5.alloc (.cells (tokCells t A5 c5) 62)).heap.size ≤ g') → g' < w'.heap.size → TokRow 62 w' w.heap.size (fun b => w.heap.size ≤ b ∧ b < w5.heap.size ∧ (Value.slice A ts.length c).ownBlock ≠ some b) (.slice (some ⟨g', 0, none⟩) (ts.length + 1) c') (ts ++ [t]) → Grew (w5.alloc (.cells (tokCells t A5 c5) 62)) (.slice A ts.length c) (.slice (some ⟨g', 0, none⟩) (ts.length + 1) c') w' → Below w.heap.size (w5.alloc (.cells (tokCells t A5 c5) 62)) w' →
                TokRow 62 w' w.heap.size (fun b => w.heap.size ≤ b ∧ b < w'.heap.size ∧ (Value.slice (some ⟨g', 0, none⟩) (ts ++ [t]).length c').ownBlock ≠ some b) (.slice (some ⟨g', 0, none⟩) (ts ++ [t]).length c') (ts ++ [t]) ∧ Below w.heap.size w w') := by
              intro g' c' w' r1 r2 r3 r4 r5
              have hz6 := r5.size
              rw [show (ts ++ [t]).length = ts.length + 1 by simp]
              refine ⟨r3.more fun b hb => ⟨hb.1, by have := hb.2.1; omega, ?_⟩, HB6.out.trans r5⟩
              intro e
              simp only [Value.ownBlock, Option.some.injEq] at e
              rcases r1 with r1 | r1
              · exact hb.2.2 (by rw [r1, e])
              · have := hb.2.1; omega
            by_cases hkeep : keepTok t = true
            · have htk := HTK.out
              rw [if_pos hkeep] at htk
              have HTN := Lib.hid htk
              have hk2 : ((t.kind == 3) = false) ∨ ((t.kind == 3) = true ∧ (t.text == []) = false ∧ t.text.isEmpty = false) := by
                unfold keepTok at hkeep
                cases h1 : (t.kind == 3)
                · exact .inl rfl
                · right
                  refine ⟨rfl, ?_⟩
                  have h2 : (t.kind != 3) = false := by rw [bne, h1]; rfl
                  rw [h2, Bool.false_or] at hkeep
                  cases h3 : t.text with
                  | nil => rw [h3] at hkeep; exact absurd hkeep (by decide)
                  | cons x y => exact ⟨rfl, rfl⟩
              have hts : ts.length < 1000000000000 := by omega
              clear hkeep htk
              rcases hk2 with t1 | ⟨t1, t2, t3⟩
              · have t1' : (t.kind != 3) = true := by rw [bne, t1]; rfl
                go_wp2_with (first
                  | (with_reducible refine gate ?_; refine wp_load_tok refTokTy rfl _ rfl w5.heap.size 0 rfl _ rfl hra ?_)
                  | (at_builtin; refine toks_append refTokTy rfl _ _ rfl (w5.alloc (.cells (tokCells t A5 c5) 62)) w.heap.size _ (.slice A ts.length c) ts rfl HR6.out t _ (w5.heap.size + 1) (by simp) rfl HT6.out (fun b hb => hb.2.2) (fun b hb => by have := hb.2.1; omega) (by omega) hts ?_; intro g' c' w6 r1 r2 r3 r4 r5; obtain ⟨f1, f2⟩ := F1.out g' c' w6 r1 r2 r3 r4 r5))
                go_roundw
                case rel => exact ⟨k, f, ts ++ [t], some ⟨g', 0, none⟩, c', hk.2, by omega, rfl, by simp, by simp; omega, HTN.out, f1, f2⟩
                case measure => simp [intOf]; omega
              · have t1' : (t.kind != 3) = false := by rw [bne, t1]; rfl
                go_wp2_with (first
                  | (with_reducible refine gate ?_; refine wp_load_tok refTokTy rfl _ rfl w5.heap.size 0 rfl _ rfl hra ?_)
                  | (at_builtin; refine toks_append refTokTy rfl _ _ rfl (w5.alloc (.cells (tokCells t A5 c5) 62)) w.heap.size _ (.slice A ts.length c) ts rfl HR6.out t _ (w5.heap.size + 1) (by simp) rfl HT6.out (fun b hb => hb.2.2) (fun b hb => by have := hb.2.1; omega) (by omega) hts ?_; intro g' c' w6 r1 r2 r3 r4 r5; obtain ⟨f1, f2⟩ := F1.out g' c' w6 r1 r2 r3 r4 r5))
                go_roundw
                case rel => exact ⟨k, f, ts ++ [t], some ⟨g', 0, none⟩, c', hk.2, by omega, rfl, by simp, by simp; omega, HTN.out, f1, f2⟩
                case measure => simp [intOf]; omega
            · have htk := HTK.out
              rw [if_neg hkeep] at htk
              have HTN := Lib.hid htk
              have hk2 : (t.kind == 3) = true ∧ t.text = [] := by
                unfold keepTok at hkeep
                cases h1 : (t.kind == 3)
                · have h2 : (t.kind != 3) = true := by rw [bne, h1]; rfl
                  rw [h2] at hkeep; exact absurd rfl hkeep
                · refine ⟨rfl, ?_⟩
                  cases h3 : t.text with
                  | nil => rfl
                  | cons x y => rw [h3] at hkeep; exact absurd (by simp) hkeep
              obtain ⟨t1, t2⟩ := hk2
              have t1' : (t.kind != 3) = false := by rw [bne, t1]; rfl
              have HTX := Lib.hid t2
              rw [t2] at q4
              clear hkeep htk t2
              go_wp2_with fail
              go_roundw
              case rel => exact ⟨k, f, ts, A, c, hk.2, by omega, rfl, rfl, by omega, HTN.out, HR6.out.more (fun b hb => ⟨hb.1, by have := hb.2.1; simp; omega, hb.2.2⟩), HB6.out⟩
              case measure => simp [intOf]; omega
        · rw [if_neg hlt] at htk
          have hlt' : ¬ (z : Int) < l.length := by omega
          have hr := HR.out
          rw [← htk] at hr
          simp only at hr
          have HRR := Lib.hid hr
          clear htk hr HR
          go_wp2_with fail
          go_ret3
          exact ⟨by rw [← HRR.out]; exact ⟨_, rfl, HROW.out⟩, HB.out⟩
  · rw [if_pos hch] at hR
    have t6 : (((check l).2 : Int) == 0) = false := by rw [beq_eq_false_iff_ne]; omega
    have t7 : (((check l).2 : Int) != 0) = true := by rw [bne, t6]; rfl
    have C1 := Lib.hid c1
    have HR := Lib.hid hR
    clear c1 hR hch
    generalize check l = ch at *
    go_enter Tryz.func34, Tryz.ntmps34
    go_wp2_with fail
    refine (C1.out _).mono ?_
    rintro e w1 ⟨rfl, hb1⟩
    go_wp2_with fail
    go_ret3
    exact ⟨by rw [← HR.out]; exact ToksRes.none, hb1⟩
end Go.Proofs.YtclhdppppgjgfaaGreatDoor
set_option linter.unusedVariables false
namespace Go.Proofs.YtclhdppppgjgfaaGreatDoor
open Go.RowKit

theorem TokRow.base_ {T : TypeId} {w : World} {base base' : Nat} {p : Nat → Prop} {v : Value} {ts : List Tok} (h : TokRow T w base p v ts) (hb : base' ≤ base) : TokRow T w base' p v ts := by
  obtain ⟨css, h1, h2, h3⟩ := h
  exact ⟨css, h1, h2, ownsRow_base h3 hb⟩
/-- The tokens read so far; all in blocks behind the position's. -/
def TkAt (w : World) (b : Nat) (A : Option Addr) (ts : List Tok) (c : Nat) : Prop :=
  TokRow 54 w (b + 1) (fun k => b < k ∧ k < w.heap.size ∧ (Value.slice A ts.length c).ownBlock ≠ some k) (.slice A ts.length c) ts
theorem TkAt.upd {w w' : World} {b : Nat} {A : Option Addr} {ts : List Tok} {c : Nat} (h : TkAt w b A ts c) (hu : Upd b w w') : TkAt w' b A ts c :=
  (TokRow.heap h (fun k hk => by have := TokRow.lt h k hk; exact hu.block k this.2 (by omega)) (fun k hk => hu.block k hk.2.1 (by omega))).more (fun k hk => ⟨hk.1, by have := hu.size; omega, hk.2.2⟩)
theorem keepP_cases {t : Tok} (h : keepP t = true) : ((t.kind == 1) = true) ∨ ((t.kind == 1) = false ∧ (t.kind == 2) = true) ∨ ((t.kind == 1) = false ∧ (t.kind == 2) = false ∧ t.text.isEmpty = false) := by
  unfold keepP at h
  cases h1 : (t.kind == 1)
  · cases h2 : (t.kind == 2)
    · rw [h1, h2] at h
      simp at h
      exact .inr (.inr ⟨rfl, rfl, by cases h3 : t.text with | nil => exact absurd h3 h | cons => rfl⟩)
    · exact .inr (.inl ⟨rfl, rfl⟩)
  · exact .inl rfl
theorem keepP_no {t : Tok} (h : keepP t = false) : (t.kind == 1) = false ∧ (t.kind == 2) = false ∧ t.text = [] := by
  unfold keepP at h
  cases h1 : (t.kind == 1)
  · cases h2 : (t.kind == 2)
    · rw [h1, h2] at h
      simp at h
      exact ⟨rfl, rfl, h⟩
    · rw [h1, h2] at h; simp at h
  · rw [h1] at h; simp at h

set_option maxHeartbeats 4000000 in
set_option maxRecDepth 100000 in
theorem tokens_any (l : Bytes) (m : Int) (w : World) (hT : Tabs w) (hM : MaxLen m w) (hl : l.length ≤ 1000000000) :
    Calls Tryz.prog 30 #[.string (S l)] w fun e w' => ToksRes 54 w.heap.size w' (toks l) e ∧ Below w.heap.size w w' := by
  obtain ⟨R, hR⟩ : ∃ R, toks l = R := ⟨_, rfl⟩
  rw [hR]
  unfold toks at hR
  have c1 := check_any l w hT (by omega)
  by_cases hch : (check l).2 = 0
  · rw [if_neg (by simp [hch])] at hR
    have t6 : (((check l).2 : Int) == 0) = true := by rw [hch]; rfl
    have t7 : (((check l).2 : Int) != 0) = false := by rw [bne, t6]; rfl
    obtain ⟨X, hX⟩ : ∃ X, tokS l (if hasAt l 0 sBom = true then 3 else 0) [] = X := ⟨_, rfl⟩
    rw [hX] at hR
    unfold tokS at hX
    have C1 := Lib.hid c1
    have HR := Lib.hid hR
    have HT := Lib.hid hT
    have HM := Lib.hid hM
    clear c1 hR hch hT hM
    go_enter Tryz.func30, Tryz.ntmps30
    go_wp2_with fail
    refine C1.out.mono ?_
    rintro e w1 ⟨rfl, hb1⟩
    obtain ⟨b, hb⟩ : ∃ b, w1.heap.size = b := ⟨_, rfl⟩
    have hwb : w.heap.size ≤ b := by have := hb1.size; omega
    have hC0 : Cur (w1.alloc (.cells #[.string (S l), .int .i64 0, .int .i64 0, .int .i64 0] 94)) b l 0 0 0 := by rw [← hb]; exact Cur.new w1 l 0 0 0
    have HC0 := Lib.hid hC0
    have HB1 := Lib.hid (hb1.alloc hb1.size (.cells #[.string (S l), .int .i64 0, .int .i64 0, .int .i64 0] 94))
    clear hb1 hC0
    have hacc : ∃ (x : Bool) (z0 : Nat), z0 ≤ l.length ∧ tokF l (l.length + 1) z0 [] = X ∧ ∀ W, Cur W b l 0 0 0 → Calls Tryz.prog 59 #[.pointer (some ⟨b, 0, none⟩), .string ⟨#[239, 187, 191]⟩] W fun e w' => e = .returned (.bool x) ∧ Cur w' b l z0 0 0 ∧ Upd b W w' := by
      cases h : hasAt l 0 sBom
      · rw [h] at hX
        refine ⟨false, 0, by omega, hX, fun W hW => ?_⟩
        exact curNo_any b l 0 0 0 sBom W h hW (by omega) hl
      · rw [h] at hX
        have hle := hasAt_le h
        simp [sBom] at hle
        refine ⟨true, 3, by omega, hX, fun W hW => ?_⟩
        exact curYes_any b l 0 0 0 sBom W h hW (by omega) hl
    clear hX
    obtain ⟨x, z0, hz0, hX, hacc⟩ := hacc
    have HACC := Lib.hid hacc
    have HX := Lib.hid hX
    clear hacc hX
    go_wp2_with fail
    clear hb t6 t7
    refine (HACC.out _ HC0.out).mono ?_
    rintro e w2 ⟨rfl, hcu, hup⟩
    have HC2 := Lib.hid hcu
    have HB2 := Lib.hid (HB1.out.trans (hup.below hwb HB1.out.size))
    clear hcu hup HACC HC0 HB1
    go_wp2_with fail
    go_loopg [8] (l.length - z0) (fun kk v8 wr => ∃ (z f : Nat) (ts : List Tok) (A : Option Addr) (c : Nat), z ≤ l.length ∧ kk = l.length - z ∧ l.length < z + f ∧ v8 = .slice A ts.length c ∧ ts.length ≤ z ∧ tokF l f z ts = X ∧ TkAt wr b A ts c ∧ Cur wr b l z 0 0 ∧ Below w.heap.size w wr)
    case atStart => exact ⟨z0, l.length + 1, [], none, 0, hz0, rfl, by omega, rfl, by simp, HX.out, TokRow.nil _ _ _ _, HC2.out, HB2.out⟩
    case round =>
      clear HC2 HB2 HX hz0
      obtain ⟨z, f, ts, A, c, hz, hkk, hzf, rfl, htl, htk, hrow, hcu, hB⟩ := hrel
      obtain ⟨f, rfl⟩ : ∃ g, f = g + 1 := ⟨f - 1, by omega⟩
      rw [tokF] at htk
      have HROW := Lib.hid hrow
      have HCU := Lib.hid hcu
      have HB := Lib.hid hB
      have HKK := Lib.hid hkk
      have hsz := hB.size
      have hbz := hcu.lt
      have k1 := hcu.c1
      clear hrow hcu hB hkk
      by_cases hlt : z < l.length
      · rw [if_pos hlt] at htk
        have hlt' : (z : Int) < l.length := by omega
        have c2 := curCons_any b l z 0 m wr (HT.out.next HB.out) (HM.out.below HB.out) HCU.out hlt hl
        have hcok := fun t k => consAt_ok (l := l) (a := z) (t := t) (e := k) hlt
        have hcer := fun q => consAt_err (l := l) (a := z) (q := q)
        generalize consAt l z = Z at *
        have C2 := Lib.hid c2
        clear c2
        cases Z with
        | error q =>
          have hq := hcer q rfl
          have t8 : ((q.2 : Int) == 0) = false := by rw [beq_eq_false_iff_ne]; omega
          have t9 : ((q.2 : Int) != 0) = true := by rw [bne, t8]; rfl
          simp only at htk
          have hr := HR.out
          rw [← htk] at hr
          simp only at hr
          have HRR := Lib.hid hr
          clear htk hr hq HR hcok hcer
          go_wp2_with fail
          refine C2.out.mono ?_
          rintro e w5 ⟨⟨⟨t, A5, c5, rfl⟩, n, hcu5⟩, hup5⟩
          have hc6 := hcu5.alloc (.cells (tokCells t A5 c5) 54)
          have HB6 := Lib.hid ((HB.out.trans (hup5.below hwb hsz)).alloc (by have := hup5.size; omega) (.cells (tokCells t A5 c5) 54))
          have k2 := hc6.c2
          have k3 := hc6.c3
          clear hcu5 hup5 k1 hc6
          go_wp2_with fail
          go_quiet (fail)
          go_wp2_with fail
          go_ret3
          exact ⟨by rw [← HRR.out]; exact ToksRes.none, below_drewN6 HB6.out _⟩
        | ok p =>
          obtain ⟨t, k⟩ := p
          have hk := hcok t k rfl
          simp only at htk
          have HTK := Lib.hid htk
          clear htk hcok hcer
          go_wp2_with fail
          refine C2.out.mono ?_
          rintro e w5 ⟨⟨hcu5, t', A5, c5, rfl, hatt, hkeep⟩, hup5⟩
          have hlt5 := hup5.size
          have hc6 := hcu5.alloc (.cells (tokCells t' A5 c5) 54)
          have HB6 := Lib.hid ((HB.out.trans (hup5.below hwb hsz)).alloc (by omega) (.cells (tokCells t' A5 c5) 54))
          have hg6 := heap_alloc_new w5 (.cells (tokCells t' A5 c5) 54)
          have hal : Below w5.heap.size w5 (w5.alloc (.cells (tokCells t' A5 c5) 54)) := (Below.refl _ _).alloc (Nat.le_refl _) _
          have hk3 := hc6.c3
          have RW5 := HROW.out.upd hup5
          have hown := HROW.out.lt
          have RW6 := RW5.upd (.of_below hal)
          have hat6 : TokP (w5.alloc (.cells (tokCells t' A5 c5) 54)) (fun k => b < k ∧ k < (w5.alloc (.cells (tokCells t' A5 c5) 54)).heap.size ∧ (Value.slice A ts.length c).ownBlock ≠ some k) t' [.int .i64 t'.kind, .string (S t'.name), .slice A5 t'.attrs.length c5, .bool t'.empty, .string (S t'.text), .int .i64 t'.pos] :=
            ⟨_, rfl, hatt.keep (fun k hk => hal.block k hk.2) (fun k hk => ⟨by omega, by have := hk.2; simp; omega, fun e => by have := hown k e; omega⟩)⟩
          obtain ⟨q0, q1, q2, q3, q4, q5⟩ := cells6 hg6
          have hra : (w5.alloc (.cells (tokCells t' A5 c5) 54)).rangeAt w5.heap.size 0 [.int .i64 t'.kind, .string (S t'.name), .slice A5 t'.attrs.length c5, .bool t'.empty, .string (S t'.text), .int .i64 t'.pos] := range_of_heap hg6
          have HC6 := Lib.hid hc6
          have HR6 := Lib.hid RW6
          have HT6 := Lib.hid hat6
          clear RW5 RW6 hat6 hg6 hown C2 HROW HB q1 q2 q3 q5 hcu5 hup5 hatt hal hc6 k1 HCU
          rcases hkeep with ⟨hk1, rfl, hk2⟩ | ⟨hk1, hk2⟩
          · have htk := HTK.out
            rw [if_pos hk1] at htk
            have HTN := Lib.hid htk
            have hts : ts.length < 1000000000000 := by omega
            have hcs := keepP_cases hk2
            have F1 : Hid (∀ (g' c' : Nat) (w' : World), ((Value.slice A ts.length c).ownBlock = some g' ∨ (w5.alloc (.cells (tokCells t' A5 c5) 54)).heap.size ≤ g') → g' < w'.heap.size → TokRow 54 w' (b + 1) (fun k => b < k ∧ k < (w5.alloc (.cells (tokCells t' A5 c5) 54)).heap.size ∧ (Value.slice A ts.length c).ownBlock ≠ some k) (.slice (some ⟨g', 0, none⟩) (ts.length + 1) c') (ts ++ [t']) → Grew (w5.alloc (.cells (tokCells t' A5 c5) 54)) (.slice A ts.length c) (.slice (some ⟨g', 0, none⟩) (ts.length + 1) c') w' → Below (b + 1) (w5.alloc (.cells (tokCells t' A5 c5) 54)) w' →
                TkAt w' b (some ⟨g', 0, none⟩) (ts ++ [t']) c' ∧ Cur w' b l k 0 0 ∧ Below w.heap.size w w') := by
              intro g' c' w' r1 r2 r3 r4 r5
              have hz6 := r5.size
              refine ⟨?_, HC6.out.keep (r5.block b (by omega)), HB6.out.trans (r5.mono (by omega))⟩
              unfold TkAt
              rw [show (ts ++ [t']).length = ts.length + 1 by simp]
              refine r3.more fun k hk => ⟨hk.1, by have := hk.2.1; omega, ?_⟩
              intro e
              simp only [Value.ownBlock, Option.some.injEq] at e
              rcases r1 with r1 | r1
              · exact hk.2.2 (by rw [r1, e])
              · have := hk.2.1; omega
            clear hk1 hk2 htk HTK
            rcases hcs with t1 | ⟨t1, t2⟩ | ⟨t1, t2, t3⟩
            all_goals
              go_wp2_with (first
                | (with_reducible refine gate ?_; refine wp_load_tok proTokTy rfl _ rfl w5.heap.size 0 rfl _ rfl hra ?_)
                | (at_builtin; refine toks_append proTokTy rfl _ _ rfl (w5.alloc (.cells (tokCells t' A5 c5) 54)) (b + 1) _ (.slice A ts.length c) ts rfl HR6.out t' _ (w5.heap.size + 1) (by simp) rfl HT6.out (fun b hb => hb.2.2) (fun b hb => hb.2.1) (by simp; omega) hts ?_; intro g' c' w6 r1 r2 r3 r4 r5; obtain ⟨f1, f2, f3⟩ := F1.out g' c' w6 r1 r2 r3 r4 r5))
              go_roundg (l.length - k)
              case measure => rw [HKK.out]; omega
              case rel => exact ⟨k, f, ts ++ [t'], some ⟨g', 0, none⟩, c', hk.2, rfl, by omega, by simp, by simp; omega, HTN.out, f1, f2, f3⟩
          · have htk := HTK.out
            rw [if_neg (by rw [hk1]; decide)] at htk
            have HTN := Lib.hid htk
            obtain ⟨t1, t2, t3⟩ := keepP_no hk2
            rw [t3] at q4
            have HT3 := Lib.hid t3
            clear hk1 hk2 htk HTK t3
            go_wp2_with fail
            go_roundg (l.length - k)
            case measure => rw [HKK.out]; omega
            case rel => exact ⟨k, f, ts, A, c, hk.2, rfl, by omega, rfl, by omega, HTN.out, HR6.out, HC6.out, HB6.out⟩
      · obtain rfl : z = l.length := by omega
        rw [if_neg (by omega)] at htk
        have hr := HR.out
        rw [← htk] at hr
        simp only at hr
        have HRR := Lib.hid hr
        clear htk hr HR
        go_wp2_with fail
        go_ret3
        refine ⟨?_, HB.out⟩
        rw [← HRR.out]
        refine ⟨_, rfl, (HROW.out.base_ (by omega)).more fun k hk => ⟨by omega, hk.2⟩⟩
  · rw [if_pos hch] at hR
    have t6 : (((check l).2 : Int) == 0) = false := by rw [beq_eq_false_iff_ne]; omega
    have t7 : (((check l).2 : Int) != 0) = true := by rw [bne, t6]; rfl
    have C1 := Lib.hid c1
    have HR := Lib.hid hR
    clear c1 hR hch hT hM
    go_enter Tryz.func30, Tryz.ntmps30
    go_wp2_with fail
    refine C1.out.mono ?_
    rintro e w1 ⟨rfl, hb1⟩
    have HB1 := Lib.hid hb1
    clear hb1
    go_wp2_with fail
    go_ret3
    exact ⟨by rw [← HR.out]; exact ToksRes.none, HB1.out⟩
end Go.Proofs.YtclhdppppgjgfaaGreatDoor
set_option linter.unusedVariables false
namespace Go.Proofs.YtclhdppppgjgfaaGreatDoor
open Go.RowKit

theorem flat_set {c : Nat} : ∀ {css : List (List Value)}, (∀ cs ∈ css, cs.length = c) → ∀ {i : Nat} (cs : List Value), i < css.length → (css.set i cs).flatten = css.flatten.take (i * c) ++ cs ++ css.flatten.drop (i * c + c)
  | [], _, i, cs, hi => by simp at hi
  | x :: css, h, 0, cs, hi => by
    have hx := h x (by simp)
    rw [List.set_cons_zero, List.flatten_cons, List.flatten_cons, Nat.zero_mul, List.take_zero, List.nil_append, Nat.zero_add, ← hx, List.drop_left]
  | x :: css, h, i + 1, cs, hi => by
    have hx := h x (by simp)
    have e1 : (x ++ css.flatten).take (i * c + c) = x ++ css.flatten.take (i * c) := by rw [show i * c + c = x.length + i * c by omega, List.take_length_add_append]
    have e2 : (x ++ css.flatten).drop (i * c + c + c) = css.flatten.drop (i * c + c) := by rw [show i * c + c + c = x.length + (i * c + c) by omega, List.drop_length_add_append]
    rw [List.set_cons_succ, List.flatten_cons, List.flatten_cons, flat_set (fun y hy => h y (by simp [hy])) cs (by simpa using hi), Nat.succ_mul, e1, e2]
    simp only [List.append_assoc]
theorem take_splice (A D cs : List Value) (s : Nat) (h : s + cs.length ≤ A.length) : (((A ++ D).take s ++ cs) ++ (A ++ D).drop (s + cs.length)).take A.length = A.take s ++ cs ++ A.drop (s + cs.length) := by
  rw [List.take_append_of_le_length (by omega : s ≤ A.length), List.drop_append_of_le_length h, ← List.append_assoc, List.take_append_of_le_length (by simp; omega), List.take_of_length_le (by simp; omega)]
/-- A whole element is stored. -/
theorem run_el_store {α : Type} {E : Elt α} (hE : E.Ok) {w : World} {base : Nat} {p : Nat → Prop} {g n cap : Nat} {l : List α} (h : ElRow E w base p (.slice (some ⟨g, 0, none⟩) n cap) l) {i : Nat} (hi : i < l.length) {a : α} {cs : List Value} (ha : E.El w p a cs) (hp : ∀ k, p k → k ≠ g) :
    ∃ w', (storeVar E.T ⟨g, i * E.c, none⟩ (.agg cs.toArray)).run Tryz.prog w = .ok () w' ∧ ElRow E w' base p (.slice (some ⟨g, 0, none⟩) n cap) (l.set i a) ∧ Upd g w w' ∧ w'.heap.size = w.heap.size := by
  obtain ⟨css, hl, hin, hown⟩ := h
  have hlen : ∀ cs ∈ css, cs.length = E.c := fun cs hcs => by
    obtain ⟨i, hi⟩ := List.getElem?_of_mem hcs
    have hik : i < l.length := by rw [← hl]; exact (List.getElem?_eq_some_iff.1 hi).1
    exact hE.len (hin i _ cs (List.getElem?_eq_getElem hik) hi)
  have hfl := flat_len hlen
  obtain ⟨hx, hown⟩ := hown
  rcases hown with ⟨hv, hn⟩ | ⟨g', cap', cur, hv, hg, hh, hc, hm, hcs, htk⟩
  · cases hv
  · have hgg : g = g' := by injection hv with e1; injection e1 with e1; injection e1
    have hnl : n = l.length := by injection hv
    have hcc : cap = cap' := by injection hv
    subst hgg hcc
    have hlc := hE.len ha
    have hle : i * E.c + E.c ≤ l.length * E.c := by rw [← Nat.succ_mul]; exact Nat.mul_le_mul_right _ hi
    have hle2 : l.length * E.c ≤ cap * E.c := Nat.mul_le_mul_right _ hc
    have hst := run_storeCells_at Tryz.prog g (i * E.c) E.T cs 0 cur w hh (by rw [hlc, hcs]; omega) (hE.one ha)
    obtain ⟨i0, hi0, hz0, hz1, hz2⟩ := info_parts hE.info
    have hsc : (storeVar E.T ⟨g, i * E.c, none⟩ (.agg cs.toArray)).run Tryz.prog w = .ok () (w.setRow g (cur.toList.take (i * E.c + 0) ++ cs ++ cur.toList.drop (i * E.c + 0 + cs.length)).toArray) := by
      have hs' : cs.length = i0.size := by rw [hlc, hz1]
      simp [storeVar, sizeOf, typeInfo, hi0, Value.cells, hs']
      rw [hs'] at hst
      simpa using hst
    refine ⟨_, hsc, ⟨css.set i cs, by simp [hl], ?_, ?_⟩, upd_setRow w g _, by simp [World.setRow]⟩
    · intro j b ds hb hd
      have hkeep : ∀ k, p k → (w.setRow g (cur.toList.take (i * E.c + 0) ++ cs ++ cur.toList.drop (i * E.c + 0 + cs.length)).toArray).heap[k]? = w.heap[k]? := fun k hk => setRow_other w g k _ (hp k hk)
      by_cases hj : i = j
      · subst hj
        rw [List.getElem?_set_self (by omega)] at hd
        rw [List.getElem?_set_self hi] at hb
        cases hb; cases hd
        exact hE.keep ha hkeep (fun _ h => h)
      · rw [List.getElem?_set_ne hj] at hb hd
        exact hE.keep (hin j b ds hb hd) hkeep (fun _ h => h)
    · rw [List.length_set]
      refine ⟨?_, .inr ⟨g, cap, _, by rw [hnl], hg, setRow_heap w g cur _ E.T (0, 0) hh, hc, hm, ?_, ?_⟩⟩
      · rw [flat_len (fun ds hd => ?_), List.length_set, hl]
        rcases List.mem_or_eq_of_mem_set hd with h | rfl
        · exact hlen ds h
        · exact hlc
      · simp only [List.size_toArray, List.length_append, List.length_take, List.length_drop, Array.length_toList, hcs, hlc]
        omega
      · have hcur : cur.toList = css.flatten ++ cur.toList.drop (l.length * E.c) := by rw [← htk, List.take_append_drop]
        rw [flat_set hlen cs (by omega)]
        simp only [Nat.add_zero, hlc]
        have hf : css.flatten.length = l.length * E.c := by rw [hfl, hl]
        rw [hcur, ← hf, ← hlc]
        exact take_splice _ _ cs _ (by rw [hlc, hf]; exact hle)
theorem step_el_store {α : Type} {E : Elt α} (hE : E.Ok) {ops : Array Oper} {o : Oper} {a : Act} {K : Act → World → Prop} {Q : Exit → Act → World → Prop} {Z : Prop} (hgd : o.guard = none) (x y : Operand) (ho : o.op = .store E.T x y)
    (w : World) (base : Nat) (p : Nat → Prop) (g n cap : Nat) (l : List α) (h : ElRow E w base p (.slice (some ⟨g, 0, none⟩) n cap) l) (i : Nat) (hi : i < l.length) (t : α) (cs : List Value) (ht : E.El w p t cs) (hp : ∀ k, p k → k ≠ g)
    (hx : a.eval x = .pointer (some ⟨g, i * E.c, none⟩)) (hy : a.eval y = .agg cs.toArray)
    (hK : ∀ w', ElRow E w' base p (.slice (some ⟨g, 0, none⟩) n cap) (l.set i t) → Upd g w w' → w'.heap.size = w.heap.size → K (a.put o.dst undef) w') :
    if Region.wanted o (yielded ops a.tmps) = true then Oper.wp Tryz.prog o a w K Q else Z := by
  have hw : Region.wanted o (yielded ops a.tmps) = true := by simp [Region.wanted, hgd]
  rw [if_pos hw]
  obtain ⟨w', hrun, h1, h2, h3⟩ := run_el_store hE h hi ht hp
  unfold Oper.wp execOp
  simp only [ho, hx, hy, Instr.storeAt, Instr.sureAddr, Sem.run_bind, Sem.run_pure, Result.andThen_ok, hrun]
  exact hK w' h1 h2 h3
end Go.Proofs.YtclhdppppgjgfaaGreatDoor
set_option linter.unusedVariables false
namespace Go.Proofs.YtclhdppppgjgfaaGreatDoor
open Go.RowKit

theorem flat_set_cell {c : Nat} (u : Value) : ∀ {css : List (List Value)}, (∀ cs ∈ css, cs.length = c) → ∀ {i j : Nat} (hi : i < css.length), j < c → (css.set i ((css[i]'hi).set j u)).flatten = css.flatten.set (i * c + j) u
  | [], _, i, j, hi, _ => by simp at hi
  | x :: css, h, 0, j, hi, hj => by
    have hx := h x (by simp)
    rw [List.set_cons_zero, List.flatten_cons, List.flatten_cons, Nat.zero_mul, Nat.zero_add, List.set_append_left _ _ (by omega)]
    rfl
  | x :: css, h, i + 1, j, hi, hj => by
    have hx := h x (by simp)
    have e : (i + 1) * c + j - x.length = i * c + j := by rw [Nat.succ_mul]; omega
    rw [List.set_cons_succ, List.flatten_cons, List.flatten_cons, List.set_append_right _ _ (by rw [Nat.succ_mul]; omega), e, ← flat_set_cell u (fun y hy => h y (by simp [hy])) (by simpa using hi) hj]
    rfl
/-- One cell of an element is stored. -/
theorem ElRow.setCell {α : Type} {E : Elt α} (hE : E.Ok) {w : World} {base : Nat} {p : Nat → Prop} {g n cap : Nat} {l : List α} (h : ElRow E w base p (.slice (some ⟨g, 0, none⟩) n cap) l) {i j : Nat} (hi : i < l.length) (hj : j < E.c) {u : Value} {a : α}
    (ha : ∀ cs, E.El w p l[i] cs → E.El w p a (cs.set j u)) (hp : ∀ k, p k → k ≠ g) :
    ElRow E (w.setCell ⟨g, i * E.c + j, none⟩ u) base p (.slice (some ⟨g, 0, none⟩) n cap) (l.set i a) := by
  obtain ⟨css, hl, hin, hown⟩ := h
  have hlen : ∀ cs ∈ css, cs.length = E.c := fun cs hcs => by
    obtain ⟨i, hi⟩ := List.getElem?_of_mem hcs
    have hik : i < l.length := by rw [← hl]; exact (List.getElem?_eq_some_iff.1 hi).1
    exact hE.len (hin i _ cs (List.getElem?_eq_getElem hik) hi)
  obtain ⟨hx, hown⟩ := hown
  rcases hown with ⟨hv, hn⟩ | ⟨g', cap', cur, hv, hg, hh, hc, hm, hcs, htk⟩
  · cases hv
  · have hgg : g = g' := by injection hv with e1; injection e1 with e1; injection e1
    have hnl : n = l.length := by injection hv
    have hcc : cap = cap' := by injection hv
    subst hgg hcc
    have hkeep : ∀ k, p k → (w.setCell ⟨g, i * E.c + j, none⟩ u).heap[k]? = w.heap[k]? := fun k hk => Below.heap_setCell _ _ _ _ (by simpa using hp k hk)
    refine ⟨css.set i ((css[i]'(by omega)).set j u), by simp [hl], ?_, ?_⟩
    · intro q b ds hb hd
      by_cases hq : i = q
      · subst hq
        rw [List.getElem?_set_self (by omega)] at hd
        rw [List.getElem?_set_self hi] at hb
        cases hb; cases hd
        exact hE.keep (ha _ (hin i _ _ (List.getElem?_eq_getElem hi) (List.getElem?_eq_getElem (by omega)))) hkeep (fun _ h => h)
      · rw [List.getElem?_set_ne hq] at hb hd
        exact hE.keep (hin q b ds hb hd) hkeep (fun _ h => h)
    · rw [List.length_set, flat_set_cell u hlen (by omega) hj]
      refine ⟨by rw [List.length_set]; exact hx, .inr ⟨g, cap, _, by rw [hnl], by simpa using hg, heap_set hh u, hc, hm, by simpa using hcs, ?_⟩⟩
      rw [Array.toList_setIfInBounds, List.take_set, htk]
/-- Attributes as elements. -/
def attE : Elt Att where
  T := 39
  TS := 23
  c := 4
  bytes := 56
  zero := .agg #[.string ByteArray.empty, .string ByteArray.empty, .string ByteArray.empty, .int .i64 0]
  El := fun _ _ a cs => cs = attCells a
theorem attE_ok : attE.Ok where
  info := infoAtt
  list := by kernel_rfl
  zc := rfl
  pos := by decide
  small := by decide
  keep := fun h _ _ => h
  len := fun {w p a cs} h => by rw [show cs = attCells a from h]; rfl
  one := fun {w p a cs} h => by
    intro u hu
    rw [show cs = attCells a from h] at hu
    simp [attCells] at hu
    rcases hu with rfl | rfl | rfl | rfl <;> rfl
theorem attE_elsP {w : World} {p : Nat → Prop} {v : Value} {l : List Att} : ElsP attE w p v l ↔ AttsP w p v l := by
  constructor
  · rintro ⟨A, cap, hv, hc, h⟩
    refine ⟨A, cap, hv, hc, h.imp id ?_⟩
    rintro ⟨b, off, hA, hb, hr⟩
    refine ⟨b, off, hA, hb, fun i a hi => ?_⟩
    obtain ⟨cs, rfl, h2⟩ := hr i a hi
    exact h2
  · rintro ⟨A, cap, hv, hc, h⟩
    refine ⟨A, cap, hv, hc, h.imp id ?_⟩
    rintro ⟨b, off, hA, hb, hr⟩
    exact ⟨b, off, hA, hb, fun i a hi => ⟨_, rfl, hr i a hi⟩⟩
end Go.Proofs.YtclhdppppgjgfaaGreatDoor
set_option linter.unusedVariables false
namespace Go.Proofs.YtclhdppppgjgfaaGreatDoor

/-! Names without a colon. -/
/-! Splitting. -/
/-! Scopes. -/
abbrev Scope := Bytes → Option Bytes
def Scope.put (g : Scope) (p v : Bytes) : Scope := fun k => if k = p then some v else g k
/-! Children, Attr. -/
end Go.Proofs.YtclhdppppgjgfaaGreatDoor
set_option linter.unusedVariables false
namespace Go.Proofs.YtclhdppppgjgfaaGreatDoor
open Go.RowKit

/-! Trees whose nodes other than elements have neither attributes nor kids. -/
mutual
def Clean : Node → Prop
  | .mk k _ _ ats ks _ _ => (k ≠ 0 → ats = [] ∧ ks = []) ∧ CleanL ks
def CleanL : List Node → Prop
  | [] => True
  | k :: ks => Clean k ∧ CleanL ks
end
theorem CleanL.mem : ∀ {ks : List Node}, CleanL ks → ∀ {k : Node}, k ∈ ks → Clean k
  | x :: ks, h, k, hk => by
    rw [CleanL] at h
    rcases List.mem_cons.1 hk with rfl | hk
    · exact h.1
    · exact CleanL.mem h.2 hk
theorem Clean.kid {n : Node} (h : Clean n) {k : Node} (hk : k ∈ n.kids) : Clean k := by
  cases n with
  | mk a b c d ks e f => rw [Clean] at h; exact h.2.mem hk
theorem Clean.bare {n : Node} (h : Clean n) (hk : n.kind ≠ 0) : n.attrs = [] ∧ n.kids = [] := by
  cases n with
  | mk a b c d ks e f => rw [Clean] at h; exact h.1 hk
theorem CleanL.of : ∀ {ks : List Node}, (∀ k ∈ ks, Clean k) → CleanL ks
  | [], _ => by rw [CleanL]; trivial
  | k :: ks, h => by rw [CleanL]; exact ⟨h k (by simp), CleanL.of fun x hx => h x (by simp [hx])⟩

/-! Nodes as elements of rows. -/
abbrev nodeE : Elt Node where
  T := 26
  TS := 24
  c := 7
  bytes := 112
  zero := .agg #[.int .i64 0, .string ByteArray.empty, .string ByteArray.empty, .slice none 0 0, .slice none 0 0, .string ByteArray.empty, .int .i64 0]
  El := fun w p n cs => NodeP w p n cs
theorem nodeE_ok : nodeE.Ok where
  info := infoNode
  list := Tryz.underlying24
  zc := rfl
  pos := by decide
  small := by decide
  keep := fun {w w' p p' a cs} h hb hp => NodeP.keep hb hp a cs h
  len := fun h => h.len
  one := fun h => h.one
theorem ElsP.nodesP {w : World} {p : Nat → Prop} {v : Value} {ks : List Node} (h : ElsP nodeE w p v ks) : NodesP w p v ks := by
  obtain ⟨A, cap, hv, hc, h⟩ := h
  exact ⟨A, cap, hv, hc, h.imp id fun ⟨b, off, hA, hp, hr⟩ => ⟨b, off, hA, hp, KidsP.of_at hr⟩⟩
theorem NodesP.elsP {w : World} {p : Nat → Prop} {v : Value} {ks : List Node} (h : NodesP w p v ks) : ElsP nodeE w p v ks := by
  obtain ⟨A, cap, hv, hc, h⟩ := h
  exact ⟨A, cap, hv, hc, h.imp id fun ⟨b, off, hA, hp, hr⟩ => ⟨b, off, hA, hp, fun i a hi => hr.at_ hi⟩⟩
/-- A node without attributes and kids leads nowhere. -/
theorem NodeP.bare {w w' : World} {p p' : Nat → Prop} {n : Node} {cs : List Value} (h : NodeP w p n cs) (h1 : n.attrs = []) (h2 : n.kids = []) : NodeP w' p' n cs := by
  obtain ⟨va, vk, hcs, ⟨A, c, ha, hc, _⟩, ⟨K, d, hk, hd, _⟩⟩ := h.form
  rw [hcs]
  exact NodeP.of_form ⟨A, c, ha, hc, .inl h1⟩ ⟨K, d, hk, hd, .inl h2⟩
end Go.Proofs.YtclhdppppgjgfaaGreatDoor
