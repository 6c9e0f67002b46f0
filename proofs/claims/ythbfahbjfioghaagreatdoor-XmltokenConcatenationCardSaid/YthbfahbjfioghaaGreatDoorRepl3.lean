/-
  Walks of the library's strings.Replacer: sync.Once at its first call, buildOnce, Replace.
-/
import Derived.Test.YthbfahbjfioghaaGreatDoorRepl2
import Derived.Tactics
import Derived.Tactics2
import Derived.Defers
import Derived.Laws.Pointers
import Derived.Laws.LoneSync
import Derived.RegionTactic
import Derived.RegionCalls
import Derived.ChangeAlike
import Derived.Laws.EntriesVeiled
set_option linter.unusedVariables false
namespace Go.Proofs.YthbfahbjfioghaaGreatDoor
open Go.RowKit

theorem race_off (w : World) : (callFunc 154 #[]).run Tryz.prog w = .ok (.value (.tuple #[])) w := run_call_mark0 Tryz.func154 (by kernel_rfl) (by kernel_rfl) (by kernel_rfl) .disable (by kernel_rfl) w
theorem race_on (w : World) : (callFunc 156 #[]).run Tryz.prog w = .ok (.value (.tuple #[])) w := run_call_mark0 Tryz.func156 (by kernel_rfl) (by kernel_rfl) (by kernel_rfl) .enable (by kernel_rfl) w
theorem race_acq (a : Addr) (w : World) : (callFunc 157 #[.pointer (some a)]).run Tryz.prog w = .ok (.value (.tuple #[])) w := run_call_marked Tryz.func157 (by kernel_rfl) (by kernel_rfl) (by kernel_rfl) .acquire (by kernel_rfl) a w
theorem race_rel (a : Addr) (w : World) : (callFunc 159 #[.pointer (some a)]).run Tryz.prog w = .ok (.value (.tuple #[])) w := run_call_marked Tryz.func159 (by kernel_rfl) (by kernel_rfl) (by kernel_rfl) .releaseMerge (by kernel_rfl) a w

/-- Storing true, entered as a deferred call. -/
theorem store_def (a : Addr) (x : Value) (u : FrameMode) (w : World) (hc : w.cell? a = some x) (hz : w.frozen? a = false) :
    CallsD Tryz.prog 145 #[.pointer (some a), .bool true] u w fun e u' w' => u' = u ∧ (e = .returned (.tuple #[]) ∧ w' = w.drew.setCell a (.int .u32 1)) := by
  have hc' : w.drew.cell? a = some x := by go_simp
  have hz' : w.drew.frozen? a = false := by go_simp
  have hst := run_call_store (P := Tryz.prog) Tryz.func150 (by kernel_rfl) (by kernel_rfl) (by kernel_rfl) (by kernel_rfl) (k := .u32) (y := 1) hc' hz'
  go_enter_d Tryz.func145, Tryz.ntmps145
  go_wp2
  go_region_calls
  all_goals (go_end0; exact ⟨rfl, rfl⟩)

set_option maxRecDepth 100000 in
/-- Unlock, entered as a deferred call, the lock held and nobody waiting. -/
theorem unlock_def (a : Addr) (u : FrameMode) (w : World) (hc : w.cell? a = some (.int .i32 1)) (hz : w.frozen? a = false) :
    CallsD Tryz.prog 144 #[.pointer (some a)] u w fun e u' w' => u' = u ∧ (e = .returned (.tuple #[]) ∧ w' = w.setCell a (.int .i32 0)) := by
  have hd := race_off
  have he := race_on
  have hr := race_rel
  have hadd := run_call_add (P := Tryz.prog) Tryz.func160 (by kernel_rfl) (by kernel_rfl) (by kernel_rfl) .i32 (by kernel_rfl) (y := -1) (s := 0) hc hz (by simp [go_sem]; rfl)
  have hcv := run_convert_to_unsafe (P := Tryz.prog) (src := 206) (dst := 141) Tryz.underlying206 Tryz.underlying141 (by kernel_rfl) hc
  go_enter_d Tryz.func144, Tryz.ntmps144
  go_wp2
  go_end0
  go_wp2
  go_end0
  exact ⟨rfl, rfl⟩

set_option maxRecDepth 100000 in
/-- Lock, the lock free. -/
theorem lock_def (a : Addr) (w : World) (hc : w.cell? a = some (.int .i32 0)) (hz : w.frozen? a = false) :
    Calls Tryz.prog 143 #[.pointer (some a)] w fun e w' => e = .returned (.tuple #[]) ∧ w' = w.setCell a (.int .i32 1) := by
  have hd := race_off
  have he := race_on
  have ha := race_acq
  have hcas := run_call_cas_hit (P := Tryz.prog) Tryz.func155 (by kernel_rfl) (by kernel_rfl) (by kernel_rfl) .i32 (by kernel_rfl) (y := 1) hc hz
  have hc' : (w.setCell a (.int .i32 1)).cell? a = some (.int .i32 1) := World.cell?_setCell_same w a _ hc
  have hcv := run_convert_to_unsafe (P := Tryz.prog) (src := 206) (dst := 141) Tryz.underlying206 Tryz.underlying141 (by kernel_rfl) hc'
  go_enter Tryz.func143, Tryz.ntmps143
  go_wp2
  first | go_end0 | (simp only [Exit.inBlock, Exit.then]; refine bodyPost_ret (results_none rfl _ _ _) rfl ?_) | refine bodyPost_ret (results_none rfl _ _ _) rfl ?_
  go_wp2
  go_end0
  exact ⟨rfl, rfl⟩

theorem load_def (a : Addr) (d : Int) (w : World) (hc : w.cell? a = some (.int .u32 d)) :
    Calls Tryz.prog 134 #[.pointer (some a)] w fun e w' => e = .returned (.bool (d != 0)) ∧ w = w' := by
  have hl := run_call_load (P := Tryz.prog) Tryz.func142 (by kernel_rfl) (by kernel_rfl) (by kernel_rfl) .u32 (by kernel_rfl) hc
  go_enter Tryz.func134, Tryz.ntmps134
  go_wp2
  go_ret
  exact ⟨rfl, rfl⟩
section
variable {w w' : World} {h : Nat} {d s : Int} {r v : Value}
theorem Rep.lt (hR : Rep w h d s r v) : h < w.heap.size := heap_lt hR
theorem Rep.c0 (hR : Rep w h d s r v) : w.cell? ⟨h, 0, none⟩ = some (.int .u32 d) := by rw [Lib.cell_of_heap hR]; rfl
theorem Rep.c1 (hR : Rep w h d s r v) : w.cell? ⟨h, 1, none⟩ = some (.int .i32 s) := by rw [Lib.cell_of_heap hR]; rfl
theorem Rep.c3 (hR : Rep w h d s r v) : w.cell? ⟨h, 3, none⟩ = some r := by rw [Lib.cell_of_heap hR]; rfl
theorem Rep.c4 (hR : Rep w h d s r v) : w.cell? ⟨h, 4, none⟩ = some v := by rw [Lib.cell_of_heap hR]; rfl
theorem Rep.free (hR : Rep w h d s r v) (i : Nat) : w.frozen? ⟨h, i, none⟩ = false := Lib.frozen_of_heap hR i
theorem Rep.set0 (hR : Rep w h d s r v) (x : Int) : Rep (w.setCell ⟨h, 0, none⟩ (.int .u32 x)) h x s r v := by
  unfold Rep at hR ⊢
  simp [World.setCell, Array.getElem?_modify, hR]
theorem Rep.set1 (hR : Rep w h d s r v) (x : Int) : Rep (w.setCell ⟨h, 1, none⟩ (.int .i32 x)) h d x r v := by
  unfold Rep at hR ⊢
  simp [World.setCell, Array.getElem?_modify, hR]
theorem Rep.set3 (hR : Rep w h d s r v) (x : Value) : Rep (w.setCell ⟨h, 3, none⟩ x) h d s x v := by
  unfold Rep at hR ⊢
  simp [World.setCell, Array.getElem?_modify, hR]
theorem Rep.set4 (hR : Rep w h d s r v) (x : Value) : Rep (w.setCell ⟨h, 4, none⟩ x) h d s r x := by
  unfold Rep at hR ⊢
  simp [World.setCell, Array.getElem?_modify, hR]
theorem Rep.below (hR : Rep w h d s r v) (hb : Below w.heap.size w w') : Rep w' h d s r v := (hb.block _ hR.lt).trans hR
theorem Rep.drew (hR : Rep w h d s r v) : Rep w.drew h d s r v := hR
end
theorem Tab8.upd {w w' : World} {t h : Nat} {f : Nat → UInt8} (hT : Tab8 w t f) (hu : Upd h w w') (hne : t ≠ h) : Tab8 w' t f := (hu.block _ hT.lt hne).trans hT

set_option maxHeartbeats 1000000 in
theorem buildOnce_any (h k c : Nat) (w : World) (hR : Rep w h 0 1 .nilIface (.slice (some ⟨k, 0, none⟩) 4 c)) (hS : RepS w k) :
    Calls Tryz.prog 126 #[.pointer (some ⟨h, 0, none⟩)] w fun e w' =>
      e = .returned (.tuple #[]) ∧ ∃ t, Rep w' h 0 1 (.iface 187 (.pointer (some ⟨t, 0, none⟩))) (.slice none 0 0) ∧ Tab8 w' t repT ∧ w.heap.size ≤ t ∧ Upd h w w' := by
  have HC := Lib.hid (build_any h k c w hR hS)
  have HR := Lib.hid hR
  have hlt := hR.lt
  clear hR hS
  go_enter Tryz.func126, Tryz.ntmps126
  go_wp2_with fail
  refine HC.out.mono ?_
  rintro e w1 ⟨t, rfl, hT, hge, ht, hb⟩
  have hR1 := HR.out.below hb
  have r3 := hR1.c3
  have r4 := hR1.c4
  have f3 := hR1.free 3
  have f4 := hR1.free 4
  have e4 : (w1.setCell ⟨h, 3, none⟩ (.iface 187 (.pointer (some ⟨t, 0, none⟩)))).frozen? ⟨h, 4, none⟩ = false := (World.frozen?_setCell _ _ _ _).trans f4
  have HR1 := Lib.hid hR1
  have HT := Lib.hid hT
  have HB := Lib.hid hb
  clear hR1 hT hb
  go_wp2_with fail
  go_end0
  refine ⟨rfl, t, (HR1.out.set3 _).set4 _, ?_, hge, ((Upd.of_below HB.out).trans (Upd.set_ _ _ _ _)).trans (Upd.set_ _ _ _ _)⟩
  exact (HT.out.upd (Upd.set_ h 3 _ _) (by omega)).upd (Upd.set_ h 4 _ _) (by omega)

set_option maxRecDepth 100000 in
set_option maxHeartbeats 1600000 in
theorem doSlow_any (h k c : Nat) (w : World) (hR : Rep w h 0 0 .nilIface (.slice (some ⟨k, 0, none⟩) 4 c)) (hS : RepS w k) (hk : k ≠ h) :
    Calls Tryz.prog 135 #[.pointer (some ⟨h, 0, none⟩), .func (.func 126) #[.pointer (some ⟨h, 0, none⟩)] #[]] w fun e w' =>
      e = .returned (.tuple #[]) ∧ ∃ t, Rep w' h 1 0 (.iface 187 (.pointer (some ⟨t, 0, none⟩))) (.slice none 0 0) ∧ Tab8 w' t repT ∧ w.heap.size ≤ t ∧ Upd h w w' := by
  have hR1 := hR.set1 1
  have hS1 : RepS (w.setCell ⟨h, 1, none⟩ (.int .i32 1)) k := by
    have q : ∀ i, (w.setCell ⟨h, 1, none⟩ (.int .i32 1)).cell? ⟨k, i, none⟩ = w.cell? ⟨k, i, none⟩ := fun i => World.cell?_setCell_other _ _ _ _ (by intro e; injection e with e1; exact hk e1.symm)
    unfold RepS at *
    rw [q, q, q, q]; exact hS
  have HC := Lib.hid (buildOnce_any h k c _ hR1 hS1)
  have HR := Lib.hid hR
  have c0 := hR.c0
  have c1 := hR.c1
  have f0 := hR.free 0
  have f1 := hR.free 1
  have c01 := hR1.c0
  have hlt := hR.lt
  have hnot : ∀ (x : Bool) (w : World), (Op.unary .not (.bool x)).run Tryz.prog w = .ok (.bool (!x)) w := fun _ _ => rfl
  clear hR hS hS1 hR1
  go_enter_defers Tryz.func135, Tryz.ntmps135
  go_wp2_with (go_at_call 143; refine (lock_def ⟨h, 1, none⟩ _ (by go_simp) (by go_simp)).mono ?_; rintro e w' ⟨rfl, rfl⟩)
  refine (load_def ⟨h, 0, none⟩ 0 _ c01).mono ?_
  rintro e w' ⟨rfl, rfl⟩
  go_wp2_with fail
  refine HC.out.mono ?_
  rintro e W ⟨rfl, t, hR2, hT, hge, hu⟩
  have r0 := hR2.c0
  have r1 := hR2.c1
  have g0 := hR2.free 0
  have g1 := hR2.free 1
  have hR3 := hR2.drew.set0 1
  have r13 := hR3.c1
  have g13 := hR3.free 1
  have hsz : (w.setCell ⟨h, 1, none⟩ (.int .i32 1)).heap.size = w.heap.size := by simp [World.setCell]
  have hge2 : w.heap.size ≤ t := by omega
  have HR2 := Lib.hid hR2
  have HT := Lib.hid hT
  have HU := Lib.hid hu
  clear hR2 hT hu hge hsz
  go_wp2_with fail
  refine leaves_cons (f := 145) (args := #[.pointer (some ⟨h, 0, none⟩), .bool true]) (by simp) (by simp [go_sem]) ?_
  refine (store_def ⟨h, 0, none⟩ (.int .u32 0) .returning _ r0 g0).mono ?_
  rintro e u' w'' ⟨rfl, rfl, rfl⟩
  refine leaves_cons (f := 144) (args := #[.pointer (some ⟨h, 1, none⟩)]) (by simp [settle]) (by simp [go_sem]) ?_
  refine (unlock_def ⟨h, 1, none⟩ _ _ r13 g13).mono ?_
  rintro e u' w'' ⟨rfl, rfl, rfl⟩
  have hfin : ∃ t, Rep ((W.drew.setCell ⟨h, 0, none⟩ (.int .u32 1)).setCell ⟨h, 1, none⟩ (.int .i32 0)) h 1 0 (.iface 187 (.pointer (some ⟨t, 0, none⟩))) (.slice none 0 0) ∧ Tab8 ((W.drew.setCell ⟨h, 0, none⟩ (.int .u32 1)).setCell ⟨h, 1, none⟩ (.int .i32 0)) t repT ∧ w.heap.size ≤ t ∧ Upd h w ((W.drew.setCell ⟨h, 0, none⟩ (.int .u32 1)).setCell ⟨h, 1, none⟩ (.int .i32 0)) := by
    refine ⟨t, (HR2.out.drew.set0 1).set1 0, ?_, hge2, ?_⟩
    · exact ((show Tab8 W.drew t repT from HT.out).upd (Upd.set_ h 0 _ _) (by omega)).upd (Upd.set_ h 1 _ _) (by omega)
    · exact ((((Upd.set_ h 1 w _).trans HU.out).drew).trans (Upd.set_ h 0 _ _)).trans (Upd.set_ h 1 _ _)
  simpa [Leaves, settle, results, Tryz.results135] using hfin

set_option maxHeartbeats 1000000 in
theorem onceDo_any (h k c : Nat) (w : World) (hR : Rep w h 0 0 .nilIface (.slice (some ⟨k, 0, none⟩) 4 c)) (hS : RepS w k) (hk : k ≠ h) :
    Calls Tryz.prog 125 #[.pointer (some ⟨h, 0, none⟩), .func (.func 126) #[.pointer (some ⟨h, 0, none⟩)] #[]] w fun e w' =>
      e = .returned (.tuple #[]) ∧ ∃ t, Rep w' h 1 0 (.iface 187 (.pointer (some ⟨t, 0, none⟩))) (.slice none 0 0) ∧ Tab8 w' t repT ∧ w.heap.size ≤ t ∧ Upd h w w' := by
  have c0 := hR.c0
  have hnot : ∀ (x : Bool) (w : World), (Op.unary .not (.bool x)).run Tryz.prog w = .ok (.bool (!x)) w := fun _ _ => rfl
  have HC := Lib.hid (doSlow_any h k c w hR hS hk)
  clear hR hS
  go_enter Tryz.func125, Tryz.ntmps125
  go_wp2_with fail
  refine (load_def ⟨h, 0, none⟩ 0 _ c0).mono ?_
  rintro e w' ⟨rfl, rfl⟩
  go_wp2_with fail
  refine HC.out.mono ?_
  rintro e W ⟨rfl, hh⟩
  have HH := Lib.hid hh
  clear hh
  go_wp2_with fail
  go_end0
  exact ⟨rfl, HH.out⟩

set_option maxHeartbeats 1000000 in
set_option maxRecDepth 100000 in
/-- Replace at a Replacer that has just been made. -/
theorem replRep_any (h k c : Nat) (l : Bytes) (w : World) (hR : Rep w h 0 0 .nilIface (.slice (some ⟨k, 0, none⟩) 4 c)) (hS : RepS w k) (hk : k ≠ h) (hl : l.length ≤ 4611686018427387904) :
    Calls Tryz.prog 107 #[.pointer (some ⟨h, 0, none⟩), .string (S l)] w fun e w' => e = .returned (.string (S (tabNl l))) ∧ Upd h w w' := by
  have hmf : ∀ (fn : Fn) (first cap : Array Value) (w : World), (Instr.makeFunc fn first cap).run Tryz.prog w = .ok (.func fn first cap) w := fun _ _ _ _ => rfl
  have hna : ∀ (t : Nat) (w : World), (nilAhead 165 187 (.pointer (some ⟨t, 0, none⟩)) "Replace").run Tryz.prog w = .ok (some false) w := fun _ _ => by kernel_rfl
  have hm : ∀ (t : Nat) (w : World), (method 165 187 (.pointer (some ⟨t, 0, none⟩)) "Replace").run Tryz.prog w = .ok (194, .pointer (some ⟨t, 0, none⟩)) w := fun _ _ => by kernel_rfl
  have HC := Lib.hid (onceDo_any h k c w hR hS hk)
  clear hR hS
  go_enter Tryz.func107, Tryz.ntmps107
  go_wp2_with fail
  refine HC.out.mono ?_
  rintro e W ⟨rfl, t, hR, hT, hge, hu⟩
  have r3 := hR.c3
  have HT := Lib.hid hT
  have HU := Lib.hid hu
  clear hR hT hu
  go_wp2_with fail
  refine (byteReplace_any t l _ HT.out hl).mono ?_
  rintro e W2 ⟨rfl, hb⟩
  have HB := Lib.hid hb
  clear hb
  go_wp2_with fail
  go_ret
  exact ⟨rfl, HU.out.next HB.out⟩
end Go.Proofs.YthbfahbjfioghaaGreatDoor
