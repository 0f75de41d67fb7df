/- Proved here: the contract of package sync's Once's Do, not yet done, with package wave's table's fill, at this program. Conditions: as each theorem says. -/
import Derived.Test.YtgeebjfbcjhifaaDoorFill
import Derived.Defers
import Derived.Laws.Pointers
import Derived.Laws.LoneSync
import Derived.RegionCalls
namespace Go.Proofs.YtgeebjfbcjhifaaDoor
open Go.ChangeShapes Go.WideShapes Go.ChangeAt Go.RowKit

theorem disable (w : World) : (callFunc 64 #[]).run Tryd.prog w = .ok (.value (.tuple #[])) w := run_call_mark0 Tryd.func64 (by kernel_rfl) (by kernel_rfl) (by kernel_rfl) .disable (by kernel_rfl) w
theorem enable (w : World) : (callFunc 66 #[]).run Tryd.prog w = .ok (.value (.tuple #[])) w := run_call_mark0 Tryd.func66 (by kernel_rfl) (by kernel_rfl) (by kernel_rfl) .enable (by kernel_rfl) w
theorem acquire (a : Addr) (w : World) : (callFunc 67 #[.pointer (some a)]).run Tryd.prog w = .ok (.value (.tuple #[])) w := run_call_marked Tryd.func67 (by kernel_rfl) (by kernel_rfl) (by kernel_rfl) .acquire (by kernel_rfl) a w
theorem releaseMerge (a : Addr) (w : World) : (callFunc 69 #[.pointer (some a)]).run Tryd.prog w = .ok (.value (.tuple #[])) w := run_call_marked Tryd.func69 (by kernel_rfl) (by kernel_rfl) (by kernel_rfl) .releaseMerge (by kernel_rfl) a w

theorem store_deferred (a : Addr) (x : Value) (u : FrameMode) (w : World) (hc : w.cell? a = some x) (hz : w.frozen? a = false) :
    CallsD Tryd.prog 46 #[.pointer (some a), .bool true] u w fun e u' w' => u' = u ∧ (e = .returned (.tuple #[]) ∧ w' = w.drew.setCell a (.int .u32 1)) := by
  have hc' : w.drew.cell? a = some x := by go_simp
  have hz' : w.drew.frozen? a = false := by go_simp
  have hst := run_call_store (P := Tryd.prog) Tryd.func59 (by kernel_rfl) (by kernel_rfl) (by kernel_rfl) (by kernel_rfl) (k := .u32) (y := 1) hc' hz'
  go_enter_d Tryd.func46, Tryd.ntmps46
  go_wp2
  go_region_calls
  all_goals (go_end0; exact ⟨rfl, rfl⟩)

set_option maxRecDepth 100000 in
set_option maxHeartbeats 1600000 in
theorem unlock_deferred (a : Addr) (u : FrameMode) (w : World) (hc : w.cell? a = some (.int .i32 1)) (hz : w.frozen? a = false) :
    CallsD Tryd.prog 45 #[.pointer (some a)] u w fun e u' w' => u' = u ∧ (e = .returned (.tuple #[]) ∧ w' = w.setCell a (.int .i32 0)) := by
  have hd := disable
  have he := enable
  have hr := releaseMerge
  have hadd := run_call_add (P := Tryd.prog) Tryd.func70 (by kernel_rfl) (by kernel_rfl) (by kernel_rfl) .i32 (by kernel_rfl) (y := -1) (s := 0) hc hz (by simp [go_sem]; rfl)
  have hcv := run_convert_to_unsafe (P := Tryd.prog) (src := 98) (dst := 102) Tryd.underlying98 Tryd.underlying102 (by kernel_rfl) hc
  go_enter_d Tryd.func45, Tryd.ntmps45
  go_wp2
  go_end0
  exact ⟨rfl, rfl⟩

set_option maxRecDepth 100000 in
set_option maxHeartbeats 1600000 in
theorem lock_free (a : Addr) (w : World) (hc : w.cell? a = some (.int .i32 0)) (hz : w.frozen? a = false) :
    Calls Tryd.prog 44 #[.pointer (some a)] w fun e w' => e = .returned (.tuple #[]) ∧ w' = w.setCell a (.int .i32 1) := by
  have hd := disable
  have he := enable
  have ha := acquire
  have hcas := run_call_cas_hit (P := Tryd.prog) Tryd.func65 (by kernel_rfl) (by kernel_rfl) (by kernel_rfl) .i32 (by kernel_rfl) (y := 1) hc hz
  have hc' : (w.setCell a (.int .i32 1)).cell? a = some (.int .i32 1) := World.cell?_setCell_same w a _ hc
  have hcv := run_convert_to_unsafe (P := Tryd.prog) (src := 98) (dst := 102) Tryd.underlying98 Tryd.underlying102 (by kernel_rfl) hc'
  go_enter Tryd.func44, Tryd.ntmps44
  go_wp2
  first | go_end0 | (simp only [Exit.inBlock, Exit.then]; refine bodyPost_ret (results_none rfl _ _ _) rfl ?_) | refine bodyPost_ret (results_none rfl _ _ _) rfl ?_
  exact ⟨rfl, rfl⟩

set_option maxRecDepth 100000 in
set_option maxHeartbeats 1600000 in
theorem slow_any (T : Nat) (v2 : Value) (w : World) (hS : Sincos w) (hT : 2 < T) (hr : w.rowIs T 62 67 (tabS (.int .u32 0) (.int .i32 0) v2 0)) :
    Calls Tryd.prog 34 #[.pointer (some ⟨T, 0, none⟩), .func (.func 16) #[.pointer (some ⟨T, 0, none⟩)] #[]] w fun e w' => e = .returned (.tuple #[]) ∧ (w.grownBy w' (some T) ∧ w'.rowIs T 62 67 (tabS (.int .u32 1) (.int .i32 0) v2 64)) := by
  have r1 : (w.setCell ⟨T, 1, none⟩ (.int .i32 1)).rowIs T 62 67 (tabS (.int .u32 0) (.int .i32 1) v2 0) := World.rowIs.congr (World.rowIs.set hr 1 (.int .i32 1)) fun j _ => by
    unfold tabS
    by_cases h1 : j = 1
    · rw [if_pos h1, if_neg (by omega), if_pos h1]
    · simp only [if_neg h1]
  have hS1 : Sincos (w.setCell ⟨T, 1, none⟩ (.int .i32 1)) := hS.grown (grown_set (grown_refl w (some T)) _ _) hT
  have HF := Lib.hid (fill_any T (.int .u32 0) (.int .i32 1) v2 (w.setCell ⟨T, 1, none⟩ (.int .i32 1)) hS1 hT r1)
  have hl := run_call_load (P := Tryd.prog) Tryd.func43 (by kernel_rfl) (by kernel_rfl) (by kernel_rfl) .u32 (by kernel_rfl) (w := w.setCell ⟨T, 1, none⟩ (.int .i32 1)) (a := ⟨T, 0, none⟩) (x := 0) (World.rowIs.cell r1 (i := 0) (by omega))
  have hnot : ∀ (x : Bool) (w : World), (Op.unary .not (.bool x)).run Tryd.prog w = .ok (.bool (!x)) w := fun _ _ => rfl
  have HL := Lib.hid (lock_free ⟨T, 1, none⟩ w (World.rowIs.cell hr (i := 1) (by omega)) (World.rowIs.frozen hr 1))
  have HG1 := Lib.hid (grown_set (grown_refl w (some T)) 1 (.int .i32 1))
  clear r1 hS1 hS hr
  go_enter_defers Tryd.func34, Tryd.ntmps34
  go_wp2_with (first | (go_at_call 44; refine HL.out.mono ?_; rintro e w' ⟨rfl, rfl⟩) | (go_at_call 33; go_in) | (go_at_call 16; refine HF.out.mono ?_; rintro e w3 ⟨rfl, hg, hr3⟩))
  refine leaves_cons (f := 46) (args := #[.pointer (some ⟨T, 0, none⟩), .bool true]) (by simp) (by simp [go_sem]) ?_
  refine (store_deferred ⟨T, 0, none⟩ (.int .u32 0) .returning _ (World.rowIs.cell hr3 (i := 0) (by omega)) (World.rowIs.frozen hr3 0)).mono ?_
  rintro e u' w'' ⟨rfl, rfl, rfl⟩
  have r4 : (w3.drew.setCell ⟨T, 0, none⟩ (.int .u32 1)).rowIs T 62 67 (tabS (.int .u32 1) (.int .i32 1) v2 64) := World.rowIs.congr (World.rowIs.set (World.rowIs.drew hr3) 0 (.int .u32 1)) fun j _ => by
    unfold tabS
    by_cases h1 : j = 0
    · rw [if_pos h1, if_pos h1]
    · simp only [if_neg h1]
  have r5 : ((w3.drew.setCell ⟨T, 0, none⟩ (.int .u32 1)).setCell ⟨T, 1, none⟩ (.int .i32 0)).rowIs T 62 67 (tabS (.int .u32 1) (.int .i32 0) v2 64) := World.rowIs.congr (World.rowIs.set r4 1 (.int .i32 0)) fun j _ => by
    unfold tabS
    by_cases h1 : j = 1
    · rw [if_pos h1, if_neg (by omega), if_pos h1]
    · simp only [if_neg h1]
  refine leaves_cons (f := 45) (args := #[.pointer (some ⟨T, 1, none⟩)]) (by simp [settle]) (by simp [go_sem]) ?_
  refine (unlock_deferred ⟨T, 1, none⟩ _ _ (World.rowIs.cell r4 (i := 1) (by omega)) (World.rowIs.frozen r4 1)).mono ?_
  rintro e u' w'' ⟨rfl, rfl, rfl⟩
  have HF5 := Lib.hid (show w.grownBy ((w3.drew.setCell ⟨T, 0, none⟩ (.int .u32 1)).setCell ⟨T, 1, none⟩ (.int .i32 0)) (some T) from grown_set (grown_set (grown_drew (grown_trans HG1.out hg)) _ _) _ _)
  have HR5 := Lib.hid r5
  clear r4 r5 hr3 hg
  simp only [Leaves, settle, results, Tryd.results34]
  exact ⟨.tuple #[], by simp, rfl, HF5.out, HR5.out⟩

set_option maxRecDepth 100000 in
set_option maxHeartbeats 1600000 in
theorem do_first (T : Nat) (v2 : Value) (w : World) (hS : Sincos w) (hT : 2 < T) (hr : w.rowIs T 62 67 (tabS (.int .u32 0) (.int .i32 0) v2 0)) :
    Calls Tryd.prog 15 #[.pointer (some ⟨T, 0, none⟩), .func (.func 16) #[.pointer (some ⟨T, 0, none⟩)] #[]] w fun e w' => e = .returned (.tuple #[]) ∧ (w.grownBy w' (some T) ∧ w'.rowIs T 62 67 (tabS (.int .u32 1) (.int .i32 0) v2 64)) := by
  have HW := Lib.hid (slow_any T v2 w hS hT hr)
  have hl := run_call_load (P := Tryd.prog) Tryd.func43 (by kernel_rfl) (by kernel_rfl) (by kernel_rfl) .u32 (by kernel_rfl) (w := w) (a := ⟨T, 0, none⟩) (x := 0) (World.rowIs.cell hr (i := 0) (by omega))
  have hnot : ∀ (x : Bool) (w : World), (Op.unary .not (.bool x)).run Tryd.prog w = .ok (.bool (!x)) w := fun _ _ => rfl
  clear hS hr
  go_enter Tryd.func15, Tryd.ntmps15
  go_wp2_with (first | (go_at_call 34; refine HW.out.mono ?_; rintro e w3 ⟨rfl, hg, hr3⟩) | (go_at_call 33; go_in))
  go_end0
  exact ⟨rfl, hg, hr3⟩
end Go.Proofs.YtgeebjfbcjhifaaDoor
