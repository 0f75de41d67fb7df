/- Proved here: the contract of package wave's table's fill at this program. Conditions: as the theorem says. -/
import Derived.Test.YtgeebjfbcjhifaaDoorTrig
import Derived.Deep.OwnRows
import Derived.BigRegion
import Derived.StillTailTactics
namespace Go.Proofs.YtgeebjfbcjhifaaDoor
open Go.ChangeShapes Go.WideShapes Go.ChangeAt Go.RowKit

def argV (k : Nat) : Option Nat := (fm 4618760256179416344 (floatOfInt .f64 (k : Int))).bind fun a => floatBits .quo .f64 a 4634204016564240384
def cosK (k : Nat) : Option Nat := (argV k).bind fun x => trigF x false
def sinK (k : Nat) : Option Nat := if k = 0 then some 0 else (argV k).bind fun x => trigF x true
theorem all_some : ∀ k, k < 64 → ((cosK k).isSome && (sinK k).isSome) = true := by decide +kernel
def cosR (k : Nat) : Nat := (cosK k).getD 0
def sinR (k : Nat) : Nat := (sinK k).getD 0
theorem root_some (k : Nat) (h : k < 64) : cosK k = some (cosR k) ∧ sinK k = some (sinR k) := by
  have := all_some k h
  simp only [Bool.and_eq_true] at this
  obtain ⟨h1, h2⟩ := this
  obtain ⟨a, ha⟩ := Option.isSome_iff_exists.1 h1
  obtain ⟨b, hb⟩ := Option.isSome_iff_exists.1 h2
  exact ⟨by unfold cosR; rw [ha]; rfl, by unfold sinR; rw [hb]; rfl⟩

theorem cos_call (k x : Nat) (w : World) (hk : k < 64) (hx : argV k = some x) (hS : Sincos w) : Calls Tryd.prog 35 #[.float .f64 x] w fun e w' => e = .returned (.float .f64 (cosR k)) ∧ w' = w := by
  have h := (root_some k hk).1
  unfold cosK at h
  rw [hx] at h
  have C := Lib.hid (cos_any x (cosR k) w hS h)
  clear h hx
  generalize cosR k = r at *
  go_enter Tryd.func35, Tryd.ntmps35
  go_wp2_with (go_at_call 48; refine C.out.mono ?_; rintro e w' ⟨rfl, rfl⟩)
  go_ret
  exact ⟨rfl, rfl⟩
set_option maxRecDepth 100000 in
theorem sin_zero (w : World) : Calls Tryd.prog 50 #[.float .f64 0] w fun e w' => e = .returned (.float .f64 0) ∧ w' = w := by
  have h : (FloatKind.f64.format.order 0 0 == some .eq) = true := by decide +kernel
  go_enter Tryd.func50, Tryd.ntmps50
  go_wp2_with fail
  go_ret
  exact ⟨rfl, rfl⟩
theorem arg_zero : argV 0 = some 0 := by decide +kernel
theorem sin_call (k x : Nat) (w : World) (hk : k < 64) (hx : argV k = some x) (hS : Sincos w) : Calls Tryd.prog 36 #[.float .f64 x] w fun e w' => e = .returned (.float .f64 (sinR k)) ∧ w' = w := by
  have C : Hid (Calls Tryd.prog 50 #[.float .f64 x] w fun e w' => e = .returned (.float .f64 (sinR k)) ∧ w' = w) := Lib.hid (by
    by_cases h0 : k = 0
    · subst h0
      rw [arg_zero] at hx
      injection hx with hx
      subst hx
      exact sin_zero w
    · have h := (root_some k hk).2
      unfold sinK at h
      rw [if_neg h0, hx] at h
      exact sin_any x (sinR k) w hS h)
  clear hx
  generalize sinR k = r at *
  go_enter Tryd.func36, Tryd.ntmps36
  go_wp2_with (go_at_call 50; refine C.out.mono ?_; rintro e w' ⟨rfl, rfl⟩)
  go_ret
  exact ⟨rfl, rfl⟩

theorem store_complex (a : Addr) (re im : Nat) (w : World) : (store a (.complex .f64 re im)).run Tryd.prog w = stored Tryd.prog w a (.complex .f64 re im) .plain := run_store Tryd.prog w a _ .plain rfl
theorem store_float (a : Addr) (b : Nat) (w : World) : (store a (.float .f64 b)).run Tryd.prog w = stored Tryd.prog w a (.float .f64 b) .plain := run_store Tryd.prog w a _ .plain rfl
/-- The table's cells, its first i roots filled. -/
def tabS (v0 v1 v2 : Value) (i : Nat) : Nat → Value := fun c => if c = 0 then v0 else if c = 1 then v1 else if c = 2 then v2 else if c < 3 + i then .complex .f64 (cosR (c - 3)) (sinR (c - 3)) else .complex .f64 0 0

set_option maxRecDepth 100000 in
set_option maxHeartbeats 4000000 in
theorem fill_any (T : Nat) (v0 v1 v2 : Value) (w : World) (hS : Sincos w) (hT : 2 < T) (hc : w.rowIs T 62 67 (tabS v0 v1 v2 0)) :
    Calls Tryd.prog 16 #[.pointer (some ⟨T, 0, none⟩)] w fun e w' => e = .returned (.tuple #[]) ∧ w.grownBy w' (some T) ∧ w'.rowIs T 62 67 (tabS v0 v1 v2 64) := by
  have HS := Lib.hid hS
  have HC := Lib.hid hc
  clear hS hc
  go_enter Tryd.func16, Tryd.ntmps16
  go_wp2_with fail
  go_loopg [4] 64 (fun gk v4 wr => ∃ i : Nat, gk + i = 64 ∧ v4 = .int .i64 (i : Nat) ∧ w.grownBy wr (some T) ∧ wr.rowIs T 62 67 (tabS v0 v1 v2 i))
  case atStart => exact ⟨0, by omega, rfl, grown_refl _ _, HC.out⟩
  case round =>
    clear HC
    obtain ⟨i, hi, rfl, hgr, hrow⟩ := hrel
    have HG := Lib.hid hgr
    have HR := Lib.hid hrow
    clear hgr hrow
    rcases gk with _ | g
    · obtain rfl : i = 64 := by omega
      go_wp2_with fail
      go_end0
      exact ⟨rfl, HG.out, HR.out⟩
    · have hlt : i < 64 := by omega
      obtain ⟨a, x, ha, hax⟩ : ∃ a x, fm 4618760256179416344 (floatOfInt .f64 (i : Int)) = some a ∧ floatBits .quo .f64 a 4634204016564240384 = some x := by
        have h := (root_some i hlt).1
        unfold cosK at h
        obtain ⟨x, hx, _⟩ := opt_bind h
        obtain ⟨a, ha, hx⟩ := opt_bind hx
        exact ⟨a, x, ha, hx⟩
      have hx : argV i = some x := by unfold argV; rw [ha]; exact hax
      have hS2 : Sincos wr := HS.out.grown HG.out hT
      have CC := Lib.hid (cos_call i x wr.drew hlt hx (hS2.drewN 1))
      have CS := Lib.hid (sin_call i x wr.drew hlt hx (hS2.drewN 1))
      have km := fun w => run_float_arith (P := Tryd.prog) w .mul 34 .f64 _ _ _ ha
      have kq := fun w => run_float_arith (P := Tryd.prog) w .quo 34 .f64 _ _ _ hax
      have cT : wr.cell? ⟨T, 3 + i, none⟩ = some (.complex .f64 0 0) := by
        have h := World.rowIs.cell HR.out (i := 3 + i) (by omega)
        unfold tabS at h
        rw [if_neg (by omega), if_neg (by omega), if_neg (by omega), if_neg (by omega)] at h
        exact h
      have fT := World.rowIs.frozen HR.out (3 + i)
      have FIN := Lib.hid (fun q : Nat => show w.grownBy ((wr.setCell ⟨T, 3 + i, none⟩ (.complex .f64 (cosR i) (sinR i))).drewN q) (some T) ∧ ((wr.setCell ⟨T, 3 + i, none⟩ (.complex .f64 (cosR i) (sinR i))).drewN q).rowIs T 62 67 (tabS v0 v1 v2 (i + 1)) by
        refine ⟨grown_drewN (grown_set HG.out _ _) q, ?_⟩
        refine World.rowIs.congr (World.rowIs.set HR.out (3 + i) _) fun j _ => ?_
        by_cases e : j = 3 + i
        · subst e
          unfold tabS
          rw [if_pos rfl, if_neg (by omega), if_neg (by omega), if_neg (by omega), if_pos (by omega), show 3 + i - 3 = i by omega]
        · rw [if_neg e]
          unfold tabS
          by_cases e2 : j < 3 + i
          · rw [if_pos e2, if_pos (show j < 3 + (i + 1) by omega)]
          · rw [if_neg e2, if_neg (show ¬ j < 3 + (i + 1) by omega)])
      clear ha hax hx hS2
      generalize cosR i = c at *
      generalize sinR i = s at *
      have hst := store_complex
      go_wp2_with fail
      refine wp_region_still_tail 10 (by kernel_rfl) (by kernel_rfl) ?_
      simp only [List.take_succ_cons, List.take_zero, List.drop_succ_cons, List.drop_zero]
      repeat still_step
      still_call (CC.out)
      repeat still_step
      still_call (CS.out)
      repeat still_step
      refine wpStill_nil ?_
      go_wp2_with fail
      go_roundg g
      case measure => omega
      case rel => exact ⟨i + 1, by omega, by go_num, FIN.out 1⟩
end Go.Proofs.YtgeebjfbcjhifaaDoor
