/- Proved here: the contract of package enclosurebig's Add (of numbers that are not below 0) at this program. Conditions: as each theorem says. -/
import Derived.Test.YtjjfkidddjcdcaaDoorIntDo
namespace Go.Proofs.YtjjfkidddjcdcaaDoor
open Go.ChangeShapes Go.WideShapes Go.ChangeAt Go.RowKit

theorem sum_pos (A A2 : Option Addr) (c c2 u v : Nat) (w : World) (hR : Row32 w A (wc u) (dig u)) (hR2 : Row32 w A2 (wc v) (dig v)) (hu : wc u ≤ 100000) (hv : wc v ≤ 100000) :
    Calls Tryd.prog 109 #[.bool false, .slice A (wc u) c, .bool false, .slice A2 (wc v) c2] w fun e w' => Below w.heap.size w w' ∧ ∃ A' c', e = .returned (.tuple #[.bool false, .slice A' (wc (u + v)) c']) ∧ Row32 w' A' (wc (u + v)) (dig (u + v)) := by
  have HC := Lib.hid (add_any A A2 c c2 u v w hR hR2 hu hv)
  clear hR hR2
  generalize wc u = m at *
  generalize wc v = n at *
  go_enter Tryd.func109, Tryd.ntmps109
  go_wp2_with fail
  refine HC.out.mono ?_
  rintro e w1 ⟨hb, _, rfl, A1, c1, rfl, hR1⟩
  go_wp2_with fail
  go_ret2
  exact ⟨hb, A1, c1, rfl, hR1⟩

set_option maxHeartbeats 4000000 in
theorem add_z (g o gx ox gy oy : Nat) (z0 x y : Int) (w : World) (hz : At w g o z0) (hx : At w gx ox x) (hy : At w gy oy y) (h0 : 0 ≤ x) (h1 : 0 ≤ y) (hs : wc x.natAbs ≤ 50000) (hs2 : wc y.natAbs ≤ 50000) :
    Calls Tryd.prog 77 #[.pointer (some ⟨g, o, none⟩), .pointer (some ⟨gx, ox, none⟩), .pointer (some ⟨gy, oy, none⟩)] w fun e w' => e = .returned (.pointer (some ⟨g, o, none⟩)) ∧ Puts w w' g o (x + y) := by
  have HZ := Lib.hid hz
  obtain ⟨_, c0, ⟨A, c, c1, hR⟩, _, _⟩ := hx
  obtain ⟨_, d0, ⟨A2, c2, d1, hR2⟩, _, _⟩ := hy
  rw [decide_eq_false (show ¬ x < 0 by omega)] at c0
  rw [decide_eq_false (show ¬ y < 0 by omega)] at d0
  have HF := Lib.hid (show (false && decide (0 < (x + y).natAbs)) = decide (x + y < 0) by rw [decide_eq_false (show ¬ x + y < 0 by omega)]; rfl)
  have HC := Lib.hid (fun w' hb => sum_pos A A2 c c2 x.natAbs y.natAbs w' (hR.below hb) (hR2.below hb) (by omega) (by omega))
  rw [show x.natAbs + y.natAbs = (x + y).natAbs by omega] at HC
  clear hz hR hR2 h0 h1
  generalize x + y = p at *
  generalize wc x.natAbs = m at *
  generalize wc y.natAbs = n at *
  have hwd := (Below.refl w.heap.size w).drew
  go_enter Tryd.func77, Tryd.ntmps77
  go_wp2_with fail
  go_region_with (first | (go_at_call 109; refine (HC.out _ hwd).mono ?_; rintro e w1 ⟨hb, A1, c1, rfl, hR1⟩) | (go_at_call 108; refine (give_puts w _ g o _ z0 p _ _ HZ.out (hwd.trans hb) hR1 HF.out).mono ?_; rintro e w2 ⟨rfl, hP⟩))
  all_goals (go_wp2_with fail; go_ret; exact ⟨rfl, hP⟩)
end Go.Proofs.YtjjfkidddjcdcaaDoor
