/- Proved here: the contract of package enclosurebig's NewInt at this program. Conditions: as each theorem says. -/
import Derived.Test.YtjjfkidddjcdcaaDoorIntSet
namespace Go.Proofs.YtjjfkidddjcdcaaDoor
open Go.ChangeShapes Go.WideShapes Go.ChangeAt Go.RowKit

/-- A new Int, 0. -/
theorem IntAt.zero (w : World) : IntAt (w.alloc (Obj.cells #[.bool false, .slice none 0 0] 101)) w.heap.size 0 false 0 :=
  ⟨by simp, by simp [go_sem], ⟨none, 0, by simp [go_sem, wc_zero], fun h => by simp [wc_zero] at h⟩, by simp [go_sem], by simp [go_sem]⟩

theorem newint_any (x : Int) (w : World) (hx : -9223372036854775808 ≤ x) (hx2 : x ≤ 9223372036854775807) :
    Calls Tryd.prog 79 #[.int .i64 x] w fun e w' => Below w.heap.size w w' ∧ e = .returned (.pointer (some ⟨w.heap.size, 0, none⟩)) ∧ IntAt w' w.heap.size 0 (decide (x < 0) && decide (0 < x.natAbs)) x.natAbs := by
  go_enter Tryd.func79, Tryd.ntmps79
  go_wp2_with fail
  refine (setint_any w.heap.size 0 0 false x _ (IntAt.zero w) hx hx2).mono ?_
  rintro e w2 ⟨rfl, hP⟩
  go_wp2_with fail
  go_ret
  exact ⟨(below_of_grown (grown_refl w (some w.heap.size)) _ (Nat.le_refl _) (Nat.le_refl _)).trans (((Below.refl _ _).alloc (Nat.le_refl _) _).trans (below_of_grown hP.grown _ (Nat.le_refl _) (by simp))), rfl, hP.at_⟩
end Go.Proofs.YtjjfkidddjcdcaaDoor
