/- Proved here: contracts of package enclosuresame's Ints and Lists of integers at this program. Conditions: as each theorem says. -/
import Derived.Test.YtgeebjfbcjhifaaDoorWhole
namespace Go.Proofs.YtgeebjfbcjhifaaDoor
open Go.ChangeShapes Go.WideShapes Go.ChangeAt Go.RowKit

theorem ints_same (x : Int) (w : World) :
    Calls Tryd.prog 7 #[.int .i64 x, .int .i64 x] w fun e w' => e = .returned (.bool true) ∧ w' = w := by
  have z : (x == x) = true := by simp
  go_enter Tryd.func7, Tryd.ntmps7
  go_wp2_with fail
  go_ret
  exact ⟨rfl, rfl⟩
set_option maxRecDepth 100000 in
theorem lists_same (n c1 c2 : Nat) (A1 A2 : Option Addr) (f : Nat → Int) (w : World) (h1 : Row w A1 n f) (h2 : Row w A2 n f) (hn : n ≤ 1000000) :
    Calls Tryd.prog 6 #[.slice A1 n c1, .slice A2 n c2, .func (.func 7) #[] #[]] w fun e w' => e = .returned (.bool true) ∧ Below w.heap.size w w' := by
  have H1 := Lib.hid h1
  have H2 := Lib.hid h2
  have z : ((n : Int) != (n : Int)) = false := by simp
  clear h1 h2
  go_enter Tryd.func6, Tryd.ntmps6
  go_wp2_with fail
  go_loopg [15] n (fun gk v15 wr => ∃ k : Nat, gk + k = n ∧ v15 = .int .i64 (k : Nat) ∧ Below w.heap.size w wr)
  case atStart => exact ⟨0, by omega, rfl, Below.refl _ _⟩
  case round =>
    obtain ⟨k, hk, rfl, hbe⟩ := hrel
    by_cases hlt : k < n
    · obtain ⟨gk, rfl⟩ : ∃ g', gk = g' + 1 := ⟨gk - 1, by omega⟩
      obtain ⟨b1, o1, rfl, hb1, hc1⟩ := (H1.out.below hbe) (by omega)
      obtain ⟨b2, o2, rfl, hb2, hc2⟩ := (H2.out.below hbe) (by omega)
      have x1 := hc1 k hlt
      have x2 := hc2 k hlt
      have HBE := Lib.hid hbe
      clear hc1 hc2 hbe
      generalize f k = x at *
      go_wp2_with fail
      go_quiet ((go_at_call 7; exact Calls.quiet_of_same (ints_same _ _)))
      go_wp2_with fail
      go_roundg gk
      case measure => omega
      case rel => exact ⟨k + 1, by omega, by go_num, below_drewN HBE.out _⟩
    · have HBE := Lib.hid hbe
      clear hbe
      go_wp2_with fail
      go_ret
      exact ⟨rfl, HBE.out⟩
end Go.Proofs.YtgeebjfbcjhifaaDoor
