/- Proved here: contracts of math/bits.Reverse64 (of numbers below 64) at this program. Conditions: as each theorem says. -/
import Derived.Test.YtgeebjfbcjhifaaDoorClos
namespace Go.Proofs.YtgeebjfbcjhifaaDoor
open Go.ChangeShapes Go.WideShapes Go.ChangeAt Go.RowKit

def swp (m k x : Int) : Int := bits .or .u64 (bits .and .u64 (x / k) m) (IntKind.u64.wrap (bits .and .u64 x m * k))
def rb (x : Int) : Int := bits .or .u64 (swp 281470681808895 65536 (swp 71777214294589695 256 x) / 4294967296) (IntKind.u64.wrap (swp 281470681808895 65536 (swp 71777214294589695 256 x) * 4294967296))
def rs (x : Int) : Int := swp 1085102592571150095 16 (swp 3689348814741910323 4 (swp 6148914691236517205 2 x))
theorem rs_low : ∀ i : Nat, i < 64 → 0 ≤ rs (i : Int) ∧ rs (i : Int) ≤ 18446744073709551615 := by decide +kernel
theorem rs_rev : ∀ i : Nat, i < 64 → rb (rs (i : Int)) = ((revB 64 i : Nat) : Int) := by decide +kernel
theorem revbytes_any (x : Int) (w : World) (_h0 : 0 ≤ x) (_h1 : x ≤ 18446744073709551615) : Calls Tryd.prog 63 #[.int .u64 x] w fun e w' => e = .returned (.int .u64 (rb x)) ∧ w' = w := by
  go_enter Tryd.func63, Tryd.ntmps63
  go_wp2_with fail
  go_ret
  exact ⟨rfl, rfl⟩
theorem rev_any (i : Nat) (w : World) (hi : i < 64) : Calls Tryd.prog 51 #[.int .u64 (i : Nat)] w fun e w' => e = .returned (.int .u64 ((revB 64 i : Nat) : Int)) ∧ w' = w := by
  have h1 := rs_low i hi
  have h2 := rs_rev i hi
  have CP := revbytes_any (rs (i : Int)) w h1.1 h1.2
  rw [h2] at CP
  unfold rs swp at CP
  have HCP := Lib.hid CP
  clear CP h1 h2
  generalize ((revB 64 i : Nat) : Int) = v at *
  go_enter Tryd.func51, Tryd.ntmps51
  go_wp2_with fail
  refine HCP.out.mono ?_
  rintro e w' ⟨rfl, rfl⟩
  go_wp2_with fail
  go_ret
  exact ⟨rfl, rfl⟩
end Go.Proofs.YtgeebjfbcjhifaaDoor
