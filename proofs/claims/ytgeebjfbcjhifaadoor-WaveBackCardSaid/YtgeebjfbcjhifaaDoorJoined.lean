/- Proved here: contracts of package wave's turn and joined at this program. Conditions: as each theorem says. -/
import Derived.Test.YtgeebjfbcjhifaaDoorLists
namespace Go.Proofs.YtgeebjfbcjhifaaDoor
open Go.ChangeShapes Go.WideShapes Go.ChangeAt Go.RowKit

theorem turn_val : pw 58720255 469762047 469762049 = 208783132 := by decide +kernel
theorem turn_any (w : World) : Calls Tryd.prog 32 #[] w fun e w' => e = .returned (.int .i64 208783132) ∧ w' = w := by
  have HP := Lib.hid (power_any 58720255 469762047 469762049 w (by decide) (by decide) (by decide) (by decide) 208783132 (Lib.hid turn_val))
  go_enter Tryd.func32, Tryd.ntmps32
  go_wp2_with fail
  refine HP.out.mono ?_
  rintro e w' ⟨rfl, rfl⟩
  go_wp2_with fail
  go_ret
  exact ⟨rfl, rfl⟩

def joinT (x y : Nat) : Nat := (y + 1409286147 - x) % 469762049 * 208783132 % 469762049
def joinS (x y : Nat) : Int := if 234468656333979648 < (x : Int) + (joinT x y : Int) * 998244353 then (x : Int) + (joinT x y : Int) * 998244353 - 468937312667959297 else (x : Int) + (joinT x y : Int) * 998244353
theorem join_rem (x y : Nat) (hx : x < 998244353) : (((y : Int) - (x : Int)).tmod 469762049 + 469762049) % 469762049 = (((y + 1409286147 - x) % 469762049 : Nat) : Int) := by
  have h := Int.mul_tdiv_add_tmod ((y : Int) - (x : Int)) 469762049
  generalize ((y : Int) - (x : Int)).tmod 469762049 = t at *
  generalize ((y : Int) - (x : Int)).tdiv 469762049 = q at *
  omega
theorem joined_any (x y : Nat) (w : World) (hx : x < 998244353) (hy : y < 469762049) : Calls Tryd.prog 14 #[.int .i64 (x : Nat), .int .i64 (y : Nat)] w fun e w' => e = .returned (.int .i64 (joinS x y)) ∧ w' = w := by
  have hj := join_rem x y hx
  have hlt := Int.tmod_lt_of_pos ((y : Int) - (x : Int)) (show (0 : Int) < 469762049 by decide)
  have hgt := Int.lt_tmod_of_pos ((y : Int) - (x : Int)) (show (0 : Int) < 469762049 by decide)
  have h1 : ((y : Int) - (x : Int)).tmod 469762049 + 469762049 ≥ 0 := by omega
  have ht : joinT x y < 469762049 := Nat.mod_lt _ (by decide)
  have hT : Hid ((((y + 1409286147 - x) % 469762049 : Nat) : Int) * 208783132 % 469762049 = (joinT x y : Int)) := Lib.hid (by unfold joinT; omega)
  have hm : (y + 1409286147 - x) % 469762049 < 469762049 := Nat.mod_lt _ (by decide)
  have HS : Hid (joinS x y = if 234468656333979648 < (x : Int) + (joinT x y : Int) * 998244353 then (x : Int) + (joinT x y : Int) * 998244353 - 468937312667959297 else (x : Int) + (joinT x y : Int) * 998244353) := Lib.hid rfl
  generalize joinS x y = v at *
  generalize joinT x y = t at *
  generalize (y + 1409286147 - x) % 469762049 = m at *
  have hT2 := hT.out
  go_enter Tryd.func14, Tryd.ntmps14
  go_wp2_with (go_at_call 32; refine (turn_any _).mono ?_; rintro e w' ⟨rfl, rfl⟩)
  · go_ret
    exact ⟨ret_i64 (by rw [HS.out, if_pos (by omega)]), rfl⟩
  · go_ret
    exact ⟨ret_i64 (by rw [HS.out, if_neg (by omega)]), rfl⟩
end Go.Proofs.YtgeebjfbcjhifaaDoor
