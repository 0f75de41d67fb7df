/- Proved here: contracts of math.Ldexp of a whole number below 2^53, and of the conversion of such a number, at this program. Conditions: as each theorem says. -/
import Derived.Test.YtjjfkidddjcdcaaDoorNear
namespace Go.Proofs.YtjjfkidddjcdcaaDoor
open Go.ChangeShapes Go.WideShapes Go.ChangeAt Go.RowKit

/-- A whole number below 2^53 as a float. -/
theorem whole_float (q : Nat) (h0 : 0 < q) (hq : q < 9007199254740992) :
    ∃ (X f : Nat), 1 ≤ X ∧ X ≤ 2046 ∧ f < 4503599627370496 ∧ PL.rungOf Ieee.double q 0 = X * 4503599627370496 + f ∧ ∀ p : Int, PL.rungOf Ieee.double (4503599627370496 + f) (p + (X : Int) - 1075) = PL.rungOf Ieee.double q p := by
  have hlog : q.log2 < 53 := (PL.log2_lt_iff q 53 (by omega)).2 hq
  obtain ⟨j, hj⟩ : ∃ j, j + q.log2 = 52 := ⟨52 - q.log2, by omega⟩
  have h1 : q <<< j < 9007199254740992 := by
    have := (PL.log2_lt_iff (q <<< j) 53 (PL.shl_ne q j (by omega))).1 (by rw [PL.log2_shl q j (by omega)]; omega)
    exact this
  have h2 : 4503599627370496 ≤ q <<< j := by
    have := (PL.le_log2_iff (q <<< j) 52 (PL.shl_ne q j (by omega))).1 (by rw [PL.log2_shl q j (by omega)]; omega)
    exact this
  obtain ⟨f, hf⟩ : ∃ f, q <<< j = 4503599627370496 + f := ⟨q <<< j - 4503599627370496, by omega⟩
  have hval : ∀ p : Int, PL.rungOf Ieee.double (4503599627370496 + f) (p - j) = PL.rungOf Ieee.double q p := fun p => by rw [← hf]; exact PL.rung_val _ _ _ _
  refine ⟨1075 - j, f, by omega, by omega, by omega, ?_, fun p => ?_⟩
  · rw [← hval 0]
    exact ld_norm f _ (1075 - j) (by omega) (by omega) (by omega) (by omega)
  · rw [← hval p]
    congr 1
    omega

theorem float_of_nat (q : Nat) : floatOfInt .f64 (q : Int) = PL.rungOf Ieee.double q 0 := by
  unfold floatOfInt PL.rungOf
  show Ieee.double.nearest (decide ((q : Int) < 0)) (q : Int).natAbs 0 = _
  rw [decide_eq_false (by omega)]
  rfl

theorem ldexp_zero1 (p : Int) (w : World) : Calls Tryd.prog 116 #[.float .f64 0, .int .i64 p] w fun e w' => e = .returned (.float .f64 0) ∧ w' = w := by
  have z := eq_zero 0 (by omega)
  rw [decide_eq_true (by decide)] at z
  go_enter Tryd.func116, Tryd.ntmps116
  go_wp2_with fail
  go_ret
  exact ⟨rfl, rfl⟩
theorem ldexp_zero (p : Int) (w : World) : Calls Tryd.prog 85 #[.float .f64 0, .int .i64 p] w fun e w' => e = .returned (.float .f64 0) ∧ w' = w := by
  go_enter Tryd.func85, Tryd.ntmps85
  go_wp2_with fail
  refine (ldexp_zero1 p w).mono ?_
  rintro e w1 ⟨rfl, rfl⟩
  go_wp2_with fail
  go_ret
  exact ⟨rfl, rfl⟩

/-- math.Ldexp of a whole number below 2^53. -/
theorem ldexp_q (q : Nat) (p : Int) (hq : q < 9007199254740992) (h1 : -100000 ≤ p) (h2 : p ≤ 100000) (w : World) :
    Calls Tryd.prog 85 #[.float .f64 (PL.rungOf Ieee.double q 0), .int .i64 p] w fun e w' => e = .returned (.float .f64 (PL.rungOf Ieee.double q p)) ∧ w' = w := by
  rcases Nat.eq_zero_or_pos q with h | h
  · subst h
    rw [PL.rung_zero, PL.rung_zero]
    exact ldexp_zero p w
  · obtain ⟨X, f, a1, a2, a3, a4, a5⟩ := whole_float q h hq
    have := ldexp_any X f p a1 a2 a3 h1 h2 _ a4 w
    rw [a5 p] at this
    exact this
end Go.Proofs.YtjjfkidddjcdcaaDoor
