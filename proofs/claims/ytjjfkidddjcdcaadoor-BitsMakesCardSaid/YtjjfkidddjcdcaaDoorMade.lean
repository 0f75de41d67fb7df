/- Proved here: the closed fact 'made' at this program, and sums with nought. Conditions: the listed variables hold what is laid. -/
import Derived.Test.YtjjfkidddjcdcaaDoorNext
namespace Go.Proofs.YtjjfkidddjcdcaaDoor
open Go.ChangeShapes Go.WideShapes Go.ChangeAt Go.RowKit
open Go.Proofs (TabAt)

theorem tenth_n : (1 : Nat) = Go.Lib.ctz 64 7205759403792794 := by decide +kernel
theorem tenth_x : expo 4591870180066957722 = 1019 := by decide +kernel
theorem tenth_f : 4503599627370496 + frac 4591870180066957722 = 7205759403792794 := by decide +kernel
theorem tenth_s : sgn 4591870180066957722 = false := by decide +kernel
theorem tenth_q : ((7205759403792794 : Nat) : Int) / 2 ^ 1 = ((3602879701896397 : Nat) : Int) := by decide +kernel

theorem whole_tenth (w : World) (hT : TabAt 2 Go.Lib.deBruijn64tab w) :
    Calls Tryd.prog 19 #[.float .f64 4591870180066957722] w fun e w' => e = .returned (.tuple #[.int .i64 3602879701896397, .int .i64 (-55), .int .i64 0]) ∧ w' = w := by
  have h := whole_norm 4591870180066957722 1 3602879701896397 7205759403792794 (by omega) (by rw [tenth_x]; omega) (by rw [tenth_x]; omega) tenth_f tenth_n (by omega) tenth_q (by omega) w hT
  rw [tenth_s, tenth_x] at h
  exact h

theorem join_half (w : World) :
    Calls Tryd.prog 18 #[.bool true, .int .i64 1023, .int .u64 2251799813685248] w fun e w' => e = .returned (.tuple #[.float .f64 13832806255468478464, .int .i64 0]) ∧ w' = w :=
  join_ok true 1023 2251799813685248 w (by omega) (by omega)

theorem made_w : makeW false 3 (-1) = 4609434218613702656 := by decide +kernel

theorem make_three (w : World) (g0 : w.cell? ⟨1, 0, none⟩ = some (.int .i64 11)) (g1 : w.cell? ⟨1, 1, none⟩ = some (.int .i64 52)) (hsz : 1 < w.heap.size) :
    Calls Tryd.prog 23 #[.int .i64 3, .int .i64 (-1)] w fun e' w' => e' = .returned (.float .f64 4609434218613702656) ∧ Below w.heap.size w w' := by
  have h := make_any 3 (-1) (by omega) (by omega) w g0 g1 hsz
  rw [show decide ((3 : Int) < 0) = false by decide, show (3 : Int).natAbs = 3 by decide, made_w] at h
  exact h

theorem next_one (w : World) : Calls Tryd.prog 32 #[.float .f64 4607182418800017408] w fun e w' => e = .returned (.float .f64 4607182418800017409) ∧ w' = w := by
  have h := next_any 4607182418800017408 (by omega) w
  rw [show nextS 4607182418800017408 = 4607182418800017409 by decide +kernel] at h
  exact h

theorem ord_self (b c : Nat) (h : b = c) (hb : b ≤ 9218868437227405312) : (FloatKind.f64.format.order b c == some .eq) = true := by
  subst h
  rw [ord_eq b b (by omega) (by omega) (notNaN_small b hb) (notNaN_small b hb)]
  simp

theorem half_self : (FloatKind.f64.format.order 13832806255468478464 13832806255468478464 == some .eq) = true := by decide +kernel

theorem made_any (w : World) (g0 : w.cell? ⟨1, 0, none⟩ = some (.int .i64 11)) (g1 : w.cell? ⟨1, 1, none⟩ = some (.int .i64 52)) (hsz : 1 < w.heap.size) (hT : TabAt 2 Go.Lib.deBruijn64tab w) :
    Calls Tryd.prog 12 #[] w fun e' w' => e' = .returned (.bool true) ∧ Below w.heap.size w w' := by
  have e1 := half_self
  have e2 := ord_self 4609434218613702656 4609434218613702656 rfl (by omega)
  have e3 := ord_self 4607182418800017409 4607182418800017409 rfl (by omega)
  have HT := Lib.hid hT
  clear hT
  go_enter Tryd.func12, Tryd.ntmps12
  go_wp2_with (first | (go_at_call 19; refine (whole_tenth _ HT.out).mono ?_; rintro e w' ⟨rfl, rfl⟩) | (go_at_call 18; refine (join_half _).mono ?_; rintro e w' ⟨rfl, rfl⟩) | (go_at_call 23; refine (make_three _ g0 g1 hsz).mono ?_; rintro e w' ⟨rfl, hb⟩) | (go_at_call 32; refine (next_one _).mono ?_; rintro e w' ⟨rfl, rfl⟩))
  go_ret
  exact ⟨rfl, hb⟩
end Go.Proofs.YtjjfkidddjcdcaaDoor
