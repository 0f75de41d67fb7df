/- Proved here: contracts of math.Frexp and of the document's KindOf and Odd at this program. Conditions: the arguments are words of 64 bits. -/
import Derived.Test.YtjjfkidddjcdcaaDoorMath
import Derived.Test.YtjjfkidddjcdcaaDoorMul
import Derived.Laws.FloatArith
namespace Go.Proofs.YtjjfkidddjcdcaaDoor
open Go.ChangeShapes Go.WideShapes Go.ChangeAt Go.RowKit

theorem eq_zero (b : Nat) (hb : b < 18446744073709551616) : (FloatKind.f64.format.order b 0 == some .eq) = decide (PL.rung b = 0) := by
  have hl := PL.rung_lt b
  rw [f64_fmt]
  by_cases h : PL.isNaN b
  · rw [PL.order_nan_left _ _ hb h]
    unfold PL.isNaN at h
    rw [decide_eq_false (by omega)]
    rfl
  · rw [PL.order_eq _ _ hb (by omega) h (notNaN_small _ (by omega)), sval_small 0 (by omega)]
    by_cases e : PL.rung b = 0
    · have : PL.sval b = 0 := by unfold PL.sval; split <;> omega
      rw [this, decide_eq_true e]; rfl
    · rw [decide_eq_false e]
      have : ¬ compare (PL.sval b) (0 : Nat) = .eq := by
        rw [Int.compare_eq_eq]
        unfold PL.sval
        split <;> omega
      simpa using this

theorem lt_core (b c : Nat) (hc : c < 9218868437227405312) (h : ¬ PL.isNaN b) : (Ieee.double.order (PL.rung b) c == some .lt) = decide (PL.rung b < c) := by
  have hl := PL.rung_lt b
  have h' : ¬ PL.isNaN (PL.rung b) := by unfold PL.isNaN at *; rw [rung_rung]; exact h
  rw [PL.order_eq _ _ (by omega) (by omega) h' (notNaN_small _ (by omega)), sval_rung, sval_small c (by omega)]
  by_cases e : PL.rung b < c
  · rw [Int.compare_eq_lt.2 (by omega), decide_eq_true e]; rfl
  · rw [decide_eq_false e]
    have : ¬ compare (PL.rung b : Int) c = .lt := by
      rw [Int.compare_eq_lt]; omega
    simpa using this

theorem lt_norm (b : Nat) (h : ¬ PL.isNaN b) : (FloatKind.f64.format.order (PL.rung b) 4503599627370496 == some .lt) = decide (PL.rung b < 4503599627370496) := by
  rw [f64_fmt]
  exact lt_core b 4503599627370496 (by omega) h

theorem kindof_any (b : Nat) (hb : b < 18446744073709551616) (w : World) :
    Calls Tryd.prog 15 #[.float .f64 b] w fun e w' => e = .returned (.int .i64 (kindS b)) ∧ w' = w := by
  have z := eq_zero b hb
  have c1 := fun w => isnan_any b hb w
  have c2 := fun w => isinf_any b hb w
  have c3 := fun w => abs_any b hb w
  have HK : Hid (kindS b = if PL.rung b = 0 then 3 else if PL.rung b < 4503599627370496 then 4 else if PL.rung b < 9218868437227405312 then 5 else if PL.rung b = 9218868437227405312 then 2 else 1) := rfl
  have hn : nanB b = decide (9218868437227405312 < PL.rung b) := rfl
  have hi : infB b = decide (PL.rung b = 9218868437227405312) := rfl
  have hlt := lt_norm b
  unfold PL.isNaN at hlt
  have C1 := Lib.hid c1
  have C2 := Lib.hid c2
  have C3 := Lib.hid c3
  clear c1 c2 c3
  generalize kindS b = k at *
  generalize nanB b = n at *
  generalize infB b = i at *
  generalize PL.rung b = r at *
  by_cases r1 : 9218868437227405312 < r
  · have hk : k = 1 := by rw [HK.out, if_neg (by omega), if_neg (by omega), if_neg (by omega), if_neg (by omega)]
    obtain rfl : n = true := by rw [hn]; simpa using r1
    subst hk
    clear z hi hlt hn
    go_enter Tryd.func15, Tryd.ntmps15
    go_wp2_with (first | (go_at_call 60; refine (C1.out _).mono ?_; rintro e w' ⟨rfl, rfl⟩))
    go_ret
    exact ⟨rfl, rfl⟩
  obtain rfl : n = false := by rw [hn]; simpa using r1
  have hlt' := hlt r1
  clear hlt hn
  by_cases r2 : r = 9218868437227405312
  · have hk : k = 2 := by rw [HK.out, if_neg (by omega), if_neg (by omega), if_neg (by omega), if_pos r2]
    obtain rfl : i = true := by rw [hi]; simpa using r2
    subst hk
    clear z hi hlt' r2
    go_enter Tryd.func15, Tryd.ntmps15
    go_wp2_with (first | (go_at_call 60; refine (C1.out _).mono ?_; rintro e w' ⟨rfl, rfl⟩) | (go_at_call 61; refine (C2.out _).mono ?_; rintro e w' ⟨rfl, rfl⟩))
    go_ret
    exact ⟨rfl, rfl⟩
  obtain rfl : i = false := by rw [hi]; simpa using r2
  clear hi
  by_cases r3 : r = 0
  · have hk : k = 3 := by rw [HK.out, if_pos r3]
    rw [decide_eq_true r3] at z
    subst hk
    clear hlt' r2 r3
    go_enter Tryd.func15, Tryd.ntmps15
    go_wp2_with (first | (go_at_call 60; refine (C1.out _).mono ?_; rintro e w' ⟨rfl, rfl⟩) | (go_at_call 61; refine (C2.out _).mono ?_; rintro e w' ⟨rfl, rfl⟩))
    go_ret
    exact ⟨rfl, rfl⟩
  rw [decide_eq_false r3] at z
  by_cases r4 : r < 4503599627370496
  · have hk : k = 4 := by rw [HK.out, if_neg r3, if_pos r4]
    rw [decide_eq_true r4] at hlt'
    subst hk
    clear r2 r3 r4
    go_enter Tryd.func15, Tryd.ntmps15
    go_wp2_with (first | (go_at_call 60; refine (C1.out _).mono ?_; rintro e w' ⟨rfl, rfl⟩) | (go_at_call 61; refine (C2.out _).mono ?_; rintro e w' ⟨rfl, rfl⟩) | (go_at_call 62; refine (C3.out _).mono ?_; rintro e w' ⟨rfl, rfl⟩))
    go_ret
    exact ⟨rfl, rfl⟩
  · have hk : k = 5 := by rw [HK.out, if_neg r3, if_neg r4, if_pos (by omega)]
    rw [decide_eq_false r4] at hlt'
    subst hk
    clear r2 r3 r4
    go_enter Tryd.func15, Tryd.ntmps15
    go_wp2_with (first | (go_at_call 60; refine (C1.out _).mono ?_; rintro e w' ⟨rfl, rfl⟩) | (go_at_call 61; refine (C2.out _).mono ?_; rintro e w' ⟨rfl, rfl⟩) | (go_at_call 62; refine (C3.out _).mono ?_; rintro e w' ⟨rfl, rfl⟩))
    go_ret
    exact ⟨rfl, rfl⟩
end Go.Proofs.YtjjfkidddjcdcaaDoor
