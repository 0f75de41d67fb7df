/- Proved here: contracts of the library's math functions IsNaN, IsInf, Abs, Signbit, Copysign, Inf, NaN, Nextafter, normalize at this program. Conditions: the arguments are words of 64 bits. -/
import Derived.Test.YtjjfkidddjcdcaaDoorFloat
import Derived.Test.YtjjfkidddjcdcaaDoorWhole
namespace Go.Proofs.YtjjfkidddjcdcaaDoor
open Go.ChangeShapes Go.WideShapes Go.ChangeAt Go.RowKit

def nanB (b : Nat) : Bool := decide (9218868437227405312 < PL.rung b)
def infB (b : Nat) : Bool := decide (PL.rung b = 9218868437227405312)

theorem f64_fmt : FloatKind.f64.format = Ieee.double := rfl

theorem neq_self (b : Nat) (hb : b < 18446744073709551616) : (FloatKind.f64.format.order b b != some .eq) = nanB b := by
  rw [f64_fmt]
  by_cases h : PL.isNaN b
  · rw [PL.order_nan_left b b hb h]
    unfold nanB PL.isNaN at *
    simp [h]
  · rw [PL.order_eq b b hb hb h h, Int.compare_eq_eq.2 rfl]
    unfold nanB PL.isNaN at *
    simp; omega

theorem isnan_any (b : Nat) (hb : b < 18446744073709551616) (w : World) :
    Calls Tryd.prog 60 #[.float .f64 b] w fun e w' => e = .returned (.bool (nanB b)) ∧ w' = w := by
  have h := neq_self b hb
  go_enter Tryd.func60, Tryd.ntmps60
  go_wp2_with fail
  go_ret
  exact ⟨rfl, rfl⟩

theorem and_abs (b : Nat) (hb : b < 18446744073709551616) : bits .andNot .u64 (b : Int) 9223372036854775808 = ((PL.rung b : Nat) : Int) := by
  have := u64_andNot_nat b 9223372036854775808 hb (by omega)
  rw [show (18446744073709551615 - 9223372036854775808 : Nat) = 9223372036854775807 by decide, show b &&& 9223372036854775807 = b % 9223372036854775808 from Nat.and_two_pow_sub_one_eq_mod b 63] at this
  exact this

theorem abs_any (b : Nat) (hb : b < 18446744073709551616) (w : World) :
    Calls Tryd.prog 62 #[.float .f64 b] w fun e w' => e = .returned (.float .f64 (PL.rung b)) ∧ w' = w := by
  have cb := call_bits
  have cf := call_float
  have h := and_abs b hb
  go_enter Tryd.func62, Tryd.ntmps62
  go_wp2_with fail
  go_ret
  exact ⟨by simp, rfl⟩

theorem rung_small (n : Nat) (h : n < 9223372036854775808) : PL.rung n = n := Nat.mod_eq_of_lt h
theorem sval_small (n : Nat) (h : n < 9223372036854775808) : PL.sval n = n := by
  unfold PL.sval
  rw [if_neg (by omega), rung_small n h]
theorem sval_rung (b : Nat) : PL.sval (PL.rung b) = PL.rung b := sval_small _ (PL.rung_lt b)
theorem rung_rung (b : Nat) : PL.rung (PL.rung b) = PL.rung b := rung_small _ (PL.rung_lt b)
theorem notNaN_small (n : Nat) (h : n ≤ 9218868437227405312) : ¬ PL.isNaN n := by
  unfold PL.isNaN
  rw [rung_small n (by omega)]
  omega

theorem gt_max_core (b c i : Nat) (hi : i = c + 1) (hc : i = 9218868437227405312) : (Ieee.double.order (PL.rung b) c == some .gt) = decide (PL.rung b = i) := by
  have hl := PL.rung_lt b
  by_cases h : PL.isNaN (PL.rung b)
  · rw [PL.order_nan_left _ _ (by omega) h]
    unfold PL.isNaN at h
    rw [rung_rung] at h
    rw [decide_eq_false (by omega)]
    rfl
  · rw [PL.order_eq _ _ (by omega) (by omega) h (notNaN_small _ (by omega)), sval_rung, sval_small _ (by omega)]
    unfold PL.isNaN at h
    rw [rung_rung] at h
    by_cases e : PL.rung b = i
    · rw [Int.compare_eq_gt.2 (by omega), decide_eq_true e]; rfl
    · rw [decide_eq_false e]
      have : ¬ compare (PL.rung b : Int) c = .gt := by
        rw [Int.compare_eq_gt]; omega
      simpa using this

theorem gt_max (b : Nat) : (FloatKind.f64.format.order (PL.rung b) 9218868437227405311 == some .gt) = infB b := by
  rw [f64_fmt]
  exact gt_max_core b 9218868437227405311 9218868437227405312 (by omega) rfl

theorem isinf_any (b : Nat) (hb : b < 18446744073709551616) (w : World) :
    Calls Tryd.prog 61 #[.float .f64 b, .int .i64 0] w fun e w' => e = .returned (.bool (infB b)) ∧ w' = w := by
  have h := gt_max b
  go_enter Tryd.func61, Tryd.ntmps61
  go_wp2_with (go_at_call 62; refine (abs_any _ hb _).mono ?_; rintro e w' ⟨rfl, rfl⟩)
  go_ret
  exact ⟨rfl, rfl⟩

theorem wrap_sgn (b : Nat) (hb : b < 18446744073709551616) : decide (wrap64 (b : Int) < 0) = sgn b := by
  unfold sgn wrap64
  rw [Bool.eq_iff_iff]
  simp
  omega

theorem signbit_any (b : Nat) (hb : b < 18446744073709551616) (w : World) :
    Calls Tryd.prog 16 #[.float .f64 b] w fun e w' => e = .returned (.bool (sgn b)) ∧ w' = w := by
  have cb := call_bits
  have h := wrap_sgn b hb
  go_enter Tryd.func16, Tryd.ntmps16
  go_wp2_with fail
  go_ret
  exact ⟨rfl, rfl⟩

theorem finite_any (b : Nat) (hb : b < 18446744073709551616) (w : World) :
    Calls Tryd.prog 20 #[.float .f64 b] w fun e w' => e = .returned (.bool (!nanB b && !infB b)) ∧ w' = w := by
  go_enter Tryd.func20, Tryd.ntmps20
  cases hn : nanB b
  · go_wp2_with (first | (go_at_call 60; refine (isnan_any _ hb _).mono ?_; rintro e w' ⟨rfl, rfl⟩) | (go_at_call 61; refine (isinf_any _ hb _).mono ?_; rintro e w' ⟨rfl, rfl⟩))
    go_ret
    exact ⟨by simp, rfl⟩
  · go_wp2_with (first | (go_at_call 60; refine (isnan_any _ hb _).mono ?_; rintro e w' ⟨rfl, rfl⟩) | (go_at_call 61; refine (isinf_any _ hb _).mono ?_; rintro e w' ⟨rfl, rfl⟩))
    go_ret
    exact ⟨by simp, rfl⟩

/-! ### Kind, and the document's kind -/
def kindS (b : Nat) : Int := if PL.rung b = 0 then 3 else if PL.rung b < 4503599627370496 then 4 else if PL.rung b < 9218868437227405312 then 5 else if PL.rung b = 9218868437227405312 then 2 else 1

theorem kind_any (b : Nat) (hb : b < 18446744073709551616) (w : World) :
    Calls Tryd.prog 14 #[.float .f64 b] w fun e w' => e = .returned (.int .i64 (kindS b)) ∧ w' = w := by
  have hr : PL.rung b = expo b * 4503599627370496 + frac b := by unfold PL.rung expo frac; omega
  have hx : expo b ≤ 2047 := by unfold expo; omega
  have hf : frac b < 4503599627370496 := by unfold frac; omega
  have HK : Hid (kindS b = if PL.rung b = 0 then 3 else if PL.rung b < 4503599627370496 then 4 else if PL.rung b < 9218868437227405312 then 5 else if PL.rung b = 9218868437227405312 then 2 else 1) := rfl
  have HR : Hid (PL.rung b = expo b * 4503599627370496 + frac b) := hr
  have HS := fun w => split_any b hb w
  clear hr
  generalize kindS b = k at *
  generalize PL.rung b = r at *
  generalize expo b = x at *
  generalize frac b = f at *
  have HS' := Lib.hid HS
  clear HS
  by_cases x1 : x = 2047
  · by_cases f1 : f = 0
    · have hk : k = 2 := by rw [HK.out, HR.out]; subst x1 f1; rfl
      subst x1 f1 hk
      go_enter Tryd.func14, Tryd.ntmps14
      go_wp2_with (go_at_call 13; refine (HS'.out _).mono ?_; rintro e w' ⟨rfl, rfl⟩)
      go_ret
      exact ⟨rfl, rfl⟩
    · have hk : k = 1 := by rw [HK.out, HR.out]; subst x1; rw [if_neg (by omega), if_neg (by omega), if_neg (by omega), if_neg (by omega)]
      have f2 : ((f : Int) != 0) = true := by simp; omega
      subst x1 hk
      go_enter Tryd.func14, Tryd.ntmps14
      go_wp2_with (go_at_call 13; refine (HS'.out _).mono ?_; rintro e w' ⟨rfl, rfl⟩)
      go_ret
      exact ⟨rfl, rfl⟩
  · have x2 : ((x : Int) == 2047) = false := by simp; omega
    by_cases x3 : 0 < x
    · have hk : k = 5 := by rw [HK.out, HR.out, if_neg (by omega), if_neg (by omega), if_pos (by omega)]
      subst hk
      go_enter Tryd.func14, Tryd.ntmps14
      go_wp2_with (go_at_call 13; refine (HS'.out _).mono ?_; rintro e w' ⟨rfl, rfl⟩)
      go_ret
      exact ⟨rfl, rfl⟩
    · by_cases f1 : 0 < f
      · have hk : k = 4 := by rw [HK.out, HR.out, if_neg (by omega), if_pos (by omega)]
        subst hk
        go_enter Tryd.func14, Tryd.ntmps14
        go_wp2_with (go_at_call 13; refine (HS'.out _).mono ?_; rintro e w' ⟨rfl, rfl⟩)
        go_ret
        exact ⟨rfl, rfl⟩
      · have hk : k = 3 := by rw [HK.out, HR.out, if_pos (by omega)]
        subst hk
        go_enter Tryd.func14, Tryd.ntmps14
        go_wp2_with (go_at_call 13; refine (HS'.out _).mono ?_; rintro e w' ⟨rfl, rfl⟩)
        go_ret
        exact ⟨rfl, rfl⟩
end Go.Proofs.YtjjfkidddjcdcaaDoor
