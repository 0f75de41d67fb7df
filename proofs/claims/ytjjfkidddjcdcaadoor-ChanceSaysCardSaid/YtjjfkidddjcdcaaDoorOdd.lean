/- Proved here: contracts of the library's math functions IsNaN, IsInf, Abs, Signbit, Copysign, Inf, NaN, Nextafter, normalize at this program. Conditions: the arguments are words of 64 bits.
   Proved here: contracts of math.Frexp and of the document's KindOf and Odd at this program. Conditions: the arguments are words of 64 bits.
   Proved here: contracts of math.normalize, math.Frexp and of the document's Odd at this program. Conditions: the arguments are words of 64 bits, finite and not nought where a theorem says so. -/
import Derived.Test.YtjjfkidddjcdcaaDoorMul
import Derived.Test.YtjjfkidddjcdcaaDoorWhole
import Derived.Laws.FloatArith
namespace Go.Proofs.YtjjfkidddjcdcaaDoor
open Go.ChangeShapes Go.WideShapes Go.ChangeAt Go.RowKit

def nanB (b : Nat) : Bool := decide (9218868437227405312 < PL.rung b)
def infB (b : Nat) : Bool := decide (PL.rung b = 9218868437227405312)

theorem f64_fmt : FloatKind.f64.format = Ieee.double := rfl

theorem neq_self (b : Nat) (hb : b < 18446744073709551616) : (FloatKind.f64.format.order b b != some .eq) = nanB b := by
  rw [f64_fmt]
  by_cases h : PL.isNaN b
  · rw [PL.order_nan_left b b hb h]
    unfold nanB PL.isNaN at *
    simp [h]
  · rw [PL.order_eq b b hb hb h h, Int.compare_eq_eq.2 rfl]
    unfold nanB PL.isNaN at *
    simp; omega

theorem isnan_any (b : Nat) (hb : b < 18446744073709551616) (w : World) :
    Calls Tryd.prog 60 #[.float .f64 b] w fun e w' => e = .returned (.bool (nanB b)) ∧ w' = w := by
  have h := neq_self b hb
  go_enter Tryd.func60, Tryd.ntmps60
  go_wp2_with fail
  go_ret
  exact ⟨rfl, rfl⟩

theorem and_abs (b : Nat) (hb : b < 18446744073709551616) : bits .andNot .u64 (b : Int) 9223372036854775808 = ((PL.rung b : Nat) : Int) := by
  have := u64_andNot_nat b 9223372036854775808 hb (by omega)
  rw [show (18446744073709551615 - 9223372036854775808 : Nat) = 9223372036854775807 by decide, show b &&& 9223372036854775807 = b % 9223372036854775808 from Nat.and_two_pow_sub_one_eq_mod b 63] at this
  exact this

theorem abs_any (b : Nat) (hb : b < 18446744073709551616) (w : World) :
    Calls Tryd.prog 62 #[.float .f64 b] w fun e w' => e = .returned (.float .f64 (PL.rung b)) ∧ w' = w := by
  have cb := call_bits
  have cf := call_float
  have h := and_abs b hb
  go_enter Tryd.func62, Tryd.ntmps62
  go_wp2_with fail
  go_ret
  exact ⟨by simp, rfl⟩

theorem rung_small (n : Nat) (h : n < 9223372036854775808) : PL.rung n = n := Nat.mod_eq_of_lt h
theorem sval_small (n : Nat) (h : n < 9223372036854775808) : PL.sval n = n := by
  unfold PL.sval
  rw [if_neg (by omega), rung_small n h]
theorem sval_rung (b : Nat) : PL.sval (PL.rung b) = PL.rung b := sval_small _ (PL.rung_lt b)
theorem rung_rung (b : Nat) : PL.rung (PL.rung b) = PL.rung b := rung_small _ (PL.rung_lt b)
theorem notNaN_small (n : Nat) (h : n ≤ 9218868437227405312) : ¬ PL.isNaN n := by
  unfold PL.isNaN
  rw [rung_small n (by omega)]
  omega

theorem gt_max_core (b c i : Nat) (hi : i = c + 1) (hc : i = 9218868437227405312) : (Ieee.double.order (PL.rung b) c == some .gt) = decide (PL.rung b = i) := by
  have hl := PL.rung_lt b
  by_cases h : PL.isNaN (PL.rung b)
  · rw [PL.order_nan_left _ _ (by omega) h]
    unfold PL.isNaN at h
    rw [rung_rung] at h
    rw [decide_eq_false (by omega)]
    rfl
  · rw [PL.order_eq _ _ (by omega) (by omega) h (notNaN_small _ (by omega)), sval_rung, sval_small _ (by omega)]
    unfold PL.isNaN at h
    rw [rung_rung] at h
    by_cases e : PL.rung b = i
    · rw [Int.compare_eq_gt.2 (by omega), decide_eq_true e]; rfl
    · rw [decide_eq_false e]
      have : ¬ compare (PL.rung b : Int) c = .gt := by
        rw [Int.compare_eq_gt]; omega
      simpa using this

theorem gt_max (b : Nat) : (FloatKind.f64.format.order (PL.rung b) 9218868437227405311 == some .gt) = infB b := by
  rw [f64_fmt]
  exact gt_max_core b 9218868437227405311 9218868437227405312 (by omega) rfl

theorem isinf_any (b : Nat) (hb : b < 18446744073709551616) (w : World) :
    Calls Tryd.prog 61 #[.float .f64 b, .int .i64 0] w fun e w' => e = .returned (.bool (infB b)) ∧ w' = w := by
  have h := gt_max b
  go_enter Tryd.func61, Tryd.ntmps61
  go_wp2_with (go_at_call 62; refine (abs_any _ hb _).mono ?_; rintro e w' ⟨rfl, rfl⟩)
  go_ret
  exact ⟨rfl, rfl⟩

theorem wrap_sgn (b : Nat) (hb : b < 18446744073709551616) : decide (wrap64 (b : Int) < 0) = sgn b := by
  unfold sgn wrap64
  rw [Bool.eq_iff_iff]
  simp
  omega

theorem signbit_any (b : Nat) (hb : b < 18446744073709551616) (w : World) :
    Calls Tryd.prog 16 #[.float .f64 b] w fun e w' => e = .returned (.bool (sgn b)) ∧ w' = w := by
  have cb := call_bits
  have h := wrap_sgn b hb
  go_enter Tryd.func16, Tryd.ntmps16
  go_wp2_with fail
  go_ret
  exact ⟨rfl, rfl⟩

theorem finite_any (b : Nat) (hb : b < 18446744073709551616) (w : World) :
    Calls Tryd.prog 20 #[.float .f64 b] w fun e w' => e = .returned (.bool (!nanB b && !infB b)) ∧ w' = w := by
  go_enter Tryd.func20, Tryd.ntmps20
  cases hn : nanB b
  · go_wp2_with (first | (go_at_call 60; refine (isnan_any _ hb _).mono ?_; rintro e w' ⟨rfl, rfl⟩) | (go_at_call 61; refine (isinf_any _ hb _).mono ?_; rintro e w' ⟨rfl, rfl⟩))
    go_ret
    exact ⟨by simp, rfl⟩
  · go_wp2_with (first | (go_at_call 60; refine (isnan_any _ hb _).mono ?_; rintro e w' ⟨rfl, rfl⟩) | (go_at_call 61; refine (isinf_any _ hb _).mono ?_; rintro e w' ⟨rfl, rfl⟩))
    go_ret
    exact ⟨by simp, rfl⟩

/-! ### Kind, and the document's kind -/
def kindS (b : Nat) : Int := if PL.rung b = 0 then 3 else if PL.rung b < 4503599627370496 then 4 else if PL.rung b < 9218868437227405312 then 5 else if PL.rung b = 9218868437227405312 then 2 else 1

theorem kind_any (b : Nat) (hb : b < 18446744073709551616) (w : World) :
    Calls Tryd.prog 14 #[.float .f64 b] w fun e w' => e = .returned (.int .i64 (kindS b)) ∧ w' = w := by
  have hr : PL.rung b = expo b * 4503599627370496 + frac b := by unfold PL.rung expo frac; omega
  have hx : expo b ≤ 2047 := by unfold expo; omega
  have hf : frac b < 4503599627370496 := by unfold frac; omega
  have HK : Hid (kindS b = if PL.rung b = 0 then 3 else if PL.rung b < 4503599627370496 then 4 else if PL.rung b < 9218868437227405312 then 5 else if PL.rung b = 9218868437227405312 then 2 else 1) := rfl
  have HR : Hid (PL.rung b = expo b * 4503599627370496 + frac b) := hr
  have HS := fun w => split_any b hb w
  clear hr
  generalize kindS b = k at *
  generalize PL.rung b = r at *
  generalize expo b = x at *
  generalize frac b = f at *
  have HS' := Lib.hid HS
  clear HS
  by_cases x1 : x = 2047
  · by_cases f1 : f = 0
    · have hk : k = 2 := by rw [HK.out, HR.out]; subst x1 f1; rfl
      subst x1 f1 hk
      go_enter Tryd.func14, Tryd.ntmps14
      go_wp2_with (go_at_call 13; refine (HS'.out _).mono ?_; rintro e w' ⟨rfl, rfl⟩)
      go_ret
      exact ⟨rfl, rfl⟩
    · have hk : k = 1 := by rw [HK.out, HR.out]; subst x1; rw [if_neg (by omega), if_neg (by omega), if_neg (by omega), if_neg (by omega)]
      have f2 : ((f : Int) != 0) = true := by simp; omega
      subst x1 hk
      go_enter Tryd.func14, Tryd.ntmps14
      go_wp2_with (go_at_call 13; refine (HS'.out _).mono ?_; rintro e w' ⟨rfl, rfl⟩)
      go_ret
      exact ⟨rfl, rfl⟩
  · have x2 : ((x : Int) == 2047) = false := by simp; omega
    by_cases x3 : 0 < x
    · have hk : k = 5 := by rw [HK.out, HR.out, if_neg (by omega), if_neg (by omega), if_pos (by omega)]
      subst hk
      go_enter Tryd.func14, Tryd.ntmps14
      go_wp2_with (go_at_call 13; refine (HS'.out _).mono ?_; rintro e w' ⟨rfl, rfl⟩)
      go_ret
      exact ⟨rfl, rfl⟩
    · by_cases f1 : 0 < f
      · have hk : k = 4 := by rw [HK.out, HR.out, if_neg (by omega), if_pos (by omega)]
        subst hk
        go_enter Tryd.func14, Tryd.ntmps14
        go_wp2_with (go_at_call 13; refine (HS'.out _).mono ?_; rintro e w' ⟨rfl, rfl⟩)
        go_ret
        exact ⟨rfl, rfl⟩
      · have hk : k = 3 := by rw [HK.out, HR.out, if_pos (by omega)]
        subst hk
        go_enter Tryd.func14, Tryd.ntmps14
        go_wp2_with (go_at_call 13; refine (HS'.out _).mono ?_; rintro e w' ⟨rfl, rfl⟩)
        go_ret
        exact ⟨rfl, rfl⟩
end Go.Proofs.YtjjfkidddjcdcaaDoor

namespace Go.Proofs.YtjjfkidddjcdcaaDoor
open Go.ChangeShapes Go.WideShapes Go.ChangeAt Go.RowKit

theorem eq_zero (b : Nat) (hb : b < 18446744073709551616) : (FloatKind.f64.format.order b 0 == some .eq) = decide (PL.rung b = 0) := by
  have hl := PL.rung_lt b
  rw [f64_fmt]
  by_cases h : PL.isNaN b
  · rw [PL.order_nan_left _ _ hb h]
    unfold PL.isNaN at h
    rw [decide_eq_false (by omega)]
    rfl
  · rw [PL.order_eq _ _ hb (by omega) h (notNaN_small _ (by omega)), sval_small 0 (by omega)]
    by_cases e : PL.rung b = 0
    · have : PL.sval b = 0 := by unfold PL.sval; split <;> omega
      rw [this, decide_eq_true e]; rfl
    · rw [decide_eq_false e]
      have : ¬ compare (PL.sval b) (0 : Nat) = .eq := by
        rw [Int.compare_eq_eq]
        unfold PL.sval
        split <;> omega
      simpa using this

theorem lt_core (b c : Nat) (hc : c < 9218868437227405312) (h : ¬ PL.isNaN b) : (Ieee.double.order (PL.rung b) c == some .lt) = decide (PL.rung b < c) := by
  have hl := PL.rung_lt b
  have h' : ¬ PL.isNaN (PL.rung b) := by unfold PL.isNaN at *; rw [rung_rung]; exact h
  rw [PL.order_eq _ _ (by omega) (by omega) h' (notNaN_small _ (by omega)), sval_rung, sval_small c (by omega)]
  by_cases e : PL.rung b < c
  · rw [Int.compare_eq_lt.2 (by omega), decide_eq_true e]; rfl
  · rw [decide_eq_false e]
    have : ¬ compare (PL.rung b : Int) c = .lt := by
      rw [Int.compare_eq_lt]; omega
    simpa using this

theorem lt_norm (b : Nat) (h : ¬ PL.isNaN b) : (FloatKind.f64.format.order (PL.rung b) 4503599627370496 == some .lt) = decide (PL.rung b < 4503599627370496) := by
  rw [f64_fmt]
  exact lt_core b 4503599627370496 (by omega) h

theorem kindof_any (b : Nat) (hb : b < 18446744073709551616) (w : World) :
    Calls Tryd.prog 15 #[.float .f64 b] w fun e w' => e = .returned (.int .i64 (kindS b)) ∧ w' = w := by
  have z := eq_zero b hb
  have c1 := fun w => isnan_any b hb w
  have c2 := fun w => isinf_any b hb w
  have c3 := fun w => abs_any b hb w
  have HK : Hid (kindS b = if PL.rung b = 0 then 3 else if PL.rung b < 4503599627370496 then 4 else if PL.rung b < 9218868437227405312 then 5 else if PL.rung b = 9218868437227405312 then 2 else 1) := rfl
  have hn : nanB b = decide (9218868437227405312 < PL.rung b) := rfl
  have hi : infB b = decide (PL.rung b = 9218868437227405312) := rfl
  have hlt := lt_norm b
  unfold PL.isNaN at hlt
  have C1 := Lib.hid c1
  have C2 := Lib.hid c2
  have C3 := Lib.hid c3
  clear c1 c2 c3
  generalize kindS b = k at *
  generalize nanB b = n at *
  generalize infB b = i at *
  generalize PL.rung b = r at *
  by_cases r1 : 9218868437227405312 < r
  · have hk : k = 1 := by rw [HK.out, if_neg (by omega), if_neg (by omega), if_neg (by omega), if_neg (by omega)]
    obtain rfl : n = true := by rw [hn]; simpa using r1
    subst hk
    clear z hi hlt hn
    go_enter Tryd.func15, Tryd.ntmps15
    go_wp2_with (first | (go_at_call 60; refine (C1.out _).mono ?_; rintro e w' ⟨rfl, rfl⟩))
    go_ret
    exact ⟨rfl, rfl⟩
  obtain rfl : n = false := by rw [hn]; simpa using r1
  have hlt' := hlt r1
  clear hlt hn
  by_cases r2 : r = 9218868437227405312
  · have hk : k = 2 := by rw [HK.out, if_neg (by omega), if_neg (by omega), if_neg (by omega), if_pos r2]
    obtain rfl : i = true := by rw [hi]; simpa using r2
    subst hk
    clear z hi hlt' r2
    go_enter Tryd.func15, Tryd.ntmps15
    go_wp2_with (first | (go_at_call 60; refine (C1.out _).mono ?_; rintro e w' ⟨rfl, rfl⟩) | (go_at_call 61; refine (C2.out _).mono ?_; rintro e w' ⟨rfl, rfl⟩))
    go_ret
    exact ⟨rfl, rfl⟩
  obtain rfl : i = false := by rw [hi]; simpa using r2
  clear hi
  by_cases r3 : r = 0
  · have hk : k = 3 := by rw [HK.out, if_pos r3]
    rw [decide_eq_true r3] at z
    subst hk
    clear hlt' r2 r3
    go_enter Tryd.func15, Tryd.ntmps15
    go_wp2_with (first | (go_at_call 60; refine (C1.out _).mono ?_; rintro e w' ⟨rfl, rfl⟩) | (go_at_call 61; refine (C2.out _).mono ?_; rintro e w' ⟨rfl, rfl⟩))
    go_ret
    exact ⟨rfl, rfl⟩
  rw [decide_eq_false r3] at z
  by_cases r4 : r < 4503599627370496
  · have hk : k = 4 := by rw [HK.out, if_neg r3, if_pos r4]
    rw [decide_eq_true r4] at hlt'
    subst hk
    clear r2 r3 r4
    go_enter Tryd.func15, Tryd.ntmps15
    go_wp2_with (first | (go_at_call 60; refine (C1.out _).mono ?_; rintro e w' ⟨rfl, rfl⟩) | (go_at_call 61; refine (C2.out _).mono ?_; rintro e w' ⟨rfl, rfl⟩) | (go_at_call 62; refine (C3.out _).mono ?_; rintro e w' ⟨rfl, rfl⟩))
    go_ret
    exact ⟨rfl, rfl⟩
  · have hk : k = 5 := by rw [HK.out, if_neg r3, if_neg r4, if_pos (by omega)]
    rw [decide_eq_false r4] at hlt'
    subst hk
    clear r2 r3 r4
    go_enter Tryd.func15, Tryd.ntmps15
    go_wp2_with (first | (go_at_call 60; refine (C1.out _).mono ?_; rintro e w' ⟨rfl, rfl⟩) | (go_at_call 61; refine (C2.out _).mono ?_; rintro e w' ⟨rfl, rfl⟩) | (go_at_call 62; refine (C3.out _).mono ?_; rintro e w' ⟨rfl, rfl⟩))
    go_ret
    exact ⟨rfl, rfl⟩
end Go.Proofs.YtjjfkidddjcdcaaDoor

namespace Go.Proofs.YtjjfkidddjcdcaaDoor
open Go.ChangeShapes Go.WideShapes Go.ChangeAt Go.RowKit

theorem isNeg_sgn (b : Nat) : PL.isNeg b = sgn b := rfl

/-- The normal word that math.normalize gives, and its power. -/
def normW (b : Nat) : Nat := if PL.rung b < 4503599627370496 then (if sgn b then 9223372036854775808 else 0) + PL.rungOf Ieee.double (PL.rung b <<< 52) (-1074) else b
def normE (b : Nat) : Int := if PL.rung b < 4503599627370496 then -52 else 0

theorem mul_pow52 (b : Nat) (hb : b < 18446744073709551616) (h : PL.rung b < 4503599627370496) : floatBits .mul .f64 b 4841369599423283200 = some (normW b) := by
  have hy : PL.rung 4841369599423283200 = 1075 * 4503599627370496 + 0 := rung_small _ (by omega)
  show Ieee.double.mul b 4841369599423283200 = _
  rw [PL.mul_fin b _ hb (by omega) (by omega) (by omega), hy, PL.mant_norm 1075 0 (by omega) (by omega), PL.place_norm 1075 0 (by omega) (by omega), PL.mant_small _ h, PL.place_small _ h, isNeg_sgn]
  have hs : PL.isNeg 4841369599423283200 = false := decide_eq_false (by omega)
  rw [hs]
  unfold normW
  rw [if_pos h, Bool.xor_false, Nat.shiftLeft_eq]
  rfl

theorem normalize_any (b : Nat) (hb : b < 18446744073709551616) (hn : ¬ PL.isNaN b) (w : World) :
    Calls Tryd.prog 122 #[.float .f64 b] w fun e w' => e = .returned (.tuple #[.float .f64 (normW b), .int .i64 (normE b)]) ∧ w' = w := by
  have hlt := lt_norm b hn
  have C3 := Lib.hid (fun w => abs_any b hb w)
  by_cases h : PL.rung b < 4503599627370496
  · have hm : ∀ w, (binOp .mul 33 (.float .f64 b) (.float .f64 4841369599423283200)).run Tryd.prog w = .ok (.float .f64 (normW b)) w := fun w => run_float_arith w .mul 33 .f64 _ _ _ (mul_pow52 b hb h)
    have he : normE b = -52 := if_pos h
    rw [decide_eq_true h] at hlt
    rw [he]
    clear he h
    generalize normW b = N at *
    generalize PL.rung b = r at *
    go_enter Tryd.func122, Tryd.ntmps122
    go_wp2_with (first | (go_at_call 62; refine (C3.out _).mono ?_; rintro e w' ⟨rfl, rfl⟩))
    go_ret2
    exact ⟨rfl, rfl⟩
  · have he : normE b = 0 := if_neg h
    have hw : normW b = b := if_neg h
    rw [decide_eq_false h] at hlt
    rw [he, hw]
    clear he h hw
    generalize PL.rung b = r at *
    go_enter Tryd.func122, Tryd.ntmps122
    go_wp2_with (first | (go_at_call 62; refine (C3.out _).mono ?_; rintro e w' ⟨rfl, rfl⟩))
    go_ret2
    exact ⟨rfl, rfl⟩

theorem rung_shift52 (r : Nat) (h0 : 0 < r) (h : r < 4503599627370496) :
    PL.rungOf Ieee.double (r <<< 52) (-1074) = (r.log2 + 1) * 4503599627370496 + (r <<< (52 - r.log2) - 4503599627370496) ∧ r.log2 < 52 ∧ 4503599627370496 ≤ r <<< (52 - r.log2) ∧ r <<< (52 - r.log2) < 9007199254740992 := by
  have hl : r.log2 < 52 := (PL.log2_lt_iff r 52 (by omega)).2 h
  have hs := PL.shl_ne r (52 - r.log2) (by omega)
  have hlog := PL.log2_shl r (52 - r.log2) (by omega)
  have h1 : 2 ^ 52 ≤ r <<< (52 - r.log2) := (PL.le_log2_iff _ _ hs).1 (by omega)
  have h2 : r <<< (52 - r.log2) < 2 ^ 53 := (PL.log2_lt_iff _ _ hs).1 (by omega)
  refine ⟨?_, hl, h1, h2⟩
  have e : r <<< 52 = r <<< (52 - r.log2) <<< r.log2 := by rw [← Nat.shiftLeft_add]; congr 1; omega
  have e2 : (-1074 : Int) = (-1074 + (r.log2 : Int)) - r.log2 := by omega
  rw [e, e2, PL.rung_val, PL.rung_norm Ieee.double _ _ hs h2 (by rw [PL.dbl_least]; omega) (.inr h1), PL.dbl_least, PL.dbl_bin, PL.dbl_inf]
  have e3 : (-1074 + (r.log2 : Int) - -1074).toNat = r.log2 := by omega
  rw [e3]
  generalize r <<< (52 - r.log2) = s at *
  omega

/-- The mantissa, with its leading one, of what is finite and not nought; and the power of its last digit. -/
def bigM (b : Nat) : Nat := if PL.rung b < 4503599627370496 then PL.rung b <<< (52 - (PL.rung b).log2) else 4503599627370496 + PL.rung b % 4503599627370496
def bigE (b : Nat) : Int := if PL.rung b < 4503599627370496 then -1126 + ((PL.rung b).log2 : Int) else (expo b : Int) - 1075

theorem norm_parts (b : Nat) (hb : b < 18446744073709551616) (h0 : 0 < PL.rung b) (h : PL.rung b < 9218868437227405312) :
    normW b < 18446744073709551616 ∧ sgn (normW b) = sgn b ∧ frac (normW b) + 4503599627370496 = bigM b ∧ (expo (normW b) : Int) + normE b = bigE b + 1075 ∧ 1 ≤ expo (normW b) ∧ expo (normW b) ≤ 2046 ∧ bigM b < 9007199254740992 ∧ 4503599627370496 ≤ bigM b := by
  by_cases hs : PL.rung b < 4503599627370496
  · obtain ⟨e1, e2, e3, e4⟩ := rung_shift52 (PL.rung b) h0 hs
    unfold normW normE bigM bigE
    rw [if_pos hs, if_pos hs, if_pos hs, if_pos hs, e1]
    generalize PL.rung b <<< (52 - (PL.rung b).log2) = s at *
    generalize (PL.rung b).log2 = l at *
    clear e1
    have hsg : (if sgn b = true then 9223372036854775808 else 0) = 0 ∧ sgn b = false ∨ (if sgn b = true then 9223372036854775808 else 0) = 9223372036854775808 ∧ sgn b = true := by cases sgn b <;> simp
    generalize hq : (if sgn b = true then 9223372036854775808 else 0) = q at *
    refine ⟨by omega, ?_, ?_, ?_, ?_, ?_, by omega, by omega⟩
    · rcases hsg with ⟨a, c⟩ | ⟨a, c⟩
      · rw [c]; unfold sgn; rw [decide_eq_false]; omega
      · rw [c]; unfold sgn; rw [decide_eq_true]; omega
    · unfold frac; omega
    · unfold expo; omega
    · unfold expo; omega
    · unfold expo; omega
  · unfold normW normE bigM bigE
    rw [if_neg hs, if_neg hs, if_neg hs, if_neg hs]
    unfold PL.rung expo frac at *
    refine ⟨hb, rfl, ?_, ?_, ?_, ?_, ?_, ?_⟩ <;> omega

theorem andNot_exp (x : Nat) (hx : x < 18446744073709551616) : bits .andNot .u64 (x : Int) 9218868437227405312 = (((if sgn x then 9223372036854775808 else 0) + frac x : Nat) : Int) := by
  have h := u64_andNot_nat x 9218868437227405312 hx (by omega)
  rw [show (18446744073709551615 - 9218868437227405312 : Nat) = 2 ^ 63 ||| (2 ^ 52 - 1) by decide, Nat.and_or_distrib_left, nat_bit, Nat.and_two_pow_sub_one_eq_mod] at h
  refine h.trans ?_
  congr 1
  have hf : x % 2 ^ 52 < 2 ^ 52 := Nat.mod_lt _ (by decide)
  rw [nat_join 52 _ _ (by
    rw [show (2 : Nat) ^ 63 = 2 ^ 11 * 2 ^ 52 by decide, ← Nat.mul_assoc]
    exact Nat.mul_mod_left _ _) hf]
  unfold sgn frac
  by_cases h1 : 9223372036854775808 ≤ x
  · simp only [h1, decide_true, if_true]; omega
  · simp only [h1, decide_false, Bool.false_eq_true, if_false]; omega

theorem or_half (s : Bool) (f : Nat) (hf : f < 4503599627370496) :
    bits .or .u64 (((if s then 9223372036854775808 else 0) + f : Nat) : Int) 4602678819172646912 = ((wordOf s 1022 f : Nat) : Int) := by
  have h := u64_or_nat ((if s then 9223372036854775808 else 0) + f) 4602678819172646912 (by cases s <;> simp <;> omega) (by omega)
  refine h.trans ?_
  congr 1
  unfold wordOf
  have e1 : f ||| 4602678819172646912 = 4602678819172646912 + f := by
    rw [Nat.or_comm]; exact nat_join 52 4602678819172646912 f (by decide) (by omega)
  cases s
  · simp only [Bool.false_eq_true, if_false, Nat.zero_add]
    rw [e1]
  · simp only [if_true]
    rw [← nat_join 63 9223372036854775808 f (by decide) (by omega), Nat.or_assoc, e1, nat_join 63 9223372036854775808 _ (by decide) (by omega)]
    omega

theorem frexp_walk (b : Nat) (hb : b < 18446744073709551616) (h0 : 0 < PL.rung b) (h : PL.rung b < 9218868437227405312) (w : World) :
    Calls Tryd.prog 97 #[.float .f64 b] w fun e w' => e = .returned (.tuple #[.float .f64 (wordOf (sgn b) 1022 (bigM b - 4503599627370496)), .int .i64 (bigE b + 53)]) ∧ w' = w := by
  have z := eq_zero b hb
  rw [decide_eq_false (by omega)] at z
  have cb := call_bits
  have cf := call_float
  obtain ⟨p1, p2, p3, p4, p5, p6, p7, p8⟩ := norm_parts b hb h0 h
  have C1 := Lib.hid (fun w => isnan_any b hb w)
  have C2 := Lib.hid (fun w => isinf_any b hb w)
  have C3 := Lib.hid (fun w => normalize_any b hb (by unfold PL.isNaN; omega) w)
  have hn : nanB b = false := decide_eq_false (by omega)
  have hi : infB b = false := decide_eq_false (by omega)
  rw [hn] at C1
  rw [hi] at C2
  have a1 := andNot_exp (normW b) p1
  have hf : frac (normW b) = bigM b - 4503599627370496 := by omega
  rw [p2, hf] at a1
  have a2 := or_half (sgn b) (bigM b - 4503599627370496) (by omega)
  have a3 := and_2047 (normW b / 4503599627370496) (by omega)
  have a4 : bits .and .u64 ((normW b : Int) / 4503599627370496) 2047 = (expo (normW b) : Int) := a3
  have hwl : wordOf (sgn b) 1022 (bigM b - 4503599627370496) < 18446744073709551616 := by unfold wordOf; cases sgn b <;> simp <;> omega
  have hE : bigE b + 53 = normE b + ((expo (normW b) : Int) - 1022) := by omega
  have hne : -52 ≤ normE b ∧ normE b ≤ 0 := by unfold normE; split <;> omega
  rw [hE]
  clear a3 hE hf hn hi p3 p4 p7 p8 h0 h p2
  generalize wordOf (sgn b) 1022 (bigM b - 4503599627370496) = W at *
  generalize (if sgn b = true then 9223372036854775808 else 0) + (bigM b - 4503599627370496) = V at *
  generalize normE b = k at *
  generalize expo (normW b) = x at *
  generalize normW b = y at *
  obtain ⟨k1, k2⟩ := hne
  go_enter Tryd.func97, Tryd.ntmps97
  go_wp2_with (first | (go_at_call 60; refine (C1.out _).mono ?_; rintro e w' ⟨rfl, rfl⟩) | (go_at_call 61; refine (C2.out _).mono ?_; rintro e w' ⟨rfl, rfl⟩) | (go_at_call 122; refine (C3.out _).mono ?_; rintro e w' ⟨rfl, rfl⟩))
  go_ret2
  exact ⟨by simp; omega, rfl⟩

theorem frexp_any (b : Nat) (hb : b < 18446744073709551616) (h0 : 0 < PL.rung b) (h : PL.rung b < 9218868437227405312) (w : World) :
    Calls Tryd.prog 65 #[.float .f64 b] w fun e w' => e = .returned (.tuple #[.float .f64 (wordOf (sgn b) 1022 (bigM b - 4503599627370496)), .int .i64 (bigE b + 53)]) ∧ w' = w := by
  have C := Lib.hid (fun w => frexp_walk b hb h0 h w)
  clear h0 h
  generalize wordOf (sgn b) 1022 (bigM b - 4503599627370496) = W at *
  generalize bigE b + 53 = X at *
  go_enter Tryd.func65, Tryd.ntmps65
  go_wp2_with (first | (go_at_call 97; refine (C.out _).mono ?_; rintro e w' ⟨rfl, rfl⟩))
  go_ret2
  exact ⟨rfl, rfl⟩
end Go.Proofs.YtjjfkidddjcdcaaDoor
