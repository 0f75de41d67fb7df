/- Proved here: plain facts on the words of floats of 64 bits: what they stand for, how they are ordered; no program in sight. Conditions: as each theorem says. -/
import Derived.Test.YtjjfkidddjcdcaaDoorEncPlain
namespace Go.Proofs.YtjjfkidddjcdcaaDoor.PL
open Ieee

/-- the mantissa and the place of a rung -/
def mant (r : Nat) : Nat := if r < 4503599627370496 then r else 4503599627370496 + r % 4503599627370496
def place (r : Nat) : Int := -1074 + (r / 4503599627370496 - 1 : Nat)

/-- a word's rung; its number in the order of floats -/
def rung (b : Nat) : Nat := b % 9223372036854775808
def isNeg (b : Nat) : Bool := decide (9223372036854775808 ≤ b)
def sval (b : Nat) : Int := if 9223372036854775808 ≤ b then -(rung b : Int) else rung b
def isNaN (b : Nat) : Prop := 9218868437227405312 < rung b

theorem dbl : double = fmt 11 52 := rfl
theorem dbl_sw : double.signWeight = 9223372036854775808 := by decide
theorem dbl_bin : double.binade = 4503599627370496 := by decide
theorem dbl_inf : double.infRung = 9218868437227405312 := by decide
theorem dbl_least : double.leastPlace = -1074 := by decide

theorem neg_eq (b : Nat) (hb : b < 18446744073709551616) : (b / 9223372036854775808 % 2 == 1) = isNeg b := by
  unfold isNeg
  rw [Bool.eq_iff_iff]
  simp
  omega

theorem read_fin (b : Nat) (hb : b < 18446744073709551616) (h : rung b < 9218868437227405312) : double.read b = .number (isNeg b) (mant (rung b)) (place (rung b)) := by
  unfold Format.read
  simp only [dbl_sw, dbl_bin, dbl_inf, dbl_least, neg_eq b hb]
  change (if rung b < 4503599627370496 then _ else _) = _
  unfold mant place
  by_cases h1 : rung b < 4503599627370496
  · rw [if_pos h1, if_pos h1, Nat.div_eq_of_lt h1]
    rfl
  · rw [if_neg h1, if_neg h1]
    change (if rung b < 9218868437227405312 then _ else _) = _
    rw [if_pos h]
    rfl

theorem read_inf (b : Nat) (hb : b < 18446744073709551616) (h : rung b = 9218868437227405312) : double.read b = .infinity (isNeg b) := by
  unfold Format.read
  simp only [dbl_sw, dbl_bin, dbl_inf, dbl_least, neg_eq b hb]
  change (if rung b < 4503599627370496 then _ else if rung b < 9218868437227405312 then _ else if rung b = 9218868437227405312 then _ else _) = _
  rw [if_neg (by omega), if_neg (by omega), if_pos h]

theorem read_nan (b : Nat) (hb : b < 18446744073709551616) (h : isNaN b) : double.read b = .nan (isNeg b) (rung b - 9218868437227405312) := by
  unfold isNaN at h
  unfold Format.read
  simp only [dbl_sw, dbl_bin, dbl_inf, dbl_least, neg_eq b hb]
  change (if rung b < 4503599627370496 then _ else if rung b < 9218868437227405312 then _ else if rung b = 9218868437227405312 then _ else _) = _
  rw [if_neg (by omega), if_neg (by omega), if_neg (by omega)]
  rfl

/-- a finite word is the nearest one of what it stands for -/
theorem rung_back (r : Nat) (h : r < 9218868437227405312) : rungOf double (mant r) (place r) = r := by
  unfold mant place
  by_cases h1 : r < 4503599627370496
  · rw [if_pos h1, Nat.div_eq_of_lt h1]
    by_cases h0 : r = 0
    · subst h0; rw [rung_zero]
    · rw [rung_norm double r _ h0 (by show r < 2 ^ 53; omega) (by rw [dbl_least]; omega) (.inl (by rw [dbl_least]; omega)), dbl_least, dbl_bin, dbl_inf]
      omega
  · rw [if_neg h1]
    rw [rung_norm double _ _ (by omega) (by show _ < 2 ^ 53; omega) (by rw [dbl_least]; omega) (.inr (by show 2 ^ 52 ≤ _; omega)), dbl_least, dbl_bin, dbl_inf]
    have h2 : (-1074 + ((r / 4503599627370496 - 1 : Nat) : Int) - -1074).toNat = r / 4503599627370496 - 1 := by omega
    rw [h2]
    omega

/-- what a rung stands for, in units of the least place -/
def unit (r : Nat) : Nat := mant r * 2 ^ (r / 4503599627370496 - 1)

theorem unit_lt (r s : Nat) (h : r < s) : unit r < unit s := by
  unfold unit mant
  by_cases h1 : s < 4503599627370496
  · rw [if_pos h1, if_pos (by omega), Nat.div_eq_of_lt h1, Nat.div_eq_of_lt (by omega)]
    simpa using h
  rw [if_neg h1]
  have p1 := Nat.two_pow_pos (s / 4503599627370496 - 1)
  by_cases h2 : r < 4503599627370496
  · rw [if_pos h2, Nat.div_eq_of_lt h2]
    have : 4503599627370496 * 1 ≤ (4503599627370496 + s % 4503599627370496) * 2 ^ (s / 4503599627370496 - 1) := Nat.mul_le_mul (by omega) p1
    simp
    omega
  rw [if_neg h2]
  by_cases h3 : r / 4503599627370496 = s / 4503599627370496
  · rw [h3]
    exact Nat.mul_lt_mul_of_pos_right (by omega) p1
  · have h4 : r / 4503599627370496 - 1 + 1 ≤ s / 4503599627370496 - 1 := by omega
    have h5 : 2 ^ (r / 4503599627370496 - 1) * 2 ≤ 2 ^ (s / 4503599627370496 - 1) := by
      rw [← Nat.pow_succ]; exact pow_bound _ _ h4
    have p2 := Nat.two_pow_pos (r / 4503599627370496 - 1)
    have a : (4503599627370496 + r % 4503599627370496) * 2 ^ (r / 4503599627370496 - 1) < 9007199254740992 * 2 ^ (r / 4503599627370496 - 1) := Nat.mul_lt_mul_of_pos_right (by omega) p2
    have b : 4503599627370496 * 2 ^ (s / 4503599627370496 - 1) ≤ (4503599627370496 + s % 4503599627370496) * 2 ^ (s / 4503599627370496 - 1) := Nat.mul_le_mul_right _ (by omega)
    omega

theorem signed_scale (neg : Bool) (m u k : Nat) : signed neg m (u + k) = signed neg m u * (2 ^ k : Nat) := by
  unfold signed
  simp only [Nat.shiftLeft_eq, Nat.pow_add, ← Nat.mul_assoc]
  cases neg <;> simp [Int.neg_mul]

theorem compare_scale (a b : Int) (p : Nat) (hp : 0 < p) : compare (a * p) (b * p) = compare a b := by
  have hp' : (0 : Int) < p := by omega
  rcases Int.lt_trichotomy a b with h | h | h
  · rw [Int.compare_eq_lt.2 h, Int.compare_eq_lt.2 (Int.mul_lt_mul_of_pos_right h hp')]
  · subst h; rw [Int.compare_eq_eq.2 rfl, Int.compare_eq_eq.2 rfl]
  · rw [Int.compare_eq_gt.2 h, Int.compare_eq_gt.2 (Int.mul_lt_mul_of_pos_right h hp')]

def sgned (neg : Bool) (r : Nat) : Int := if neg then -(r : Int) else r

theorem sval_eq (b : Nat) : sval b = sgned (isNeg b) (rung b) := by
  unfold sval sgned isNeg
  by_cases h : 9223372036854775808 ≤ b <;> simp [h]

theorem unit_zero : unit 0 = 0 := by decide

theorem compare_unit (s t : Bool) (r q : Nat) : compare (sgned s (unit r)) (sgned t (unit q)) = compare (sgned s r) (sgned t q) := by
  have h0 := unit_zero
  have hr : 0 < r → 0 < unit r := fun h => by have := unit_lt 0 r h; omega
  have hq : 0 < q → 0 < unit q := fun h => by have := unit_lt 0 q h; omega
  have hr0 : r = 0 → unit r = 0 := fun h => by subst h; exact h0
  have hq0 : q = 0 → unit q = 0 := fun h => by subst h; exact h0
  have lt1 := unit_lt r q
  have lt2 := unit_lt q r
  have e : r = q → unit r = unit q := fun h => by rw [h]
  rcases Int.lt_trichotomy (sgned s r) (sgned t q) with h | h | h
  · rw [Int.compare_eq_lt.2 h, Int.compare_eq_lt]
    revert h
    unfold sgned
    cases s <;> cases t <;> simp <;> omega
  · rw [Int.compare_eq_eq.2 h, Int.compare_eq_eq]
    revert h
    unfold sgned
    cases s <;> cases t <;> simp <;> omega
  · rw [Int.compare_eq_gt.2 h, Int.compare_eq_gt]
    revert h
    unfold sgned
    cases s <;> cases t <;> simp <;> omega

theorem signed_unit (s : Bool) (r : Nat) : signed s (mant r) (r / 4503599627370496 - 1) = sgned s (unit r) := by
  unfold signed sgned unit
  rw [Nat.shiftLeft_eq]

theorem rung_lt (b : Nat) : rung b < 9223372036854775808 := Nat.mod_lt _ (by decide)

theorem order_eq (x y : Nat) (hx : x < 18446744073709551616) (hy : y < 18446744073709551616) (nx : ¬ isNaN x) (ny : ¬ isNaN y) : double.order x y = some (compare (sval x) (sval y)) := by
  unfold isNaN at nx ny
  unfold Format.order
  rw [sval_eq, sval_eq]
  by_cases fx : rung x < 9218868437227405312
  · rw [read_fin x hx fx]
    by_cases fy : rung y < 9218868437227405312
    · rw [read_fin y hy fy]
      unfold Datum.order
      simp only []
      congr 1
      generalize rung x = r at *
      generalize rung y = q at *
      generalize isNeg x = s at *
      generalize isNeg y = t at *
      obtain ⟨k, hk⟩ : ∃ k : Nat, (k : Int) = min (place r) (place q) + 1074 := ⟨(min (place r) (place q) + 1074).toNat, by unfold place; omega⟩
      rw [← compare_unit, ← signed_unit, ← signed_unit, ← compare_scale _ _ (2 ^ k) (Nat.two_pow_pos k), ← signed_scale, ← signed_scale]
      have e1 : (place r - min (place r) (place q)).toNat + k = r / 4503599627370496 - 1 := by unfold place at *; omega
      have e2 : (place q - min (place r) (place q)).toNat + k = q / 4503599627370496 - 1 := by unfold place at *; omega
      rw [e1, e2]
    · rw [read_inf y hy (by omega)]
      unfold Datum.order
      simp only []
      congr 1
      unfold sgned
      cases isNeg y <;> cases isNeg x <;> simp <;> (first | (rw [eq_comm, Int.compare_eq_lt]; omega) | (rw [eq_comm, Int.compare_eq_gt]; omega))
  · rw [read_inf x hx (by omega)]
    by_cases fy : rung y < 9218868437227405312
    · rw [read_fin y hy fy]
      unfold Datum.order
      simp only []
      congr 1
      unfold sgned
      cases isNeg x <;> cases isNeg y <;> simp <;> (first | (rw [eq_comm, Int.compare_eq_lt]; omega) | (rw [eq_comm, Int.compare_eq_gt]; omega))
    · rw [read_inf y hy (by omega)]
      unfold Datum.order
      simp only []
      congr 1
      unfold sgned
      have e1 : rung x = 9218868437227405312 := by omega
      have e2 : rung y = 9218868437227405312 := by omega
      rw [e1, e2]
      cases isNeg x <;> cases isNeg y <;> decide

theorem order_nan_left (x y : Nat) (hx : x < 18446744073709551616) (nx : isNaN x) : double.order x y = none := by
  unfold Format.order
  rw [read_nan x hx nx]
  unfold Datum.order
  cases double.read y <;> rfl

theorem order_nan_right (x y : Nat) (hy : y < 18446744073709551616) (ny : isNaN y) : double.order x y = none := by
  unfold Format.order
  rw [read_nan y hy ny]
  unfold Datum.order
  cases double.read x <;> rfl
end Go.Proofs.YtjjfkidddjcdcaaDoor.PL
