/- Proved here: plain facts on a format's words as the program's encode makes them; no program in sight. Conditions: as each theorem says.
   Proved here: plain facts on the words of floats of 64 bits: what they stand for, how they are ordered; no program in sight. Conditions: as each theorem says.
   Proved here: plain facts on products of floats that come out whole; no program in sight. Conditions: as each theorem says. -/
import Derived.Test.YtjjfkidddjcdcaaDoorBits
namespace Go.Proofs.YtjjfkidddjcdcaaDoor.PL
open Ieee
open Go.RowKit (Hid wrap64)

def fmt (E F : Nat) : Format := { exponentBits := E, fractionBits := F }
def biasOf (E : Nat) : Nat := 2 ^ (E - 1) - 1

theorem least_eq (E F : Nat) : (fmt E F).leastPlace = 1 - (biasOf E : Int) - F := by
  unfold Format.leastPlace fmt biasOf
  have := Nat.two_pow_pos (E - 1)
  have h : (2 : Int) ^ (E - 1) = ((2 ^ (E - 1) : Nat) : Int) := pow_cast _
  simp only [h]
  generalize 2 ^ (E - 1) = p at *
  omega

theorem shl_ne (m k : Nat) (hm : m ≠ 0) : m <<< k ≠ 0 := by rw [Nat.shiftLeft_eq]; exact Nat.mul_ne_zero hm (Nat.ne_of_gt (Nat.two_pow_pos _))

theorem pow_bound (k n : Nat) (h : k ≤ n) : 2 ^ k ≤ 2 ^ n := Nat.pow_le_pow_right (by omega) h

/-- what the loops leave -/
theorem rung_of_loop (E F m k : Nat) (e last : Int) (hm0 : m ≠ 0) (hlast : last = max (e + m.log2 - F) (1 - (biasOf E : Int) - F)) (hk : (k : Int) = e - last) (hlg : m.log2 + k ≤ F) (hn : e - k = 1 - (biasOf E : Int) - F ∨ F < m.log2 + k + 1) :
    rungOf (fmt E F) m e = min ((e - k - (1 - (biasOf E : Int) - F)).toNat * 2 ^ F + m <<< k) ((2 ^ E - 1) * 2 ^ F) := by
  have hl : lastOf (fmt E F) m e = last := by
    unfold lastOf
    rw [least_eq, hlast]
    rfl
  rw [← rung_shl (fmt E F) m e k hm0 (by rw [hl]; omega)]
  have hlog := log2_shl m k hm0
  have h1 : m <<< k < 2 ^ (F + 1) := by
    rw [← log2_lt_iff _ _ (shl_ne m k hm0), hlog]
    omega
  rw [rung_norm (fmt E F) (m <<< k) (e - k) (shl_ne m k hm0) h1 (by rw [least_eq]; omega) ?_, least_eq]
  · rfl
  · rw [least_eq]
    rcases hn with hn | hn
    · exact .inl hn
    · right
      show 2 ^ F ≤ m <<< k
      rw [← le_log2_iff _ _ (shl_ne m k hm0), hlog]
      omega

theorem fin_low (E F m k : Nat) (e last : Int) (hE : 2 ≤ E) (hm0 : m ≠ 0) (hlast : last = max (e + m.log2 - F) (1 - (biasOf E : Int) - F)) (hk : (k : Int) = e - last) (hlF : m.log2 + k + 1 ≤ F) (hle : e - k ≤ 1 - (biasOf E : Int) - F) :
    rungOf (fmt E F) m e = m <<< k := by
  rw [rung_of_loop E F m k e last hm0 hlast hk (by omega) (.inl (by omega))]
  have h0 : (e - k - (1 - (biasOf E : Int) - F)).toNat = 0 := by omega
  have h1 : m <<< k < 2 ^ F := by
    rw [← log2_lt_iff _ _ (shl_ne m k hm0), log2_shl m k hm0]
    omega
  have h2 : 2 ^ 2 ≤ 2 ^ E := pow_bound 2 E hE
  have h3 : 1 * 2 ^ F ≤ (2 ^ E - 1) * 2 ^ F := Nat.mul_le_mul_right _ (by omega)
  rw [h0]
  generalize 2 ^ F = p at *
  generalize 2 ^ E = q at *
  generalize (q - 1) * p = r at *
  omega

theorem fin_norm (E F m k X : Nat) (e last : Int) (hm0 : m ≠ 0) (hlast : last = max (e + m.log2 - F) (1 - (biasOf E : Int) - F)) (hk : (k : Int) = e - last) (hlg : m.log2 + k = F) (hX : (X : Int) = e - k + F + biasOf E) :
    rungOf (fmt E F) m e = min (X * 2 ^ F + m <<< k % 2 ^ F) ((2 ^ E - 1) * 2 ^ F) := by
  rw [rung_of_loop E F m k e last hm0 hlast hk (by omega) (.inr (by omega))]
  have hlog := log2_shl m k hm0
  have h1 : 2 ^ F ≤ m <<< k := by
    rw [← le_log2_iff _ _ (shl_ne m k hm0), hlog]; omega
  have h2 : m <<< k < 2 ^ (F + 1) := by
    rw [← log2_lt_iff _ _ (shl_ne m k hm0), hlog]; omega
  have h3 : m <<< k % 2 ^ F = m <<< k - 2 ^ F := by
    rw [Nat.pow_succ] at h2
    rw [Nat.mod_eq_sub_mod h1, Nat.mod_eq_of_lt (by omega)]
  rw [h3]
  have h4 : (e - k - (1 - (biasOf E : Int) - F)).toNat = X - 1 := by omega
  have hX1 : 1 ≤ X := by omega
  obtain ⟨Y, rfl⟩ : ∃ Y, X = Y + 1 := ⟨X - 1, by omega⟩
  rw [h4, Nat.add_sub_cancel, Nat.add_mul]
  generalize 2 ^ F = p at *
  generalize Y * p = z at *
  congr 1
  omega

theorem fin_inf (E F m k X : Nat) (e last : Int) (hm0 : m ≠ 0) (hlast : last = max (e + m.log2 - F) (1 - (biasOf E : Int) - F)) (hk : (k : Int) = e - last) (hlg : m.log2 + k = F) (hX : (X : Int) = e - k + F + biasOf E)
    (hT : 2 ^ E - 1 ≤ X) : rungOf (fmt E F) m e = (2 ^ E - 1) * 2 ^ F := by
  rw [fin_norm E F m k X e last hm0 hlast hk hlg hX]
  have : (2 ^ E - 1) * 2 ^ F ≤ X * 2 ^ F := Nat.mul_le_mul_right _ hT
  omega

theorem fin_fin (E F m k X : Nat) (e last : Int) (hm0 : m ≠ 0) (hlast : last = max (e + m.log2 - F) (1 - (biasOf E : Int) - F)) (hk : (k : Int) = e - last) (hlg : m.log2 + k = F) (hX : (X : Int) = e - k + F + biasOf E)
    (hT : X < 2 ^ E - 1) : rungOf (fmt E F) m e = X * 2 ^ F + m <<< k % 2 ^ F := by
  rw [fin_norm E F m k X e last hm0 hlast hk hlg hX]
  have h1 : (X + 1) * 2 ^ F ≤ (2 ^ E - 1) * 2 ^ F := Nat.mul_le_mul_right _ hT
  have h2 : m <<< k % 2 ^ F < 2 ^ F := Nat.mod_lt _ (Nat.two_pow_pos _)
  rw [Nat.add_mul] at h1
  omega

theorem word_inf (E F : Nat) (hE1 : 2 ≤ E) (hE2 : E ≤ 11) (hF2 : F ≤ 52) :
    IntKind.u64.wrap (IntKind.u64.wrap (IntKind.u64.wrap (2 ^ E) - 1) * 2 ^ F) = (((2 ^ E - 1) * 2 ^ F : Nat) : Int) := by
  have h1 : 2 ^ E ≤ 2 ^ 11 := pow_bound _ _ hE2
  have h2 : 2 ^ F ≤ 2 ^ 52 := pow_bound _ _ hF2
  have h0 := Nat.two_pow_pos E
  have h3 : (2 ^ E - 1) * 2 ^ F ≤ 2 ^ 11 * 2 ^ 52 := Nat.mul_le_mul (by omega) h2
  have e1 : IntKind.u64.wrap (IntKind.u64.wrap (2 ^ E) - 1) = ((2 ^ E - 1 : Nat) : Int) := by
    rw [wrap_pow E (by omega), IntKind.wrap_u64]
    generalize 2 ^ E = p at *
    omega
  rw [e1, pow_cast F, ← Int.natCast_mul, IntKind.wrap_u64]
  generalize (2 ^ E - 1) * 2 ^ F = p at *
  omega

theorem word_fin (E F S X : Nat) (hE2 : E ≤ 11) (hF2 : F ≤ 52) (hS : S < 18446744073709551616) (hX : X < 2 ^ E - 1) :
    bits BinOp.or IntKind.u64 (IntKind.u64.wrap ((X : Int) * 2 ^ F)) (bits BinOp.and IntKind.u64 (S : Int) (IntKind.u64.wrap (IntKind.u64.wrap (2 ^ F) - 1))) = ((X * 2 ^ F + S % 2 ^ F : Nat) : Int) := by
  have h1 : 2 ^ E ≤ 2 ^ 11 := pow_bound _ _ hE2
  have h2 : 2 ^ F ≤ 2 ^ 52 := pow_bound _ _ hF2
  have h3 : X * 2 ^ F ≤ 2 ^ 11 * 2 ^ 52 := Nat.mul_le_mul (by omega) h2
  have h4 : S % 2 ^ F < 2 ^ F := Nat.mod_lt _ (Nat.two_pow_pos _)
  rw [and_mask S F hS (by omega), pow_cast F, ← Int.natCast_mul, IntKind.wrap_u64]
  have e1 : ((X * 2 ^ F : Nat) : Int) % 18446744073709551616 = ((X * 2 ^ F : Nat) : Int) := by
    generalize X * 2 ^ F = p at *
    omega
  rw [e1, u64_or_nat _ _ (by omega) (by omega), nat_join F _ _ (Nat.mul_mod_left _ _) h4]

theorem wrap64_pow (k : Nat) (h : k < 62) : wrap64 (wrap64 (2 ^ k) - 1) = ((2 ^ k - 1 : Nat) : Int) := by
  have h1 : 2 ^ k ≤ 2 ^ 61 := pow_bound _ _ (by omega)
  have h0 := Nat.two_pow_pos k
  rw [pow_cast]
  unfold wrap64
  generalize 2 ^ k = p at *
  omega
end Go.Proofs.YtjjfkidddjcdcaaDoor.PL

namespace Go.Proofs.YtjjfkidddjcdcaaDoor.PL
open Ieee

/-- the mantissa and the place of a rung -/
def mant (r : Nat) : Nat := if r < 4503599627370496 then r else 4503599627370496 + r % 4503599627370496
def place (r : Nat) : Int := -1074 + (r / 4503599627370496 - 1 : Nat)

/-- a word's rung; its number in the order of floats -/
def rung (b : Nat) : Nat := b % 9223372036854775808
def isNeg (b : Nat) : Bool := decide (9223372036854775808 ≤ b)
def sval (b : Nat) : Int := if 9223372036854775808 ≤ b then -(rung b : Int) else rung b
def isNaN (b : Nat) : Prop := 9218868437227405312 < rung b

theorem dbl : double = fmt 11 52 := rfl
theorem dbl_sw : double.signWeight = 9223372036854775808 := by decide
theorem dbl_bin : double.binade = 4503599627370496 := by decide
theorem dbl_inf : double.infRung = 9218868437227405312 := by decide
theorem dbl_least : double.leastPlace = -1074 := by decide

theorem neg_eq (b : Nat) (hb : b < 18446744073709551616) : (b / 9223372036854775808 % 2 == 1) = isNeg b := by
  unfold isNeg
  rw [Bool.eq_iff_iff]
  simp
  omega

theorem read_fin (b : Nat) (hb : b < 18446744073709551616) (h : rung b < 9218868437227405312) : double.read b = .number (isNeg b) (mant (rung b)) (place (rung b)) := by
  unfold Format.read
  simp only [dbl_sw, dbl_bin, dbl_inf, dbl_least, neg_eq b hb]
  change (if rung b < 4503599627370496 then _ else _) = _
  unfold mant place
  by_cases h1 : rung b < 4503599627370496
  · rw [if_pos h1, if_pos h1, Nat.div_eq_of_lt h1]
    rfl
  · rw [if_neg h1, if_neg h1]
    change (if rung b < 9218868437227405312 then _ else _) = _
    rw [if_pos h]
    rfl

theorem read_inf (b : Nat) (hb : b < 18446744073709551616) (h : rung b = 9218868437227405312) : double.read b = .infinity (isNeg b) := by
  unfold Format.read
  simp only [dbl_sw, dbl_bin, dbl_inf, dbl_least, neg_eq b hb]
  change (if rung b < 4503599627370496 then _ else if rung b < 9218868437227405312 then _ else if rung b = 9218868437227405312 then _ else _) = _
  rw [if_neg (by omega), if_neg (by omega), if_pos h]

theorem read_nan (b : Nat) (hb : b < 18446744073709551616) (h : isNaN b) : double.read b = .nan (isNeg b) (rung b - 9218868437227405312) := by
  unfold isNaN at h
  unfold Format.read
  simp only [dbl_sw, dbl_bin, dbl_inf, dbl_least, neg_eq b hb]
  change (if rung b < 4503599627370496 then _ else if rung b < 9218868437227405312 then _ else if rung b = 9218868437227405312 then _ else _) = _
  rw [if_neg (by omega), if_neg (by omega), if_neg (by omega)]
  rfl

/-- a finite word is the nearest one of what it stands for -/
theorem rung_back (r : Nat) (h : r < 9218868437227405312) : rungOf double (mant r) (place r) = r := by
  unfold mant place
  by_cases h1 : r < 4503599627370496
  · rw [if_pos h1, Nat.div_eq_of_lt h1]
    by_cases h0 : r = 0
    · subst h0; rw [rung_zero]
    · rw [rung_norm double r _ h0 (by show r < 2 ^ 53; omega) (by rw [dbl_least]; omega) (.inl (by rw [dbl_least]; omega)), dbl_least, dbl_bin, dbl_inf]
      omega
  · rw [if_neg h1]
    rw [rung_norm double _ _ (by omega) (by show _ < 2 ^ 53; omega) (by rw [dbl_least]; omega) (.inr (by show 2 ^ 52 ≤ _; omega)), dbl_least, dbl_bin, dbl_inf]
    have h2 : (-1074 + ((r / 4503599627370496 - 1 : Nat) : Int) - -1074).toNat = r / 4503599627370496 - 1 := by omega
    rw [h2]
    omega

/-- what a rung stands for, in units of the least place -/
def unit (r : Nat) : Nat := mant r * 2 ^ (r / 4503599627370496 - 1)

theorem unit_lt (r s : Nat) (h : r < s) : unit r < unit s := by
  unfold unit mant
  by_cases h1 : s < 4503599627370496
  · rw [if_pos h1, if_pos (by omega), Nat.div_eq_of_lt h1, Nat.div_eq_of_lt (by omega)]
    simpa using h
  rw [if_neg h1]
  have p1 := Nat.two_pow_pos (s / 4503599627370496 - 1)
  by_cases h2 : r < 4503599627370496
  · rw [if_pos h2, Nat.div_eq_of_lt h2]
    have : 4503599627370496 * 1 ≤ (4503599627370496 + s % 4503599627370496) * 2 ^ (s / 4503599627370496 - 1) := Nat.mul_le_mul (by omega) p1
    simp
    omega
  rw [if_neg h2]
  by_cases h3 : r / 4503599627370496 = s / 4503599627370496
  · rw [h3]
    exact Nat.mul_lt_mul_of_pos_right (by omega) p1
  · have h4 : r / 4503599627370496 - 1 + 1 ≤ s / 4503599627370496 - 1 := by omega
    have h5 : 2 ^ (r / 4503599627370496 - 1) * 2 ≤ 2 ^ (s / 4503599627370496 - 1) := by
      rw [← Nat.pow_succ]; exact pow_bound _ _ h4
    have p2 := Nat.two_pow_pos (r / 4503599627370496 - 1)
    have a : (4503599627370496 + r % 4503599627370496) * 2 ^ (r / 4503599627370496 - 1) < 9007199254740992 * 2 ^ (r / 4503599627370496 - 1) := Nat.mul_lt_mul_of_pos_right (by omega) p2
    have b : 4503599627370496 * 2 ^ (s / 4503599627370496 - 1) ≤ (4503599627370496 + s % 4503599627370496) * 2 ^ (s / 4503599627370496 - 1) := Nat.mul_le_mul_right _ (by omega)
    omega

theorem signed_scale (neg : Bool) (m u k : Nat) : signed neg m (u + k) = signed neg m u * (2 ^ k : Nat) := by
  unfold signed
  simp only [Nat.shiftLeft_eq, Nat.pow_add, ← Nat.mul_assoc]
  cases neg <;> simp [Int.neg_mul]

theorem compare_scale (a b : Int) (p : Nat) (hp : 0 < p) : compare (a * p) (b * p) = compare a b := by
  have hp' : (0 : Int) < p := by omega
  rcases Int.lt_trichotomy a b with h | h | h
  · rw [Int.compare_eq_lt.2 h, Int.compare_eq_lt.2 (Int.mul_lt_mul_of_pos_right h hp')]
  · subst h; rw [Int.compare_eq_eq.2 rfl, Int.compare_eq_eq.2 rfl]
  · rw [Int.compare_eq_gt.2 h, Int.compare_eq_gt.2 (Int.mul_lt_mul_of_pos_right h hp')]

def sgned (neg : Bool) (r : Nat) : Int := if neg then -(r : Int) else r

theorem sval_eq (b : Nat) : sval b = sgned (isNeg b) (rung b) := by
  unfold sval sgned isNeg
  by_cases h : 9223372036854775808 ≤ b <;> simp [h]

theorem unit_zero : unit 0 = 0 := by decide

theorem compare_unit (s t : Bool) (r q : Nat) : compare (sgned s (unit r)) (sgned t (unit q)) = compare (sgned s r) (sgned t q) := by
  have h0 := unit_zero
  have hr : 0 < r → 0 < unit r := fun h => by have := unit_lt 0 r h; omega
  have hq : 0 < q → 0 < unit q := fun h => by have := unit_lt 0 q h; omega
  have hr0 : r = 0 → unit r = 0 := fun h => by subst h; exact h0
  have hq0 : q = 0 → unit q = 0 := fun h => by subst h; exact h0
  have lt1 := unit_lt r q
  have lt2 := unit_lt q r
  have e : r = q → unit r = unit q := fun h => by rw [h]
  rcases Int.lt_trichotomy (sgned s r) (sgned t q) with h | h | h
  · rw [Int.compare_eq_lt.2 h, Int.compare_eq_lt]
    revert h
    unfold sgned
    cases s <;> cases t <;> simp <;> omega
  · rw [Int.compare_eq_eq.2 h, Int.compare_eq_eq]
    revert h
    unfold sgned
    cases s <;> cases t <;> simp <;> omega
  · rw [Int.compare_eq_gt.2 h, Int.compare_eq_gt]
    revert h
    unfold sgned
    cases s <;> cases t <;> simp <;> omega

theorem signed_unit (s : Bool) (r : Nat) : signed s (mant r) (r / 4503599627370496 - 1) = sgned s (unit r) := by
  unfold signed sgned unit
  rw [Nat.shiftLeft_eq]

theorem rung_lt (b : Nat) : rung b < 9223372036854775808 := Nat.mod_lt _ (by decide)

theorem order_eq (x y : Nat) (hx : x < 18446744073709551616) (hy : y < 18446744073709551616) (nx : ¬ isNaN x) (ny : ¬ isNaN y) : double.order x y = some (compare (sval x) (sval y)) := by
  unfold isNaN at nx ny
  unfold Format.order
  rw [sval_eq, sval_eq]
  by_cases fx : rung x < 9218868437227405312
  · rw [read_fin x hx fx]
    by_cases fy : rung y < 9218868437227405312
    · rw [read_fin y hy fy]
      unfold Datum.order
      simp only []
      congr 1
      generalize rung x = r at *
      generalize rung y = q at *
      generalize isNeg x = s at *
      generalize isNeg y = t at *
      obtain ⟨k, hk⟩ : ∃ k : Nat, (k : Int) = min (place r) (place q) + 1074 := ⟨(min (place r) (place q) + 1074).toNat, by unfold place; omega⟩
      rw [← compare_unit, ← signed_unit, ← signed_unit, ← compare_scale _ _ (2 ^ k) (Nat.two_pow_pos k), ← signed_scale, ← signed_scale]
      have e1 : (place r - min (place r) (place q)).toNat + k = r / 4503599627370496 - 1 := by unfold place at *; omega
      have e2 : (place q - min (place r) (place q)).toNat + k = q / 4503599627370496 - 1 := by unfold place at *; omega
      rw [e1, e2]
    · rw [read_inf y hy (by omega)]
      unfold Datum.order
      simp only []
      congr 1
      unfold sgned
      cases isNeg y <;> cases isNeg x <;> simp <;> (first | (rw [eq_comm, Int.compare_eq_lt]; omega) | (rw [eq_comm, Int.compare_eq_gt]; omega))
  · rw [read_inf x hx (by omega)]
    by_cases fy : rung y < 9218868437227405312
    · rw [read_fin y hy fy]
      unfold Datum.order
      simp only []
      congr 1
      unfold sgned
      cases isNeg x <;> cases isNeg y <;> simp <;> (first | (rw [eq_comm, Int.compare_eq_lt]; omega) | (rw [eq_comm, Int.compare_eq_gt]; omega))
    · rw [read_inf y hy (by omega)]
      unfold Datum.order
      simp only []
      congr 1
      unfold sgned
      have e1 : rung x = 9218868437227405312 := by omega
      have e2 : rung y = 9218868437227405312 := by omega
      rw [e1, e2]
      cases isNeg x <;> cases isNeg y <;> decide

theorem order_nan_left (x y : Nat) (hx : x < 18446744073709551616) (nx : isNaN x) : double.order x y = none := by
  unfold Format.order
  rw [read_nan x hx nx]
  unfold Datum.order
  cases double.read y <;> rfl

theorem order_nan_right (x y : Nat) (hy : y < 18446744073709551616) (ny : isNaN y) : double.order x y = none := by
  unfold Format.order
  rw [read_nan y hy ny]
  unfold Datum.order
  cases double.read x <;> rfl
end Go.Proofs.YtjjfkidddjcdcaaDoor.PL

namespace Go.Proofs.YtjjfkidddjcdcaaDoor.PL
open Ieee

theorem rneG_scale (n g p : Nat) (hp : 0 < p) : rneG (n * p) (g * p) = rneG n g := by
  unfold rneG
  rw [Nat.mul_div_mul_right _ _ hp, Nat.mul_mod_mul_right]
  congr 1
  have e1 : g * p < 2 * (n % g * p) ↔ g < 2 * (n % g) := by
    rw [← Nat.mul_assoc]; exact Nat.mul_lt_mul_right hp
  have e2 : g * p = 2 * (n % g * p) ↔ g = 2 * (n % g) := by
    rw [← Nat.mul_assoc]; exact ⟨fun h => Nat.eq_of_mul_eq_mul_right hp h, fun h => congrArg (· * p) h⟩
  simp only [e1, e2]

/-- The nearest word hangs on the value alone. -/
theorem rung_val (f : Format) (m : Nat) (e : Int) (k : Nat) : rungOf f (m <<< k) (e - k) = rungOf f m e := by
  by_cases hm : m = 0
  · subst hm
    rw [Nat.zero_shiftLeft, rung_zero, rung_zero]
  by_cases hk : lastOf f m e ≤ e - k
  · exact rung_shl f m e k hm hk
  have hl : lastOf f (m <<< k) (e - k) = lastOf f m e := by
    unfold lastOf
    rw [log2_shl m k hm]
    omega
  rw [rung_eq f _ _ (shl_ne m k hm), rung_eq f _ _ hm, hl]
  congr 2
  have h0 : (e - k - lastOf f m e).toNat = 0 := by omega
  rw [h0, Nat.shiftLeft_zero]
  unfold rne
  by_cases h : lastOf f m e ≤ e
  · have h1 : (lastOf f m e - e).toNat = 0 := by omega
    obtain ⟨j, hj⟩ : ∃ j : Nat, (j : Int) = e - lastOf f m e := ⟨(e - lastOf f m e).toNat, by omega⟩
    have h2 : (e - lastOf f m e).toNat = j := by omega
    have h3 : (lastOf f m e - (e - k)).toNat = k - j := by omega
    have hjk : k = j + (k - j) := by omega
    rw [h1, h2, h3]
    have : rneG (m <<< j) (2 ^ 0) = m <<< j := rne_zero _
    rw [this]
    have hsh : m <<< k = m <<< j * 2 ^ (k - j) := by
      rw [← Nat.shiftLeft_eq, ← Nat.shiftLeft_add, ← hjk]
    rw [hsh]
    exact rneG_exact _ _ (Nat.two_pow_pos _)
  · have h2 : (e - lastOf f m e).toNat = 0 := by omega
    have h3 : (lastOf f m e - (e - k)).toNat = (lastOf f m e - e).toNat + k := by omega
    rw [h2, h3, Nat.shiftLeft_zero, Nat.shiftLeft_eq, Nat.pow_add]
    exact rneG_scale _ _ _ (Nat.two_pow_pos _)

theorem nearest_sign (neg : Bool) (m : Nat) (e : Int) : double.nearest neg m e = (if neg then 9223372036854775808 else 0) + rungOf double m e := by
  unfold rungOf Format.nearest Format.word
  rw [dbl_sw]
  by_cases h : m = 0
  · rw [if_pos h, if_pos h]; cases neg <;> simp
  · rw [if_neg h, if_neg h]; cases neg <;> simp [cut_even]

/-- a product of two finite words -/
theorem mul_fin (x y : Nat) (hx : x < 18446744073709551616) (hy : y < 18446744073709551616) (fx : rung x < 9218868437227405312) (fy : rung y < 9218868437227405312) :
    double.mul x y = some ((if isNeg x ^^ isNeg y then 9223372036854775808 else 0) + rungOf double (mant (rung x) * mant (rung y)) (place (rung x) + place (rung y))) := by
  unfold Format.mul
  rw [read_fin x hx fx, read_fin y hy fy]
  unfold Datum.product
  simp only [Option.map_some]
  congr 1
  exact nearest_sign _ _ _

/-- a product that is a rung's own value -/
theorem rung_of_value (r : Nat) (h : r < 9218868437227405312) (m k : Nat) (e : Int) (hm : m = mant r <<< k) (he : e = place r - k) : rungOf double m e = r := by
  rw [hm, he, rung_val, rung_back r h]
theorem rung_of_value' (r : Nat) (h : r < 9218868437227405312) (m k : Nat) (e : Int) (hm : m <<< k = mant r) (he : e - k = place r) : rungOf double m e = r := by
  rw [← rung_val double m e k, hm, he, rung_back r h]

theorem mant_small (r : Nat) (h : r < 4503599627370496) : mant r = r := if_pos h
theorem mant_norm (x f : Nat) (hx : 0 < x) (hf : f < 4503599627370496) : mant (x * 4503599627370496 + f) = 4503599627370496 + f := by
  unfold mant
  rw [if_neg (by omega)]
  omega
theorem place_norm (x f : Nat) (hx : 0 < x) (hf : f < 4503599627370496) : place (x * 4503599627370496 + f) = (x : Int) - 1075 := by
  unfold place
  have : (x * 4503599627370496 + f) / 4503599627370496 = x := by omega
  rw [this]
  omega
theorem place_small (r : Nat) (h : r < 4503599627370496) : place r = -1074 := by
  unfold place
  rw [Nat.div_eq_of_lt h]
  rfl
end Go.Proofs.YtjjfkidddjcdcaaDoor.PL
