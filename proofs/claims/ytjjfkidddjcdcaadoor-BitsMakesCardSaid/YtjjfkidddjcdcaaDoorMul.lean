/- Proved here: plain facts on products of floats that come out whole; no program in sight. Conditions: as each theorem says. -/
import Derived.Test.YtjjfkidddjcdcaaDoorFloat
namespace Go.Proofs.YtjjfkidddjcdcaaDoor.PL
open Ieee

theorem rneG_scale (n g p : Nat) (hp : 0 < p) : rneG (n * p) (g * p) = rneG n g := by
  unfold rneG
  rw [Nat.mul_div_mul_right _ _ hp, Nat.mul_mod_mul_right]
  congr 1
  have e1 : g * p < 2 * (n % g * p) ↔ g < 2 * (n % g) := by
    rw [← Nat.mul_assoc]; exact Nat.mul_lt_mul_right hp
  have e2 : g * p = 2 * (n % g * p) ↔ g = 2 * (n % g) := by
    rw [← Nat.mul_assoc]; exact ⟨fun h => Nat.eq_of_mul_eq_mul_right hp h, fun h => congrArg (· * p) h⟩
  simp only [e1, e2]

/-- The nearest word hangs on the value alone. -/
theorem rung_val (f : Format) (m : Nat) (e : Int) (k : Nat) : rungOf f (m <<< k) (e - k) = rungOf f m e := by
  by_cases hm : m = 0
  · subst hm
    rw [Nat.zero_shiftLeft, rung_zero, rung_zero]
  by_cases hk : lastOf f m e ≤ e - k
  · exact rung_shl f m e k hm hk
  have hl : lastOf f (m <<< k) (e - k) = lastOf f m e := by
    unfold lastOf
    rw [log2_shl m k hm]
    omega
  rw [rung_eq f _ _ (shl_ne m k hm), rung_eq f _ _ hm, hl]
  congr 2
  have h0 : (e - k - lastOf f m e).toNat = 0 := by omega
  rw [h0, Nat.shiftLeft_zero]
  unfold rne
  by_cases h : lastOf f m e ≤ e
  · have h1 : (lastOf f m e - e).toNat = 0 := by omega
    obtain ⟨j, hj⟩ : ∃ j : Nat, (j : Int) = e - lastOf f m e := ⟨(e - lastOf f m e).toNat, by omega⟩
    have h2 : (e - lastOf f m e).toNat = j := by omega
    have h3 : (lastOf f m e - (e - k)).toNat = k - j := by omega
    have hjk : k = j + (k - j) := by omega
    rw [h1, h2, h3]
    have : rneG (m <<< j) (2 ^ 0) = m <<< j := rne_zero _
    rw [this]
    have hsh : m <<< k = m <<< j * 2 ^ (k - j) := by
      rw [← Nat.shiftLeft_eq, ← Nat.shiftLeft_add, ← hjk]
    rw [hsh]
    exact rneG_exact _ _ (Nat.two_pow_pos _)
  · have h2 : (e - lastOf f m e).toNat = 0 := by omega
    have h3 : (lastOf f m e - (e - k)).toNat = (lastOf f m e - e).toNat + k := by omega
    rw [h2, h3, Nat.shiftLeft_zero, Nat.shiftLeft_eq, Nat.pow_add]
    exact rneG_scale _ _ _ (Nat.two_pow_pos _)

theorem nearest_sign (neg : Bool) (m : Nat) (e : Int) : double.nearest neg m e = (if neg then 9223372036854775808 else 0) + rungOf double m e := by
  unfold rungOf Format.nearest Format.word
  rw [dbl_sw]
  by_cases h : m = 0
  · rw [if_pos h, if_pos h]; cases neg <;> simp
  · rw [if_neg h, if_neg h]; cases neg <;> simp [cut_even]

/-- a product of two finite words -/
theorem mul_fin (x y : Nat) (hx : x < 18446744073709551616) (hy : y < 18446744073709551616) (fx : rung x < 9218868437227405312) (fy : rung y < 9218868437227405312) :
    double.mul x y = some ((if isNeg x ^^ isNeg y then 9223372036854775808 else 0) + rungOf double (mant (rung x) * mant (rung y)) (place (rung x) + place (rung y))) := by
  unfold Format.mul
  rw [read_fin x hx fx, read_fin y hy fy]
  unfold Datum.product
  simp only [Option.map_some]
  congr 1
  exact nearest_sign _ _ _

/-- a product that is a rung's own value -/
theorem rung_of_value (r : Nat) (h : r < 9218868437227405312) (m k : Nat) (e : Int) (hm : m = mant r <<< k) (he : e = place r - k) : rungOf double m e = r := by
  rw [hm, he, rung_val, rung_back r h]
theorem rung_of_value' (r : Nat) (h : r < 9218868437227405312) (m k : Nat) (e : Int) (hm : m <<< k = mant r) (he : e - k = place r) : rungOf double m e = r := by
  rw [← rung_val double m e k, hm, he, rung_back r h]

theorem mant_small (r : Nat) (h : r < 4503599627370496) : mant r = r := if_pos h
theorem mant_norm (x f : Nat) (hx : 0 < x) (hf : f < 4503599627370496) : mant (x * 4503599627370496 + f) = 4503599627370496 + f := by
  unfold mant
  rw [if_neg (by omega)]
  omega
theorem place_norm (x f : Nat) (hx : 0 < x) (hf : f < 4503599627370496) : place (x * 4503599627370496 + f) = (x : Int) - 1075 := by
  unfold place
  have : (x * 4503599627370496 + f) / 4503599627370496 = x := by omega
  rw [this]
  omega
theorem place_small (r : Nat) (h : r < 4503599627370496) : place r = -1074 := by
  unfold place
  rw [Nat.div_eq_of_lt h]
  rfl
end Go.Proofs.YtjjfkidddjcdcaaDoor.PL
