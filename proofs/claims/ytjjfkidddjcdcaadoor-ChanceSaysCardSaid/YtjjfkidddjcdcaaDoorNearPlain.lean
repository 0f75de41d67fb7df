/- Proved here: plain facts on the nearest number to a ratio as enclosurebig's near finds it; no program in sight. Conditions: as each theorem says. -/
import Derived.Test.YtjjfkidddjcdcaaDoorMul
import Derived.Test.YtjjfkidddjcdcaaDoorCmp
namespace Go.Proofs.YtjjfkidddjcdcaaDoor.PL
open Ieee

/-- a over 2^k at the power p, to the nearest. -/
def NR (a k : Nat) (p : Int) : Nat := rneG (a * 2 ^ (-p).toNat) (2 ^ k * 2 ^ p.toNat)
/-- The place of its last digit. -/
def LL (a k : Nat) : Int := lastOf double a (-(k : Int))
theorem LL_eq (a k : Nat) : LL a k = max (-(k : Int) + a.log2 - 52) (-1074) := by
  unfold LL lastOf
  rw [dbl_least]
  rfl

theorem near_last (a k : Nat) (ha : 0 < a) : rungOf double (NR a k (LL a k)) (LL a k) = rungOf double a (-(k : Int)) ∧ NR a k (LL a k) ≤ 9007199254740992 := by
  have hL := LL_eq a k
  have hlt : a < 2 ^ (a.log2 + 1) := Nat.lt_log2_self
  by_cases hd : LL a k ≤ -(k : Int)
  · obtain ⟨t, ht⟩ : ∃ t : Nat, LL a k = -(k : Int) - t := ⟨(-(k : Int) - LL a k).toNat, by omega⟩
    have e1 : NR a k (LL a k) = a * 2 ^ t := by
      unfold NR
      rw [show (-LL a k).toNat = t + k by omega, show (LL a k).toNat = 0 by omega, Nat.pow_zero, Nat.mul_one, Nat.pow_add, ← Nat.mul_assoc]
      exact rneG_exact _ _ (Nat.two_pow_pos k)
    rw [e1, ht, ← Nat.shiftLeft_eq]
    refine ⟨rung_val double a (-(k : Int)) t, ?_⟩
    rw [Nat.shiftLeft_eq]
    have h1 : a * 2 ^ t < 2 ^ (a.log2 + 1) * 2 ^ t := Nat.mul_lt_mul_of_pos_right hlt (Nat.two_pow_pos t)
    rw [← Nat.pow_add] at h1
    have h2 : 2 ^ (a.log2 + 1 + t) ≤ 2 ^ 53 := pow_bound _ _ (by omega)
    omega
  · obtain ⟨t, ht⟩ : ∃ t : Nat, LL a k = -(k : Int) + t := ⟨(LL a k + k).toNat, by omega⟩
    have e1 : NR a k (LL a k) = rne a t := by
      unfold NR rne
      by_cases hp : 0 ≤ LL a k
      · rw [show (-LL a k).toNat = 0 by omega, Nat.pow_zero, Nat.mul_one, ← Nat.pow_add, show k + (LL a k).toNat = t by omega]
      · rw [show (LL a k).toNat = 0 by omega, Nat.pow_zero, Nat.mul_one]
        have : 2 ^ k = 2 ^ t * 2 ^ (-LL a k).toNat := by rw [← Nat.pow_add]; congr 1; omega
        rw [this]
        exact rneG_scale _ _ _ (Nat.two_pow_pos _)
    have hdr : dropOf double a (-(k : Int)) = t := by
      show (lastOf double a (-(k : Int)) - -(k : Int)).toNat = t
      have : lastOf double a (-(k : Int)) = LL a k := rfl
      omega
    have hr := rung_round double a (-(k : Int)) (by omega) (by rw [hdr]; omega)
    rw [hdr] at hr
    refine ⟨by rw [e1, hr, ht], ?_⟩
    rw [e1]
    refine rneG_le _ _ 9007199254740992 ?_
    rw [show (9007199254740992 : Nat) = 2 ^ 53 from rfl, ← Nat.pow_add]
    exact Nat.lt_of_lt_of_le hlt (pow_bound _ _ (by omega))

theorem rneG_half (n D c : Nat) (h : c * 2 * D ≤ n) (he : rneG n D = c * 2) (hD : 0 < D) : rneG n (2 * D) = c := by
  unfold rneG at he
  have h1 := (Nat.le_div_iff_mul_le hD).2 h
  have hm := Nat.mod_lt n hD
  have hq : n / D = c * 2 := by split at he <;> omega
  have hr : ¬ (D < 2 * (n % D) ∨ (D = 2 * (n % D) ∧ n / D % 2 = 1)) := fun hh => by rw [if_pos hh] at he; omega
  have hn := Nat.div_add_mod n D
  rw [hq] at hn
  have e : n = c * (2 * D) + n % D := by
    have h6 : D * (c * 2) = c * (2 * D) := by rw [Nat.mul_comm D, Nat.mul_assoc]
    omega
  have hd2 : n / (2 * D) = c := by
    rw [e, Nat.mul_comm, Nat.mul_add_div (by omega), Nat.div_eq_of_lt (by omega), Nat.add_zero]
  have hm2 : n % (2 * D) = n % D := by
    have h5 := Nat.div_add_mod n (2 * D)
    rw [hd2, Nat.mul_comm (2 * D) c] at h5
    omega
  unfold rneG
  rw [hd2, hm2, if_neg (by omega)]
  omega

/-- At one below the last place: from 2^53 to 2^54. -/
theorem near_below (a k : Nat) (ha : 0 < a) (h : -1074 < LL a k) : 9007199254740992 ≤ NR a k (LL a k - 1) ∧ NR a k (LL a k - 1) ≤ 18014398509481984 ∧
    (NR a k (LL a k - 1) = 9007199254740992 → rungOf double 4503599627370496 (LL a k) = rungOf double a (-(k : Int))) := by
  have hL := LL_eq a k
  have hlt : a < 2 ^ (a.log2 + 1) := Nat.lt_log2_self
  have hge : 2 ^ a.log2 ≤ a := Nat.log2_self_le (by omega)
  obtain ⟨p, hp⟩ : ∃ p, LL a k - 1 = p := ⟨_, rfl⟩
  rw [hp]
  have hpos := Nat.two_pow_pos (-p).toNat
  have hpl : (a.log2 : Int) + (-p).toNat = 53 + (k + p.toNat) := by omega
  have hpl2 : a.log2 + (-p).toNat = 53 + (k + p.toNat) := by omega
  have b1 : 2 ^ 53 * (2 ^ k * 2 ^ p.toNat) ≤ a * 2 ^ (-p).toNat := by
    rw [← Nat.pow_add 2 k, ← Nat.pow_add, ← hpl2, Nat.pow_add]
    exact Nat.mul_le_mul_right _ hge
  have b2 : a * 2 ^ (-p).toNat < 2 ^ 54 * (2 ^ k * 2 ^ p.toNat) := by
    rw [← Nat.pow_add 2 k, ← Nat.pow_add, show 54 + (k + p.toNat) = (a.log2 + 1) + (-p).toNat by omega, Nat.pow_add]
    exact Nat.mul_lt_mul_of_pos_right hlt hpos
  have hD : 0 < 2 ^ k * 2 ^ p.toNat := Nat.mul_pos (Nat.two_pow_pos k) (Nat.two_pow_pos _)
  refine ⟨le_rneG _ _ _ hD b1, rneG_le _ _ _ b2, fun he => ?_⟩
  have hh := rneG_half _ _ 4503599627370496 b1 he hD
  have hl : NR a k (LL a k) = 4503599627370496 := by
    rw [← hh]
    unfold NR
    rw [show LL a k = p + 1 by omega]
    by_cases h0 : 0 ≤ p
    · rw [show (-(p + 1)).toNat = (-p).toNat by omega, show (p + 1).toNat = p.toNat + 1 by omega, Nat.pow_succ]
      congr 1
      rw [Nat.mul_comm 2, Nat.mul_assoc]
    · rw [show (-p).toNat = (-(p + 1)).toNat + 1 by omega, show (p + 1).toNat = 0 by omega, show p.toNat = 0 by omega, Nat.pow_succ, Nat.pow_zero, Nat.mul_one, ← Nat.mul_assoc, Nat.mul_comm 2]
      exact (rneG_scale _ _ 2 (by omega)).symm
  have := (near_last a k ha).1
  rw [hl] at this
  exact this

/-- Where the search begins: at the last place, or one below it. -/
theorem near_start (a k : Nat) (ha : 0 < a) : max (((bl a : Nat) : Int) - ((k : Int) + 1) - 53) (-1074) = LL a k ∨ (max (((bl a : Nat) : Int) - ((k : Int) + 1) - 53) (-1074) = LL a k - 1 ∧ -1074 < LL a k) := by
  have hL := LL_eq a k
  have : bl a = a.log2 + 1 := by unfold bl; rw [if_neg (by omega)]
  rw [this]
  omega

/-- Carried over the last place. -/
theorem near_carry (p : Int) : rungOf double 4503599627370496 (p + 1) = rungOf double 9007199254740992 p := by
  have h := rung_val double 4503599627370496 (p + 1) 1
  rw [show (p + 1 : Int) - ((1 : Nat) : Int) = p by omega] at h
  exact h.symm
end Go.Proofs.YtjjfkidddjcdcaaDoor.PL
