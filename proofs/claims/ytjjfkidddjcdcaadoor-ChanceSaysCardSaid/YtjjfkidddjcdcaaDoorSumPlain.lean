/- Proved here: plain facts of a number of at most 53 bits over a power of two: it is just a float; no program in sight. Conditions: as each theorem says.
   Proved here: plain facts of the sum of the bits' powers in Drawn; no program in sight. Conditions: as each theorem says. -/
import Derived.Test.YtjjfkidddjcdcaaDoorRatOf
import Derived.Test.YtjjfkidddjcdcaaDoorUnit
namespace Go.Proofs.YtjjfkidddjcdcaaDoor

theorem exact_core (m : Nat) (x : Nat) (hm : m < 9007199254740992) (hx : 1 ≤ x) (hx2 : x ≤ 2046) (hn : 4503599627370496 ≤ m ∨ x = 1) :
    ∃ r, r < 9218868437227405312 ∧ PL.mant r = m ∧ PL.place r = (x : Int) - 1075 := by
  by_cases h : m < 4503599627370496
  · obtain rfl : x = 1 := by omega
    refine ⟨m, by omega, ?_, ?_⟩
    · unfold PL.mant; rw [if_pos h]
    · unfold PL.place; rw [Nat.div_eq_of_lt h]; rfl
  · have hd : (x * 4503599627370496 + (m - 4503599627370496)) / 4503599627370496 = x := by omega
    refine ⟨x * 4503599627370496 + (m - 4503599627370496), by omega, ?_, ?_⟩
    · unfold PL.mant; rw [if_neg (by omega)]; omega
    · unfold PL.place; rw [hd]; omega

/-- M over 2^u, of at most 53 bits and places from -1074 on, is just a float. -/
theorem exact_flt (M u : Nat) (hM0 : 0 < M) (hM : M < 2 ^ 53) (hu1 : 1 ≤ u) (hu : u ≤ 1074) :
    PL.rungOf Ieee.double M (-(u : Int)) < 9218868437227405312 ∧ 0 < PL.rungOf Ieee.double M (-(u : Int)) ∧
      ((fltA (PL.rungOf Ieee.double M (-(u : Int))) : Nat) : Int) * ((2 ^ u : Nat) : Int) = (M : Int) * ((2 ^ fltK (PL.rungOf Ieee.double M (-(u : Int))) : Nat) : Int) := by
  obtain ⟨L, hL1, hL2, hL3⟩ : ∃ L, L ≤ 52 ∧ 2 ^ L ≤ M ∧ M < 2 ^ (L + 1) := by
    have h1 := Nat.log2_lt (n := M) (k := 53) (by omega)
    refine ⟨Nat.log2 M, by have := h1.2 hM; omega, Nat.log2_self_le (by omega), Nat.lt_log2_self⟩
  obtain ⟨d, hd⟩ : ∃ d, d = min (52 - L) (1074 - u) := ⟨_, rfl⟩
  have hm1 : M * 2 ^ d < 9007199254740992 := by
    have h1 : 2 ^ d ≤ 2 ^ (52 - L) := PL.pow_bound _ _ (by omega)
    have h2 : M * 2 ^ d < 2 ^ (L + 1) * 2 ^ (52 - L) := Nat.lt_of_lt_of_le (Nat.mul_lt_mul_of_pos_right hL3 (Nat.two_pow_pos d)) (Nat.mul_le_mul_left _ h1)
    rw [← Nat.pow_add, show L + 1 + (52 - L) = 53 by omega] at h2
    omega
  have hm2 : 4503599627370496 ≤ M * 2 ^ d ∨ 1075 - u - d = 1 := by
    by_cases h : 52 - L ≤ 1074 - u
    · left
      have e : d = 52 - L := by omega
      have h2 : 2 ^ L * 2 ^ d ≤ M * 2 ^ d := Nat.mul_le_mul_right _ hL2
      rw [← Nat.pow_add, e, show L + (52 - L) = 52 by omega] at h2
      rw [e]
      omega
    · right; omega
  obtain ⟨r, hr, h1, h2⟩ := exact_core (M * 2 ^ d) (1075 - u - d) hm1 (by omega) (by omega) hm2
  have hp : PL.place r = -((u + d : Nat) : Int) := by rw [h2]; omega
  have hV : PL.rungOf Ieee.double M (-(u : Int)) = r := PL.rung_of_value' r hr M d _ (by rw [Nat.shiftLeft_eq, h1]) (by rw [hp]; omega)
  rw [hV]
  refine ⟨hr, ?_, ?_⟩
  · rcases Nat.eq_zero_or_pos r with h | h
    · subst h
      have e : PL.mant 0 = 0 := rfl
      rw [e] at h1
      have := Nat.mul_pos hM0 (Nat.two_pow_pos d)
      omega
    · exact h
  · unfold fltA fltK
    rw [hp, h1, show (-((u + d : Nat) : Int)).toNat = 0 by omega, show (- -((u + d : Nat) : Int)).toNat = u + d by omega, Nat.pow_zero, Nat.mul_one, Nat.pow_add]
    push_cast
    rw [Int.mul_assoc, Int.mul_comm ((2 : Int) ^ d)]
end Go.Proofs.YtjjfkidddjcdcaaDoor

namespace Go.Proofs.YtjjfkidddjcdcaaDoor

theorem pow_posI (k : Nat) : (0 : Int) < 2 ^ k := Int.pow_pos (by omega)

/-- a over 2^q is V over 2^j, and q is not above j: then a is not above V. -/
theorem sum_le {a q j : Nat} {V : Int} (h : (a : Int) * 2 ^ j = V * 2 ^ q) (hq : q ≤ j) (_hV : 0 ≤ V) : (a : Int) ≤ V := by
  obtain ⟨d, rfl⟩ : ∃ d, j = q + d := ⟨j - q, by omega⟩
  have hp := pow_posI q
  have h1 : (a : Int) * 2 ^ d = V := by
    refine Int.eq_of_mul_eq_mul_right (Int.ne_of_gt hp) ?_
    rw [← h, Int.pow_add, Int.mul_assoc, Int.mul_comm ((2 : Int) ^ d)]
  have h2 : (1 : Int) ≤ 2 ^ d := by have := pow_posI d; omega
  have h3 : (a : Int) * 1 ≤ (a : Int) * 2 ^ d := Int.mul_le_mul_of_nonneg_left h2 (by omega)
  omega

theorem sum_step {a q j j' : Nat} {V a' a'' : Int} {q'' : Nat} (h : (a : Int) * 2 ^ j = V * 2 ^ q) (h2 : a' * 2 ^ (j + 1) = 1 * 2 ^ j') (h3 : a'' * 2 ^ (q + j') = ((a : Int) * 2 ^ j' + a' * 2 ^ q) * 2 ^ q'') (hl : q'' = 0 ∨ a''.natAbs % 2 = 1) :
    a'' * 2 ^ (j + 1) = (2 * V + 1) * 2 ^ q'' ∧ q'' ≤ j + 1 := by
  have pQ := pow_posI q
  have pP := pow_posI j'
  have hJ : (2 : Int) ^ (j + 1) = 2 ^ j * 2 := Int.pow_succ _ _
  have main : a'' * 2 ^ (j + 1) = (2 * V + 1) * 2 ^ q'' := by
    refine Int.eq_of_mul_eq_mul_right (Int.ne_of_gt (Int.mul_pos pQ pP)) ?_
    rw [Int.pow_add] at h3
    have e : a * 2 ^ (j + 1) = 2 * V * 2 ^ q := by rw [hJ]; grind
    generalize (2 : Int) ^ (j + 1) = J at *
    generalize (2 : Int) ^ q = Q at *
    generalize (2 : Int) ^ j' = P at *
    generalize (2 : Int) ^ q'' = R at *
    calc a'' * J * (Q * P) = (a'' * (Q * P)) * J := by grind
      _ = ((a : Int) * P + a' * Q) * R * J := by rw [h3]
      _ = ((a : Int) * J * P + a' * J * Q) * R := by grind
      _ = (2 * V * Q * P + 1 * P * Q) * R := by rw [e, h2]
      _ = (2 * V + 1) * R * (Q * P) := by grind
  refine ⟨main, ?_⟩
  rcases hl with hl | hl
  · omega
  · rcases Nat.lt_or_ge (j + 1) q'' with h4 | h4
    · exfalso
      obtain ⟨d, rfl⟩ : ∃ d, q'' = j + 1 + (d + 1) := ⟨q'' - (j + 1) - 1, by omega⟩
      have e : a'' = (2 * V + 1) * 2 ^ (d + 1) := by
        refine Int.eq_of_mul_eq_mul_right (Int.ne_of_gt (pow_posI (j + 1))) ?_
        rw [main, Int.pow_add 2 (j + 1) (d + 1), Int.mul_assoc, Int.mul_comm ((2 : Int) ^ (j + 1))]
      rw [Int.pow_succ, ← Int.mul_assoc] at e
      omega
    · exact h4

theorem sum_zero {a q j : Nat} {V : Int} (h : (a : Int) * 2 ^ j = V * 2 ^ q) : (a : Int) * 2 ^ (j + 1) = (2 * V + 0) * 2 ^ q := by
  rw [Int.pow_succ]
  grind

/-- The sum's nearest float is the number's; it is just it. -/
theorem sum_end {a q M u : Nat} (h : (a : Int) * 2 ^ u = (M : Int) * 2 ^ q) (hM0 : 0 < M) (hM : M < 2 ^ 53) (hu1 : 1 ≤ u) (hu : u ≤ 1074) :
    PL.rungOf Ieee.double a (-(q : Int)) = PL.rungOf Ieee.double M (-(u : Int)) ∧
      ((fltA (PL.rungOf Ieee.double M (-(u : Int))) : Nat) : Int) * ((2 ^ q : Nat) : Int) = (a : Int) * ((2 ^ fltK (PL.rungOf Ieee.double M (-(u : Int))) : Nat) : Int) := by
  have hN : a * 2 ^ u = M * 2 ^ q := by
    have h' := h
    rw [pow_cast, pow_cast, ← Int.natCast_mul, ← Int.natCast_mul] at h'
    exact Int.ofNat.inj h'
  refine ⟨?_, ?_⟩
  · rw [← PL.rung_val Ieee.double a _ u, ← PL.rung_val Ieee.double M _ q, Nat.shiftLeft_eq, Nat.shiftLeft_eq, hN, show -(q : Int) - u = -(u : Int) - q by omega]
  · have hex := (exact_flt M u hM0 hM hu1 hu).2.2
    generalize PL.rungOf Ieee.double M (-(u : Int)) = V at *
    refine Int.eq_of_mul_eq_mul_right (Int.ne_of_gt (pow_posI u)) ?_
    rw [← pow_cast, ← pow_cast] at hex ⊢
    generalize (2 : Int) ^ u = U at *
    generalize (2 : Int) ^ q = Q at *
    generalize (2 : Int) ^ fltK V = K at *
    calc (fltA V : Int) * Q * U = ((fltA V : Int) * U) * Q := by grind
      _ = (M : Int) * K * Q := by rw [hex]
      _ = ((M : Int) * Q) * K := by grind
      _ = ((a : Int) * U) * K := by rw [h]
      _ = (a : Int) * K * U := by grind
end Go.Proofs.YtjjfkidddjcdcaaDoor
