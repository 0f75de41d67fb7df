/- Proved here: plain facts on rounding to the nearest float, ties to even, as whole numbers and as rungs of a format; no program in sight. Conditions: as each theorem says. -/
import Ieee.Arith
import Derived.Lib.BitFns
namespace Go.Proofs.YtjjfkidddjcdcaaDoor.PL
open Ieee

/-- round to nearest, ties to even: n / 2^d -/
def rneG (n g : Nat) : Nat := n / g + (if g < 2 * (n % g) ∨ (g = 2 * (n % g) ∧ n / g % 2 = 1) then 1 else 0)
def rne (n d : Nat) : Nat := rneG n (2 ^ d)

theorem cutG (g a b : Nat) : a + (decide (g < 2 * b) || (g == 2 * b && a % 2 == 1)).toNat = a + (if g < 2 * b ∨ (g = 2 * b ∧ a % 2 = 1) then 1 else 0) := by
  by_cases h : g < 2 * b ∨ (g = 2 * b ∧ a % 2 = 1)
  · rw [if_pos h]
    have : (decide (g < 2 * b) || (g == 2 * b && a % 2 == 1)) = true := by simpa using h
    rw [this]; rfl
  · rw [if_neg h]
    have : (decide (g < 2 * b) || (g == 2 * b && a % 2 == 1)) = false := by
      rw [← Bool.not_eq_true]; simpa using h
    rw [this]; rfl

theorem rneG_small (n g : Nat) (h : 2 * n < g) : rneG n g = 0 := by
  unfold rneG
  rw [Nat.div_eq_of_lt (by omega), Nat.mod_eq_of_lt (by omega), if_neg (by omega)]

theorem cut_even (neg : Bool) (n drop : Nat) : Ieee.Toward.cut .even neg n drop = rne n drop := by
  have hc : ∀ g, n / g + (decide (g < 2 * (n % g)) || (g == 2 * (n % g) && n / g % 2 == 1)).toNat = rneG n g := fun g => cutG g _ _
  unfold Ieee.Toward.cut
  simp only [Nat.one_shiftLeft]
  rw [hc]
  have hn : n < 2 ^ (n.log2 + 1) := Nat.lt_log2_self
  by_cases hd : drop ≤ n.log2 + 2
  · rw [Nat.min_eq_left hd]; rfl
  · rw [Nat.min_eq_right (by omega)]
    have e1 : 2 ^ (n.log2 + 2) = 2 * 2 ^ (n.log2 + 1) := by rw [Nat.pow_succ 2 (n.log2 + 1)]; omega
    have e2 : 2 ^ (n.log2 + 2) ≤ 2 ^ drop := Nat.pow_le_pow_right (by omega) (by omega)
    unfold rne
    rw [rneG_small _ _ (by omega), rneG_small _ _ (by omega)]

theorem rne_zero (n : Nat) : rne n 0 = n := by
  unfold rne rneG
  rw [if_neg]
  · simp
  · simp [Nat.mod_one]

theorem nearest_eq (f : Ieee.Format) (neg : Bool) (mag : Nat) (place last : Int) (hm : mag ≠ 0) (hl : last = max (place + mag.log2 - f.fractionBits) f.leastPlace) :
    f.nearest neg mag place = f.word neg (min ((last - f.leastPlace).toNat * f.binade + rne (mag <<< (place - last).toNat) (last - place).toNat) f.infRung) := by
  unfold Ieee.Format.nearest
  rw [if_neg hm]
  simp only [cut_even, hl]


theorem log2_shl (m k : Nat) (hm : m ≠ 0) : (m <<< k).log2 = m.log2 + k := by
  have h0 : 0 < 2 ^ k := Nat.two_pow_pos k
  have h1 : m * 2 ^ k ≠ 0 := Nat.mul_ne_zero hm (Nat.ne_of_gt h0)
  rw [Nat.shiftLeft_eq]
  apply Nat.le_antisymm
  · have := (Nat.log2_lt h1).2 (show m * 2 ^ k < 2 ^ (m.log2 + k + 1) from ?_)
    · omega
    · rw [Nat.add_right_comm, Nat.pow_add]
      exact Nat.mul_lt_mul_of_pos_right Nat.lt_log2_self h0
  · rw [Nat.le_log2 h1, Nat.pow_add]
    exact Nat.mul_le_mul_right _ (Nat.log2_self_le hm)

theorem log2_lt_iff (m k : Nat) (hm : m ≠ 0) : m.log2 < k ↔ m < 2 ^ k := Nat.log2_lt hm
theorem le_log2_iff (m k : Nat) (hm : m ≠ 0) : k ≤ m.log2 ↔ 2 ^ k ≤ m := Nat.le_log2 hm

/-- the place of the last digit that is kept -/
def lastOf (f : Format) (m : Nat) (e : Int) : Int := max (e + m.log2 - f.fractionBits) f.leastPlace

def rungOf (f : Format) (m : Nat) (e : Int) : Nat := f.nearest false m e

theorem word_false (f : Format) (r : Nat) : f.word false r = r := rfl

theorem rung_zero (f : Format) (e : Int) : rungOf f 0 e = 0 := by
  unfold rungOf Format.nearest
  rw [if_pos rfl]; rfl

theorem rung_eq (f : Format) (m : Nat) (e : Int) (hm : m ≠ 0) :
    rungOf f m e = min ((lastOf f m e - f.leastPlace).toNat * f.binade + rne (m <<< (e - lastOf f m e).toNat) (lastOf f m e - e).toNat) f.infRung := by
  unfold rungOf
  rw [nearest_eq f false m e (lastOf f m e) hm rfl, word_false]

/-- in normal form -/
theorem rung_norm (f : Format) (m : Nat) (e : Int) (hm : m ≠ 0) (hlt : m < 2 ^ (f.fractionBits + 1)) (he : f.leastPlace ≤ e)
    (h : e = f.leastPlace ∨ 2 ^ f.fractionBits ≤ m) : rungOf f m e = min ((e - f.leastPlace).toNat * f.binade + m) f.infRung := by
  have hl : lastOf f m e = e := by
    unfold lastOf
    have h1 : m.log2 < f.fractionBits + 1 := (log2_lt_iff _ _ hm).2 hlt
    rcases h with h | h
    · omega
    · have h2 := (le_log2_iff _ _ hm).2 h
      omega
  rw [rung_eq f m e hm, hl]
  simp [rne_zero]

theorem rneG_exact (q g : Nat) (hg : 0 < g) : rneG (q * g) g = q := by
  unfold rneG
  rw [Nat.mul_div_cancel _ hg, Nat.mul_mod_left, if_neg (by omega)]
  omega

/-- a carry out of the significand -/
theorem rung_carry (f : Format) (e : Int) (he : f.leastPlace ≤ e) :
    rungOf f (2 ^ (f.fractionBits + 1)) e = min ((e - f.leastPlace).toNat * f.binade + 2 ^ (f.fractionBits + 1)) f.infRung := by
  have hm : 2 ^ (f.fractionBits + 1) ≠ 0 := Nat.ne_of_gt (Nat.two_pow_pos _)
  have hl : lastOf f (2 ^ (f.fractionBits + 1)) e = e + 1 := by
    unfold lastOf
    rw [Nat.log2_two_pow]
    omega
  rw [rung_eq f _ e hm, hl]
  have h1 : (e - (e + 1)).toNat = 0 := by omega
  have h2 : (e + 1 - e).toNat = 1 := by omega
  have h3 : (e + 1 - f.leastPlace).toNat = (e - f.leastPlace).toNat + 1 := by omega
  rw [h1, h2, h3]
  have h4 : rne (2 ^ (f.fractionBits + 1) <<< 0) 1 = 2 ^ f.fractionBits := by
    rw [Nat.shiftLeft_zero]
    unfold rne
    rw [show 2 ^ (f.fractionBits + 1) = 2 ^ f.fractionBits * 2 ^ 1 from Nat.pow_add 2 _ 1]
    exact rneG_exact _ _ (by omega)
  rw [h4]
  congr 1
  rw [Nat.add_mul, Nat.pow_succ]
  unfold Format.binade
  omega

theorem rneG_le (n g k : Nat) (h : n < k * g) : rneG n g ≤ k := by
  unfold rneG
  have : n / g < k := Nat.div_lt_of_lt_mul (by rw [Nat.mul_comm]; exact h)
  split <;> omega

theorem le_rneG (n g k : Nat) (hg : 0 < g) (h : k * g ≤ n) : k ≤ rneG n g := by
  unfold rneG
  have := (Nat.le_div_iff_mul_le hg).2 h
  omega

/-- the program's 'drop' -/
def dropOf (f : Format) (m : Nat) (e : Int) : Nat := (lastOf f m e - e).toNat

/-- what is rounded to the format's digits rounds no further -/
theorem rung_round (f : Format) (m : Nat) (e : Int) (hm : m ≠ 0) (hd : 0 < dropOf f m e) :
    rungOf f m e = rungOf f (rne m (dropOf f m e)) (e + dropOf f m e) := by
  have hl : lastOf f m e = e + dropOf f m e := by unfold dropOf at hd ⊢; omega
  have h0 : (e - lastOf f m e).toNat = 0 := by omega
  have h1 : (lastOf f m e - e).toNat = dropOf f m e := rfl
  rw [rung_eq f m e hm, h0, h1, Nat.shiftLeft_zero, hl]
  have hle : f.leastPlace ≤ e + dropOf f m e := by rw [← hl]; unfold lastOf; omega
  generalize hdd : dropOf f m e = d at *
  have hlast : e + d = max (e + m.log2 - f.fractionBits) f.leastPlace := by rw [← hl]; rfl
  have hmlt : m < 2 ^ (m.log2 + 1) := Nat.lt_log2_self
  have hub : rne m d ≤ 2 ^ (f.fractionBits + 1) := by
    refine rneG_le _ _ _ (Nat.lt_of_lt_of_le hmlt ?_)
    rw [← Nat.pow_add]
    exact Nat.pow_le_pow_right (by omega) (by omega)
  have hlb : e + d = f.leastPlace ∨ 2 ^ f.fractionBits ≤ rne m d := by
    rcases Int.lt_or_le f.leastPlace (e + m.log2 - f.fractionBits) with h | h
    · right
      refine le_rneG _ _ _ (Nat.two_pow_pos _) ?_
      rw [← Nat.pow_add, ← le_log2_iff _ _ hm]
      omega
    · left; omega
  by_cases hz : rne m d = 0
  · rw [hz, rung_zero]
    rcases hlb with h | h
    · rw [h]; simp
    · rw [hz] at h
      have := Nat.two_pow_pos f.fractionBits
      omega
  · by_cases hc : rne m d = 2 ^ (f.fractionBits + 1)
    · rw [hc, rung_carry f _ hle]
    · rw [rung_norm f (rne m d) _ hz (by omega) hle hlb]

/-- the first loop of encode -/
theorem rung_shl (f : Format) (m : Nat) (e : Int) (k : Nat) (hm : m ≠ 0) (hk : lastOf f m e ≤ e - k) :
    rungOf f (m <<< k) (e - k) = rungOf f m e := by
  have hm' : m <<< k ≠ 0 := by rw [Nat.shiftLeft_eq]; exact Nat.mul_ne_zero hm (Nat.ne_of_gt (Nat.two_pow_pos _))
  have hl : lastOf f (m <<< k) (e - k) = lastOf f m e := by
    unfold lastOf
    rw [log2_shl m k hm]
    omega
  rw [rung_eq f _ _ hm', rung_eq f _ _ hm, hl]
  have h1 : (e - lastOf f m e).toNat = k + (e - k - lastOf f m e).toNat := by omega
  have h2 : (lastOf f m e - e).toNat = 0 := by omega
  have h3 : (lastOf f m e - (e - k)).toNat = 0 := by omega
  rw [h1, h2, h3, Nat.shiftLeft_add]


theorem bitLen_log2 : ∀ (k m : Nat), k ≤ 64 → m < 2 ^ k → m ≠ 0 → Go.Lib.bitLen m = m.log2 + 1
  | 0, m, _, h, h0 => by simp at h; omega
  | k + 1, m, hk, h, h0 => by
    have h64 : m < 2 ^ 64 := Nat.lt_of_lt_of_le h (Nat.pow_le_pow_right (by omega) hk)
    rw [Go.Lib.bitLen_half m h0 h64]
    by_cases h1 : m / 2 = 0
    · have : m = 1 := by omega
      subst this
      decide
    · rw [bitLen_log2 k (m / 2) (by omega) (by rw [Nat.pow_succ] at h; omega) h1]
      have : m.log2 = (m / 2).log2 + 1 := by
        apply Nat.le_antisymm
        · have a : m < 2 ^ ((m / 2).log2 + 1 + 1) := by
            have := @Nat.lt_log2_self (m / 2)
            rw [Nat.pow_succ]; omega
          have := (log2_lt_iff m _ h0).2 a
          omega
        · rw [le_log2_iff m _ h0, Nat.pow_succ]
          have := Nat.log2_self_le h1
          omega
      omega
end Go.Proofs.YtjjfkidddjcdcaaDoor.PL
