/- Proved here: plain facts on the division of words by a power of two, word by word from above. Conditions: as each theorem says. -/
import Derived.Test.YtjjfkidddjcdcaaDoorSmallDiv
namespace Go.Proofs.YtjjfkidddjcdcaaDoor
open Go.RowKit

/-- The divisor's words: 2^31 above, below it noughts. -/
def topV (N : Nat) : Nat := 2147483648 * B N
theorem topV_pos (N : Nat) : 0 < topV N := Nat.mul_pos (by omega) (B_pos N)
theorem topV_add (N j : Nat) : topV N * B j = topV (N + j) := by
  unfold topV
  rw [Nat.mul_assoc, ← B_add]
theorem topV_succ (N : Nat) : topV (N + 1) = topV N * 4294967296 := by
  unfold topV
  rw [B_succ, Nat.mul_assoc]
theorem topV_lt (N : Nat) : topV N < B (N + 1) := by
  unfold topV
  have := B_pos N
  rw [B_succ]
  omega
theorem dig_topV_low (N i : Nat) (h : i < N) : dig (topV N) i = 0 := by
  have := dig_add_high 0 2147483648 N i h
  rw [Nat.zero_add] at this
  exact this.trans (by unfold dig; simp)
theorem dig_topV_top (N : Nat) : dig (topV N) N = 2147483648 := by
  unfold dig topV
  rw [Nat.mul_div_cancel _ (B_pos N)]
theorem wc_topV (N : Nat) : wc (topV N) = N + 1 := wc_eq (topV_lt N) (by rw [dig_topV_top]; omega)

/-- One round: what is left, W, below 2^31 in its word K + 1; the word of the quotient; what is left then. -/
theorem div_round (W K : Nat) (hW : W < topV (K + 1)) :
    dig W (K + 1) < 2147483648 ∧ W / topV K = (dig W (K + 1) * 4294967296 + dig W K) / 2147483648 ∧
    (∀ i, dig (W % topV K) i = if i = K then (dig W (K + 1) * 4294967296 + dig W K) % 2147483648 else if i = K + 1 then 0 else dig W i) := by
  have h1 : W < B (K + 2) := Nat.lt_trans hW (topV_lt _)
  have h2 : dig W (K + 1) = W / B (K + 1) := dig_top W (K + 1) h1
  have h3 : W / B (K + 1) < 2147483648 := by
    rw [Nat.div_lt_iff_lt_mul (B_pos _)]
    exact hW
  have h4 := div_B W K
  rw [← h2] at h4
  have h5 : W / topV K = W / B K / 2147483648 := by
    unfold topV
    rw [Nat.div_div_eq_div_mul, Nat.mul_comm]
  have hWm : W % topV K = W % B K + (W / B K % 2147483648) * B K := by
    unfold topV
    rw [Nat.mul_comm, Nat.mod_mul, Nat.mul_comm (B K)]
  refine ⟨by omega, by rw [h5, h4], fun i => ?_⟩
  rw [hWm, h4]
  obtain ⟨r, hr⟩ : ∃ r, (dig W (K + 1) * 4294967296 + dig W K) % 2147483648 = r := ⟨_, rfl⟩
  have hr2 : r < 2147483648 := by omega
  rw [hr]
  have hlo := Nat.mod_lt W (B_pos K)
  by_cases e1 : i = K
  · subst e1
    rw [if_pos rfl]
    unfold dig
    rw [Nat.add_mul_div_right _ _ (B_pos i), Nat.div_eq_of_lt hlo, Nat.zero_add, Nat.mod_eq_of_lt (by omega)]
  · rw [if_neg e1]
    rcases Nat.lt_or_ge i K with e | e
    · rw [if_neg (by omega), dig_add_high _ _ _ _ e]
      have := dig_add_high (W % B K) (W / B K) K i e
      rw [← this, Nat.mul_comm, Nat.add_comm, Nat.div_add_mod]
    · have hlt : W % B K + r * B K < B (K + 1) := by
        rw [B_succ]
        have : r * B K ≤ 2147483647 * B K := Nat.mul_le_mul_right _ (by omega)
        omega
      have hge : W % B K + r * B K < B i := Nat.lt_of_lt_of_le hlt (B_le (by omega))
      have z : dig (W % B K + r * B K) i = 0 := by unfold dig; rw [Nat.div_eq_of_lt hge]
      rw [z]
      by_cases e2 : i = K + 1
      · rw [if_pos e2]
      · rw [if_neg e2]
        unfold dig
        rw [Nat.div_eq_of_lt (Nat.lt_of_lt_of_le h1 (B_le (by omega)))]

/-- The rounds' chain: U is divided by topV N. -/
def divW (U N j : Nat) : Nat := U % topV (N + j)
theorem divW_lt (U N j : Nat) : divW U N j < topV (N + j) := Nat.mod_lt _ (topV_pos _)
theorem divW_step (U N j : Nat) : divW U N (j + 1) % topV (N + j) = divW U N j ∧ divW U N (j + 1) / topV (N + j) = dig (U / topV N) j := by
  unfold divW
  rw [show N + (j + 1) = N + j + 1 from rfl, topV_succ]
  refine ⟨Nat.mod_mul_right_mod _ _ _, ?_⟩
  rw [Nat.mod_mul_right_div_self]
  unfold dig
  rw [Nat.div_div_eq_div_mul, topV_add]

/-- The divisor 2^k, moved left till its top word is full. -/
theorem shift_topV (k : Nat) : 2 ^ k * 2 ^ (31 - k % 32) = topV (k / 32) := by
  unfold topV B
  rw [show (2147483648 : Nat) = 2 ^ 31 from rfl, ← Nat.pow_add, ← Nat.pow_add]
  congr 1
  omega
theorem div_shift (a k : Nat) : a * 2 ^ (31 - k % 32) / topV (k / 32) = a / 2 ^ k ∧ a * 2 ^ (31 - k % 32) % topV (k / 32) / 2 ^ (31 - k % 32) = a % 2 ^ k := by
  rw [← shift_topV]
  have hp := Nat.two_pow_pos (31 - k % 32)
  refine ⟨Nat.mul_div_mul_right _ _ hp, ?_⟩
  rw [Nat.mul_mod_mul_right, Nat.mul_div_cancel _ hp]
theorem wc_pow (k : Nat) : wc (2 ^ k) = k / 32 + 1 := by
  unfold wc
  rw [if_neg (Nat.ne_of_gt (Nat.two_pow_pos k)), Nat.log2_two_pow]
theorem bl_pow (k : Nat) : bl (2 ^ k) = k + 1 := by
  unfold bl
  rw [if_neg (Nat.ne_of_gt (Nat.two_pow_pos k)), Nat.log2_two_pow]
/-- Moved left by less than a word, a number has at most one word more, and that one below 2^31. -/
theorem shifted_lt (a s m : Nat) (ha : a < B m) (hs : s ≤ 31) : a * 2 ^ s < topV m := by
  unfold topV
  have hP : 2 ^ s ≤ 2147483648 := PL.pow_bound s 31 hs
  have h1 : a * 2 ^ s < B m * 2 ^ s := Nat.mul_lt_mul_of_pos_right ha (Nat.two_pow_pos s)
  have h2 : B m * 2 ^ s ≤ B m * 2147483648 := Nat.mul_le_mul_left _ hP
  rw [Nat.mul_comm 2147483648]
  omega
end Go.Proofs.YtjjfkidddjcdcaaDoor
