/- Proved here: plain facts on a format's words as the program's encode makes them; no program in sight. Conditions: as each theorem says. -/
import Derived.Test.YtjjfkidddjcdcaaDoorBits
namespace Go.Proofs.YtjjfkidddjcdcaaDoor.PL
open Ieee
open Go.RowKit (Hid wrap64)

def fmt (E F : Nat) : Format := { exponentBits := E, fractionBits := F }
def biasOf (E : Nat) : Nat := 2 ^ (E - 1) - 1

theorem least_eq (E F : Nat) : (fmt E F).leastPlace = 1 - (biasOf E : Int) - F := by
  unfold Format.leastPlace fmt biasOf
  have := Nat.two_pow_pos (E - 1)
  have h : (2 : Int) ^ (E - 1) = ((2 ^ (E - 1) : Nat) : Int) := pow_cast _
  simp only [h]
  generalize 2 ^ (E - 1) = p at *
  omega

theorem shl_ne (m k : Nat) (hm : m ≠ 0) : m <<< k ≠ 0 := by rw [Nat.shiftLeft_eq]; exact Nat.mul_ne_zero hm (Nat.ne_of_gt (Nat.two_pow_pos _))

theorem pow_bound (k n : Nat) (h : k ≤ n) : 2 ^ k ≤ 2 ^ n := Nat.pow_le_pow_right (by omega) h

/-- what the loops leave -/
theorem rung_of_loop (E F m k : Nat) (e last : Int) (hm0 : m ≠ 0) (hlast : last = max (e + m.log2 - F) (1 - (biasOf E : Int) - F)) (hk : (k : Int) = e - last) (hlg : m.log2 + k ≤ F) (hn : e - k = 1 - (biasOf E : Int) - F ∨ F < m.log2 + k + 1) :
    rungOf (fmt E F) m e = min ((e - k - (1 - (biasOf E : Int) - F)).toNat * 2 ^ F + m <<< k) ((2 ^ E - 1) * 2 ^ F) := by
  have hl : lastOf (fmt E F) m e = last := by
    unfold lastOf
    rw [least_eq, hlast]
    rfl
  rw [← rung_shl (fmt E F) m e k hm0 (by rw [hl]; omega)]
  have hlog := log2_shl m k hm0
  have h1 : m <<< k < 2 ^ (F + 1) := by
    rw [← log2_lt_iff _ _ (shl_ne m k hm0), hlog]
    omega
  rw [rung_norm (fmt E F) (m <<< k) (e - k) (shl_ne m k hm0) h1 (by rw [least_eq]; omega) ?_, least_eq]
  · rfl
  · rw [least_eq]
    rcases hn with hn | hn
    · exact .inl hn
    · right
      show 2 ^ F ≤ m <<< k
      rw [← le_log2_iff _ _ (shl_ne m k hm0), hlog]
      omega

theorem fin_low (E F m k : Nat) (e last : Int) (hE : 2 ≤ E) (hm0 : m ≠ 0) (hlast : last = max (e + m.log2 - F) (1 - (biasOf E : Int) - F)) (hk : (k : Int) = e - last) (hlF : m.log2 + k + 1 ≤ F) (hle : e - k ≤ 1 - (biasOf E : Int) - F) :
    rungOf (fmt E F) m e = m <<< k := by
  rw [rung_of_loop E F m k e last hm0 hlast hk (by omega) (.inl (by omega))]
  have h0 : (e - k - (1 - (biasOf E : Int) - F)).toNat = 0 := by omega
  have h1 : m <<< k < 2 ^ F := by
    rw [← log2_lt_iff _ _ (shl_ne m k hm0), log2_shl m k hm0]
    omega
  have h2 : 2 ^ 2 ≤ 2 ^ E := pow_bound 2 E hE
  have h3 : 1 * 2 ^ F ≤ (2 ^ E - 1) * 2 ^ F := Nat.mul_le_mul_right _ (by omega)
  rw [h0]
  generalize 2 ^ F = p at *
  generalize 2 ^ E = q at *
  generalize (q - 1) * p = r at *
  omega

theorem fin_norm (E F m k X : Nat) (e last : Int) (hm0 : m ≠ 0) (hlast : last = max (e + m.log2 - F) (1 - (biasOf E : Int) - F)) (hk : (k : Int) = e - last) (hlg : m.log2 + k = F) (hX : (X : Int) = e - k + F + biasOf E) :
    rungOf (fmt E F) m e = min (X * 2 ^ F + m <<< k % 2 ^ F) ((2 ^ E - 1) * 2 ^ F) := by
  rw [rung_of_loop E F m k e last hm0 hlast hk (by omega) (.inr (by omega))]
  have hlog := log2_shl m k hm0
  have h1 : 2 ^ F ≤ m <<< k := by
    rw [← le_log2_iff _ _ (shl_ne m k hm0), hlog]; omega
  have h2 : m <<< k < 2 ^ (F + 1) := by
    rw [← log2_lt_iff _ _ (shl_ne m k hm0), hlog]; omega
  have h3 : m <<< k % 2 ^ F = m <<< k - 2 ^ F := by
    rw [Nat.pow_succ] at h2
    rw [Nat.mod_eq_sub_mod h1, Nat.mod_eq_of_lt (by omega)]
  rw [h3]
  have h4 : (e - k - (1 - (biasOf E : Int) - F)).toNat = X - 1 := by omega
  have hX1 : 1 ≤ X := by omega
  obtain ⟨Y, rfl⟩ : ∃ Y, X = Y + 1 := ⟨X - 1, by omega⟩
  rw [h4, Nat.add_sub_cancel, Nat.add_mul]
  generalize 2 ^ F = p at *
  generalize Y * p = z at *
  congr 1
  omega

theorem fin_inf (E F m k X : Nat) (e last : Int) (hm0 : m ≠ 0) (hlast : last = max (e + m.log2 - F) (1 - (biasOf E : Int) - F)) (hk : (k : Int) = e - last) (hlg : m.log2 + k = F) (hX : (X : Int) = e - k + F + biasOf E)
    (hT : 2 ^ E - 1 ≤ X) : rungOf (fmt E F) m e = (2 ^ E - 1) * 2 ^ F := by
  rw [fin_norm E F m k X e last hm0 hlast hk hlg hX]
  have : (2 ^ E - 1) * 2 ^ F ≤ X * 2 ^ F := Nat.mul_le_mul_right _ hT
  omega

theorem fin_fin (E F m k X : Nat) (e last : Int) (hm0 : m ≠ 0) (hlast : last = max (e + m.log2 - F) (1 - (biasOf E : Int) - F)) (hk : (k : Int) = e - last) (hlg : m.log2 + k = F) (hX : (X : Int) = e - k + F + biasOf E)
    (hT : X < 2 ^ E - 1) : rungOf (fmt E F) m e = X * 2 ^ F + m <<< k % 2 ^ F := by
  rw [fin_norm E F m k X e last hm0 hlast hk hlg hX]
  have h1 : (X + 1) * 2 ^ F ≤ (2 ^ E - 1) * 2 ^ F := Nat.mul_le_mul_right _ hT
  have h2 : m <<< k % 2 ^ F < 2 ^ F := Nat.mod_lt _ (Nat.two_pow_pos _)
  rw [Nat.add_mul] at h1
  omega

theorem word_inf (E F : Nat) (hE1 : 2 ≤ E) (hE2 : E ≤ 11) (hF2 : F ≤ 52) :
    IntKind.u64.wrap (IntKind.u64.wrap (IntKind.u64.wrap (2 ^ E) - 1) * 2 ^ F) = (((2 ^ E - 1) * 2 ^ F : Nat) : Int) := by
  have h1 : 2 ^ E ≤ 2 ^ 11 := pow_bound _ _ hE2
  have h2 : 2 ^ F ≤ 2 ^ 52 := pow_bound _ _ hF2
  have h0 := Nat.two_pow_pos E
  have h3 : (2 ^ E - 1) * 2 ^ F ≤ 2 ^ 11 * 2 ^ 52 := Nat.mul_le_mul (by omega) h2
  have e1 : IntKind.u64.wrap (IntKind.u64.wrap (2 ^ E) - 1) = ((2 ^ E - 1 : Nat) : Int) := by
    rw [wrap_pow E (by omega), IntKind.wrap_u64]
    generalize 2 ^ E = p at *
    omega
  rw [e1, pow_cast F, ← Int.natCast_mul, IntKind.wrap_u64]
  generalize (2 ^ E - 1) * 2 ^ F = p at *
  omega

theorem word_fin (E F S X : Nat) (hE2 : E ≤ 11) (hF2 : F ≤ 52) (hS : S < 18446744073709551616) (hX : X < 2 ^ E - 1) :
    bits BinOp.or IntKind.u64 (IntKind.u64.wrap ((X : Int) * 2 ^ F)) (bits BinOp.and IntKind.u64 (S : Int) (IntKind.u64.wrap (IntKind.u64.wrap (2 ^ F) - 1))) = ((X * 2 ^ F + S % 2 ^ F : Nat) : Int) := by
  have h1 : 2 ^ E ≤ 2 ^ 11 := pow_bound _ _ hE2
  have h2 : 2 ^ F ≤ 2 ^ 52 := pow_bound _ _ hF2
  have h3 : X * 2 ^ F ≤ 2 ^ 11 * 2 ^ 52 := Nat.mul_le_mul (by omega) h2
  have h4 : S % 2 ^ F < 2 ^ F := Nat.mod_lt _ (Nat.two_pow_pos _)
  rw [and_mask S F hS (by omega), pow_cast F, ← Int.natCast_mul, IntKind.wrap_u64]
  have e1 : ((X * 2 ^ F : Nat) : Int) % 18446744073709551616 = ((X * 2 ^ F : Nat) : Int) := by
    generalize X * 2 ^ F = p at *
    omega
  rw [e1, u64_or_nat _ _ (by omega) (by omega), nat_join F _ _ (Nat.mul_mod_left _ _) h4]

theorem wrap64_pow (k : Nat) (h : k < 62) : wrap64 (wrap64 (2 ^ k) - 1) = ((2 ^ k - 1 : Nat) : Int) := by
  have h1 : 2 ^ k ≤ 2 ^ 61 := pow_bound _ _ (by omega)
  have h0 := Nat.two_pow_pos k
  rw [pow_cast]
  unfold wrap64
  generalize 2 ^ k = p at *
  omega
end Go.Proofs.YtjjfkidddjcdcaaDoor.PL
