/- Proved here: plain facts on the way from a small format's bits to a float and back; no program in sight. Conditions: as each theorem says. -/
import Derived.Test.YtjjfkidddjcdcaaDoorUnpack
namespace Go.Proofs.YtjjfkidddjcdcaaDoor
open Go.RowKit

/-- A whole number below 2^53 times a power of two that is not far from 1 is a float, and reads as that number. -/
theorem double_value (m : Nat) (e : Int) (hm : 0 < m) (hl : m < 9007199254740992) (he1 : -1000 ≤ e) (he2 : e ≤ 900) :
    ∃ k : Nat, PL.mant (PL.rungOf Ieee.double m e) = m <<< k ∧ PL.place (PL.rungOf Ieee.double m e) = e - k ∧ PL.rungOf Ieee.double m e < 9218868437227405312 := by
  have hlog : m.log2 < 53 := (PL.log2_lt_iff m 53 (by omega)).2 hl
  obtain ⟨j, hj⟩ : ∃ j, j + m.log2 = 52 := ⟨52 - m.log2, by omega⟩
  have h1 : m <<< j < 9007199254740992 := (PL.log2_lt_iff (m <<< j) 53 (PL.shl_ne m j (by omega))).1 (by rw [PL.log2_shl m j (by omega)]; omega)
  have h2 : 4503599627370496 ≤ m <<< j := (PL.le_log2_iff (m <<< j) 52 (PL.shl_ne m j (by omega))).1 (by rw [PL.log2_shl m j (by omega)]; omega)
  obtain ⟨f, hf⟩ : ∃ f, m <<< j = 4503599627370496 + f := ⟨m <<< j - 4503599627370496, by omega⟩
  obtain ⟨X, hX⟩ : ∃ X : Nat, (X : Int) = e - j + 1075 := ⟨(e - j + 1075).toNat, by omega⟩
  have hv : PL.rungOf Ieee.double m e = X * 4503599627370496 + f := by
    rw [← PL.rung_val Ieee.double m e j, hf]
    exact ld_norm f _ X (by omega) (by omega) (by omega) (by omega)
  refine ⟨j, ?_, ?_, ?_⟩
  · rw [hv, hf]; exact PL.mant_norm X f (by omega) (by omega)
  · rw [hv, PL.place_norm X f (by omega) (by omega)]; omega
  · rw [hv]; omega

theorem fmt_exact (E F m : Nat) (e : Int) (hm : 0 < m) (hl : m < 9007199254740992) (he1 : -1000 ≤ e) (he2 : e ≤ 900) :
    PL.rungOf (PL.fmt E F) (PL.mant (PL.rungOf Ieee.double m e)) (PL.place (PL.rungOf Ieee.double m e)) = PL.rungOf (PL.fmt E F) m e := by
  obtain ⟨k, h1, h2, _⟩ := double_value m e hm hl he1 he2
  rw [h1, h2]
  exact PL.rung_val _ _ _ _

theorem fmt_inf (E F : Nat) : (PL.fmt E F).infRung = (2 ^ E - 1) * 2 ^ F := rfl
theorem fmt_bin (E F : Nat) : (PL.fmt E F).binade = 2 ^ F := rfl

theorem fmt_norm (E F x f : Nat) (hx : 0 < x) (hx2 : x < 2 ^ E - 1) (hf : f < 2 ^ F) :
    PL.rungOf (PL.fmt E F) (2 ^ F + f) ((x : Int) - PL.biasOf E - F) = x * 2 ^ F + f := by
  rw [PL.rung_norm (PL.fmt E F) (2 ^ F + f) _ (by have := Nat.two_pow_pos F; omega) (by show _ < 2 ^ (F + 1); rw [Nat.pow_succ]; omega) (by rw [PL.least_eq]; omega) (.inr (by show 2 ^ F ≤ _; omega)), PL.least_eq, fmt_inf, fmt_bin]
  have e : ((x : Int) - PL.biasOf E - F - (1 - (PL.biasOf E : Int) - F)).toNat = x - 1 := by omega
  rw [e]
  have h1 : (x - 1 + 1) * 2 ^ F = x * 2 ^ F := by rw [Nat.sub_add_cancel hx]
  have h2 : (x + 1) * 2 ^ F ≤ (2 ^ E - 1) * 2 ^ F := Nat.mul_le_mul_right _ (by omega)
  rw [Nat.add_mul] at h1 h2
  omega

theorem fmt_low (E F f : Nat) (hE : 2 ≤ E) (hf : f < 2 ^ F) (h0 : 0 < f) :
    PL.rungOf (PL.fmt E F) f (1 - (PL.biasOf E : Int) - F) = f := by
  rw [PL.rung_norm (PL.fmt E F) f _ (by omega) (by show _ < 2 ^ (F + 1); rw [Nat.pow_succ]; omega) (by rw [PL.least_eq]; omega) (.inl (by rw [PL.least_eq])), PL.least_eq, fmt_inf]
  rw [Int.sub_self]
  have h2 : 1 * 2 ^ F ≤ (2 ^ E - 1) * 2 ^ F := Nat.mul_le_mul_right _ (by have : 2 ^ 2 ≤ 2 ^ E := PL.pow_bound _ _ hE; omega)
  show min (0 * _ + f) _ = f
  omega

/-- The parts of a small format's bits make them. -/
theorem parts_back (E F b : Nat) (hr : b / 2 ^ (1 + E + F) = 0) : (if negP E F b then 2 ^ (E + F) else 0) + (expP E F b * 2 ^ F + fracP F b) = b := by
  have hlt : b < 2 ^ (1 + E + F) := by
    rcases Nat.div_eq_zero_iff.1 hr with h | h
    · have := Nat.two_pow_pos (1 + E + F); omega
    · exact h
  have e1 := Nat.div_add_mod b (2 ^ F)
  have e2 := Nat.div_add_mod (b / 2 ^ F) (2 ^ E)
  have e3 : b / 2 ^ F / 2 ^ E = b / 2 ^ (E + F) := by rw [Nat.div_div_eq_div_mul, ← Nat.pow_add, Nat.add_comm F E]
  have e4 : b / 2 ^ (E + F) < 2 := by
    refine Nat.div_lt_of_lt_mul ?_
    rw [← Nat.pow_succ, show (E + F).succ = 1 + E + F by omega]
    exact hlt
  rw [e3] at e2
  unfold negP expP fracP
  rw [Nat.mul_comm (2 ^ F)] at e1
  have e5 : (2 ^ E * (b / 2 ^ (E + F)) + b / 2 ^ F % 2 ^ E) * 2 ^ F = b / 2 ^ F * 2 ^ F := by rw [e2]
  rw [Nat.add_mul] at e5
  clear e2 e3 hr hlt
  generalize b / 2 ^ (E + F) = i at *
  generalize b / 2 ^ F % 2 ^ E = x at *
  generalize b / 2 ^ F = y at *
  generalize b % 2 ^ F = f at *
  by_cases h : i = 1
  · rw [if_pos (by simpa using h)]
    rw [h, Nat.mul_one, ← Nat.pow_add] at e5
    omega
  · rw [if_neg (by simpa using h)]
    have h0 : i = 0 := by omega
    rw [h0, Nat.mul_zero, Nat.zero_mul] at e5
    omega

/-- The float of a small format's bits. -/
def largeW (E F b : Nat) : Nat := (if negP E F b then 9223372036854775808 else 0) + bodyP E F b

theorem body_le (E F b : Nat) (hE1 : 2 ≤ E) (hE2 : E ≤ 8) (hF : F ≤ 23) : bodyP E F b ≤ 9218868437227405312 := by
  have hb : PL.biasOf E ≤ 127 := by
    have p1 : 2 ^ (E - 1) ≤ 2 ^ 7 := PL.pow_bound _ _ (by omega)
    unfold PL.biasOf; omega
  have hfr : fracP F b < 2 ^ F := Nat.mod_lt _ (Nat.two_pow_pos F)
  have hF8 : 2 ^ F ≤ 2 ^ 23 := PL.pow_bound _ _ hF
  have hE8 : 2 ^ E ≤ 2 ^ 8 := PL.pow_bound _ _ hE2
  have hex : expP E F b < 2 ^ E := Nat.mod_lt _ (Nat.two_pow_pos E)
  unfold bodyP
  generalize fracP F b = f at *
  generalize expP E F b = x at *
  generalize PL.biasOf E = B at *
  generalize 2 ^ E - 1 = T at *
  have h0 : 0 < 2 ^ F := Nat.two_pow_pos F
  split
  · exact Nat.le_refl _
  · split
    · obtain ⟨k, _, _, h⟩ := double_value (2 ^ F + f) ((x : Int) - B - F) (by omega) (by omega) (by omega) (by omega)
      omega
    · by_cases hf : f = 0
      · subst hf; rw [PL.rung_zero]; omega
      · obtain ⟨k, _, _, h⟩ := double_value f (1 - (B : Int) - F) (by omega) (by omega) (by omega) (by omega)
        omega

theorem large_parts (E F b : Nat) (hE1 : 2 ≤ E) (hE2 : E ≤ 8) (hF : F ≤ 23) : largeW E F b < 18446744073709551616 ∧ PL.rung (largeW E F b) = bodyP E F b ∧ sgn (largeW E F b) = negP E F b := by
  have h := body_le E F b hE1 hE2 hF
  unfold largeW PL.rung sgn
  generalize bodyP E F b = B at *
  cases negP E F b
  · rw [if_neg (by simp)]
    exact ⟨by omega, by omega, decide_eq_false (by omega)⟩
  · rw [if_pos rfl]
    exact ⟨by omega, by omega, decide_eq_true (by omega)⟩

/-- The way back: the bits of the float of bits are these. -/
theorem small_back (E F b : Nat) (hr : b / 2 ^ (1 + E + F) = 0) (hE1 : 2 ≤ E) (hE2 : E ≤ 8) (hF : F ≤ 23) (hn : ¬ (expP E F b = 2 ^ E - 1 ∧ fracP F b ≠ 0)) : smallW E F (largeW E F b) = b := by
  obtain ⟨_, h1, h2⟩ := large_parts E F b hE1 hE2 hF
  have hp := parts_back E F b hr
  unfold smallW
  rw [h1, h2]
  suffices h : (if bodyP E F b = 9218868437227405312 then (2 ^ E - 1) * 2 ^ F else PL.rungOf (PL.fmt E F) (PL.mant (bodyP E F b)) (PL.place (bodyP E F b))) = expP E F b * 2 ^ F + fracP F b by
    rw [h]; exact hp
  have hb : PL.biasOf E ≤ 127 := by
    have p1 : 2 ^ (E - 1) ≤ 2 ^ 7 := PL.pow_bound _ _ (by omega)
    unfold PL.biasOf; omega
  have hfr : fracP F b < 2 ^ F := Nat.mod_lt _ (Nat.two_pow_pos F)
  have hF8 : 2 ^ F ≤ 2 ^ 23 := PL.pow_bound _ _ hF
  have hE8 : 2 ^ E ≤ 2 ^ 8 := PL.pow_bound _ _ hE2
  have hex : expP E F b < 2 ^ E := Nat.mod_lt _ (Nat.two_pow_pos E)
  have h0 : 0 < 2 ^ F := Nat.two_pow_pos F
  unfold bodyP
  clear hp h1 h2 hr
  generalize fracP F b = f at *
  generalize expP E F b = x at *
  by_cases c1 : x = 2 ^ E - 1
  · rw [if_pos c1, if_pos rfl, c1]
    have : f = 0 := by
      apply Classical.byContradiction; intro h; exact hn ⟨c1, h⟩
    omega
  · rw [if_neg c1]
    by_cases c2 : 0 < x
    · rw [if_pos c2]
      obtain ⟨k, k1, k2, k3⟩ := double_value (2 ^ F + f) ((x : Int) - PL.biasOf E - F) (by omega) (by omega) (by omega) (by omega)
      rw [if_neg (by omega), k1, k2, PL.rung_val]
      exact fmt_norm E F x f c2 (by omega) hfr
    · rw [if_neg c2]
      have hx : x = 0 := by omega
      by_cases hf : f = 0
      · subst hf
        rw [PL.rung_zero, if_neg (by omega), show PL.mant 0 = 0 from rfl, PL.rung_zero, hx]
        omega
      · obtain ⟨k, k1, k2, k3⟩ := double_value f (1 - (PL.biasOf E : Int) - F) (by omega) (by omega) (by omega) (by omega)
        rw [if_neg (by omega), k1, k2, PL.rung_val, hx]
        have := fmt_low E F f hE1 hfr (by omega)
        omega
end Go.Proofs.YtjjfkidddjcdcaaDoor
