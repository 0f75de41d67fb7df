/- Proved here: plain facts on the word of a small format that the document's Small gives; no program in sight. Conditions: as each theorem says.
   Proved here: the quotient in the document's Small at this program. Conditions: as each theorem says. -/
import Derived.Test.YtjjfkidddjcdcaaDoorRatOf
import Derived.Test.YtjjfkidddjcdcaaDoorOdd
import Derived.Test.YtjjfkidddjcdcaaDoorRatQuo
import Derived.Test.YtjjfkidddjcdcaaDoorNearInt
namespace Go.Proofs.YtjjfkidddjcdcaaDoor
open Go.RowKit

theorem rne_same {a a' D D' : Nat} (hD : 0 < D) (hD' : 0 < D') (h : a * D' = a' * D) : PL.rneG a D = PL.rneG a' D' := by
  rw [← PL.rneG_scale a D D' hD', ← PL.rneG_scale a' D' D hD, h, Nat.mul_comm D' D]

/-- The place of the last digit in the format. -/
def lastP (E F r : Nat) : Int := max (PL.place r + (PL.mant r).log2) (1 - (PL.biasOf E : Int)) - F
/-- How many units of that place. -/
def unitsP (E F r : Nat) : Nat := PL.rne (PL.mant r <<< (PL.place r - lastP E F r).toNat) (lastP E F r - PL.place r).toNat

theorem units_of (E F r : Nat) (a1 a3 j1 j2 j3 s : Nat) (h1 : a1 * 2 ^ fltK r = fltA r * 2 ^ j1) (h2 : s + (-lastP E F r).toNat = (lastP E F r).toNat + j2) (h3 : a3 * 2 ^ (j1 + s) = a1 * 2 ^ j2 * 2 ^ j3) : PL.rneG a3 (2 ^ j3) = unitsP E F r := by
  unfold unitsP PL.rne
  refine rne_same (Nat.two_pow_pos _) (Nat.two_pow_pos _) ?_
  unfold fltA fltK at h1
  rw [Nat.shiftLeft_eq]
  generalize PL.place r = p at *
  generalize lastP E F r = c at *
  generalize PL.mant r = m at *
  have hX : 0 < 2 ^ (j1 + s) * 2 ^ (-p).toNat := Nat.mul_pos (Nat.two_pow_pos _) (Nat.two_pow_pos _)
  apply Nat.eq_of_mul_eq_mul_right hX
  have e : p.toNat + j1 + j2 + j3 + (c - p).toNat = (p - c).toNat + j3 + ((j1 + s) + (-p).toNat) := by omega
  have l : a3 * 2 ^ (c - p).toNat * (2 ^ (j1 + s) * 2 ^ (-p).toNat) = m * 2 ^ (p.toNat + j1 + j2 + j3 + (c - p).toNat) := by
    rw [show a3 * 2 ^ (c - p).toNat * (2 ^ (j1 + s) * 2 ^ (-p).toNat) = (a3 * 2 ^ (j1 + s)) * 2 ^ (-p).toNat * 2 ^ (c - p).toNat by
      generalize 2 ^ (c - p).toNat = u
      generalize 2 ^ (j1 + s) = v
      generalize 2 ^ (-p).toNat = x
      grind, h3]
    rw [show a1 * 2 ^ j2 * 2 ^ j3 * 2 ^ (-p).toNat * 2 ^ (c - p).toNat = (a1 * 2 ^ (-p).toNat) * 2 ^ j2 * 2 ^ j3 * 2 ^ (c - p).toNat by
      generalize 2 ^ (c - p).toNat = u
      generalize 2 ^ j2 = v
      generalize 2 ^ j3 = y
      generalize 2 ^ (-p).toNat = x
      grind, h1]
    rw [Nat.pow_add, Nat.pow_add, Nat.pow_add, Nat.pow_add]
    simp only [Nat.mul_assoc]
  rw [l, e, Nat.pow_add, Nat.pow_add, Nat.pow_add]
  simp only [Nat.mul_assoc]

theorem small_word (E F r : Nat) (hm : PL.mant r ≠ 0) (X : Nat) (hX : (X : Int) = lastP E F r + F + PL.biasOf E - 1) :
    PL.rungOf (PL.fmt E F) (PL.mant r) (PL.place r) = min (X * 2 ^ F + unitsP E F r) ((2 ^ E - 1) * 2 ^ F) := by
  have hl : PL.lastOf (PL.fmt E F) (PL.mant r) (PL.place r) = lastP E F r := by
    unfold PL.lastOf lastP
    rw [PL.least_eq]
    show max (PL.place r + (PL.mant r).log2 - (F : Int)) _ = _
    omega
  rw [PL.rung_eq _ _ _ hm, hl, PL.least_eq]
  have e : (lastP E F r - (1 - (PL.biasOf E : Int) - F)).toNat = X := by omega
  rw [e]
  rfl

theorem units_le (E F r : Nat) : unitsP E F r ≤ 2 ^ (F + 1) := by
  unfold unitsP
  have hlt : PL.mant r < 2 ^ ((PL.mant r).log2 + 1) := Nat.lt_log2_self
  refine PL.rneG_le _ _ _ ?_
  rw [Nat.shiftLeft_eq, ← Nat.pow_add]
  refine Nat.lt_of_lt_of_le (Nat.mul_lt_mul_of_pos_right hlt (Nat.two_pow_pos _)) ?_
  rw [← Nat.pow_add]
  refine PL.pow_bound _ _ ?_
  unfold lastP
  omega

theorem big_place (r : Nat) (h0 : 0 < r) (h : r < 9218868437227405312) : bigE r + 52 = PL.place r + (PL.mant r).log2 := by
  have hr : PL.rung r = r := rung_small r (by omega)
  unfold bigE
  rw [hr]
  by_cases hs : r < 4503599627370496
  · rw [if_pos hs, PL.place_small r hs, PL.mant_small r hs]; omega
  · have hx : expo r = r / 4503599627370496 := by unfold expo; omega
    have hm : PL.mant r = 4503599627370496 + r % 4503599627370496 := if_neg hs
    have hl : (PL.mant r).log2 = 52 := by
      have a1 := (PL.le_log2_iff (PL.mant r) 52 (by omega)).2 (by omega)
      have a2 := (PL.log2_lt_iff (PL.mant r) 53 (by omega)).2 (by omega)
      omega
    rw [if_neg hs, hl]
    unfold PL.place
    omega

theorem mant_pos {r : Nat} (h : 0 < r) : 0 < PL.mant r := by
  unfold PL.mant
  split <;> omega
end Go.Proofs.YtjjfkidddjcdcaaDoor

namespace Go.Proofs.YtjjfkidddjcdcaaDoor
open Go.ChangeShapes Go.WideShapes Go.ChangeAt Go.RowKit

theorem two_of {a n k : Nat} (h : a * 2 ^ k = 2 ^ n) : k ≤ n ∧ a = 2 ^ (n - k) := by
  have ha : 0 < a := by
    rcases Nat.eq_zero_or_pos a with h0 | h0
    · rw [h0, Nat.zero_mul] at h; have := Nat.two_pow_pos n; omega
    · exact h0
  have hk : k ≤ n := by
    have : 2 ^ k ≤ 2 ^ n := by rw [← h]; exact Nat.le_mul_of_pos_left _ ha
    exact (Nat.pow_le_pow_iff_right (a := 2) (by omega)).1 this
  refine ⟨hk, ?_⟩
  have h2 : 2 ^ n = 2 ^ (n - k) * 2 ^ k := by rw [← Nat.pow_add]; congr 1; omega
  rw [h2] at h
  exact Nat.eq_of_mul_eq_mul_right (Nat.two_pow_pos k) h

theorem cast_eq2 {a b c d : Nat} (h : (a : Int) * 2 ^ b = (c : Int) * 2 ^ d) : a * 2 ^ b = c * 2 ^ d := by
  rw [pow_cast, pow_cast, ← Int.natCast_mul, ← Int.natCast_mul] at h
  exact Int.ofNat.inj h

theorem shift_lt {x A : Nat} (s : Nat) (h : x < 2 ^ A) : x * 2 ^ s < 2 ^ (A + s) := by
  rw [Nat.pow_add]; exact Nat.mul_lt_mul_of_pos_right h (Nat.two_pow_pos s)
theorem flt_bounds (r : Nat) (hr : r < 9218868437227405312) : (∃ n, n ≤ 1030 ∧ fltA r < 2 ^ n) ∧ fltK r ≤ 1074 := by
  have hm : PL.mant r < 2 ^ 53 := by
    show PL.mant r < 9007199254740992
    unfold PL.mant
    split <;> omega
  have hp : PL.place r ≤ 971 ∧ -1074 ≤ PL.place r := by unfold PL.place; omega
  unfold fltA fltK
  exact ⟨⟨53 + (PL.place r).toNat, by omega, shift_lt _ hm⟩, by omega⟩

def QuoOut (wq : World) (g u : Nat) (e : Ending) (w' : World) : Prop :=
  e = .returned (.pointer (some ⟨g, 0, none⟩)) ∧ wq.grownBy w' (some g) ∧ ∃ a3 j3 : Nat, RatAt w' g (a3 : Int) j3 ∧ PL.rneG a3 (2 ^ j3) = u ∧ wc a3 ≤ 1000 ∧ j3 ≤ 10000

theorem small_quo (g gx gy E F r : Nat) (c : Int) (wq : World) (hz1 : At wq g 0 0) (hz2 : At wq g 2 0) (hr : r < 9218868437227405312) (hc : lastP E F r = c) (hc1 : -5000 ≤ c) (hc2 : c ≤ 5000)
    (hx : RatIs wq gx ((fltA r : Nat) : Int) (fltK r)) (hy : RatIs wq gy ((2 ^ c.toNat : Nat) : Int) (-c).toNat) :
    Calls Tryd.prog 74 #[.pointer (some ⟨g, 0, none⟩), .pointer (some ⟨gx, 0, none⟩), .pointer (some ⟨gy, 0, none⟩)] wq (QuoOut wq g (unitsP E F r)) := by
  obtain ⟨⟨nb, nb1, fb1⟩, fb2⟩ := flt_bounds r hr
  obtain ⟨a1, j1, r1, e1, b1, k1, _, p1⟩ := hx
  obtain ⟨a2, j2, r2, e2, b2, k2, _, p2⟩ := hy
  obtain ⟨A1, rfl⟩ : ∃ n : Nat, a1 = n := ⟨a1.toNat, by have := p1 (Int.natCast_nonneg _); omega⟩
  obtain ⟨A2, rfl⟩ : ∃ n : Nat, a2 = n := ⟨a2.toNat, by have := p2 (Int.natCast_nonneg _); omega⟩
  have e1' := cast_eq2 e1
  have e2' := cast_eq2 e2
  rw [← Nat.pow_add] at e2'
  obtain ⟨t1, t2⟩ := two_of e2'
  obtain ⟨s, hs⟩ : ∃ s, c.toNat + j2 - (-c).toNat = s := ⟨_, rfl⟩
  rw [hs] at t2
  subst t2
  rw [Int.natAbs_natCast, Int.natAbs_natCast] at b1
  have hA1 : A1 < 2 ^ nb := Nat.lt_of_le_of_lt b1 fb1
  have w1 := wc_of_lt hA1
  have w2 := wc_shift j2 5000 hA1 (by omega)
  have hcast : ((A1 : Nat) : Int) * ((2 ^ j2 : Nat) : Int) = ((A1 * 2 ^ j2 : Nat) : Int) := by rw [Int.natCast_mul]
  have C := ratquo_z g gx gy j1 j2 s (A1 : Int) wq hz1 hz2 r1 r2 (Nat.le_trans (show wc A1 ≤ nb / 32 + 1 from w1) (by omega)) (by rw [hcast]; show wc (A1 * 2 ^ j2) ≤ 50000; omega) (by omega) (by omega) (by omega)
  rw [hcast] at C
  refine C.mono ?_
  rintro e w' ⟨rfl, hg, a3, j3, r3, e3, b3, k3, _, p3⟩
  obtain ⟨A3, rfl⟩ : ∃ n : Nat, a3 = n := ⟨a3.toNat, by have := p3 (Int.natCast_nonneg _); omega⟩
  have e3' := cast_eq2 e3
  rw [Int.natAbs_natCast, Int.natAbs_natCast] at b3
  refine ⟨rfl, hg, A3, j3, r3, units_of E F r A1 A3 j1 j2 j3 s e1' (by rw [hc]; omega) e3', Nat.le_trans (wc_mono b3) (by omega), by omega⟩
end Go.Proofs.YtjjfkidddjcdcaaDoor
