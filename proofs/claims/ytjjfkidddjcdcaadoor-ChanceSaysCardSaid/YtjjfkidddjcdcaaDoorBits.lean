/- Proved here: contracts of the program's bits functions. -/
import Derived.Test.YtjjfkidddjcdcaaDoorPlain
import Derived.Test.YtjjfkidddjcdcaaDoorShelf
import Derived.Test.YtjjfkidddjcdcaaDoorRows
import Derived.WalkKit
import Derived.ProofKit
import Derived.OpenShut
import Derived.Handy
import Derived.WalkLawsBesides
import Derived.WalkSpells
import Derived.Deep.QuietTactic
import Derived.BigQuiet
import Derived.BigGuardPart
import Derived.Laws.BitsAllLaws
import Derived.Outline
import Derived.Lib.Hide
namespace Go.Proofs.YtjjfkidddjcdcaaDoor
open Go.ChangeShapes Go.WideShapes Go.ChangeAt Go.RowKit

theorem len64 (m : Nat) (L : Nat) (hm : m < 18446744073709551616) (hl : Hid (Go.Lib.bitLen m = L)) (w : World) :
    Calls Tryd.prog 98 #[.int .u64 m] w fun e w' => e = .returned (.int .i64 L) ∧ w' = w := by
  have h := Tryd.bits_Len64 m w (by omega) (by omega)
  rw [Int.toNat_natCast, hl.out] at h
  exact h

/-- the number of digits that are dropped, in the walk's spelling -/
theorem drop_spell (L : Nat) (e most least : Int) (d : Nat) (hd : (d : Int) = max (max (L - most) (least - e)) 0) :
    (if (if (L : Int) - most < least - e then least - e else (L : Int) - most) < 0 then 0 else if (L : Int) - most < least - e then least - e else (L : Int) - most) = (d : Int) := by
  split <;> split <;> omega

theorem drop_spell1 (L : Nat) (e most least : Int) (d : Nat) (hd : (d : Int) = max (max (L - most) (least - e)) 0) (h1 : 1 ≤ d) :
    (if (L : Int) - most < least - e then least - e else (L : Int) - most) = (d : Int) := by
  split <;> omega

def roundE (e least : Int) (d : Nat) : Int := if 64 < d then least else e + d

set_option maxHeartbeats 400000 in
theorem round_zero (m L : Nat) (e most least : Int) (w : World) (hm : m < 18446744073709551616) (hl : Hid (Go.Lib.bitLen m = L)) (hL : L ≤ 64) (he1 : -1000000 ≤ e) (he2 : e ≤ 1000000) (h1 : 0 ≤ most) (h2 : most ≤ 1000) (l1 : -100000 ≤ least) (l2 : least ≤ 100000)
    (hd : Hid (((0 : Nat) : Int) = max (max (L - most) (least - e)) 0)) :
    Calls Tryd.prog 66 #[.int .u64 m, .int .i64 e, .int .i64 most, .int .i64 least] w fun e' w' => e' = .returned (.tuple #[.int .u64 m, .int .i64 e]) ∧ w' = w := by
  have hs := drop_spell L e most least 0 hd.out
  go_enter Tryd.func66, Tryd.ntmps66
  go_wp2_with (go_at_call 98; refine (len64 _ _ hm hl _).mono ?_; rintro e w' ⟨rfl, rfl⟩)
  go_ret2
  exact ⟨rfl, rfl⟩

set_option maxHeartbeats 400000 in
theorem round_far (m L d : Nat) (e most least : Int) (w : World) (hm : m < 18446744073709551616) (hl : Hid (Go.Lib.bitLen m = L)) (hL : L ≤ 64) (he1 : -1000000 ≤ e) (he2 : e ≤ 1000000) (h1 : 0 ≤ most) (h2 : most ≤ 1000) (l1 : -100000 ≤ least) (l2 : least ≤ 100000)
    (hd : Hid ((d : Int) = max (max (L - most) (least - e)) 0)) (hd64 : 64 < d) :
    Calls Tryd.prog 66 #[.int .u64 m, .int .i64 e, .int .i64 most, .int .i64 least] w fun e' w' => e' = .returned (.tuple #[.int .u64 0, .int .i64 least]) ∧ w' = w := by
  have hs := drop_spell L e most least d hd.out
  go_enter Tryd.func66, Tryd.ntmps66
  go_wp2_with (go_at_call 98; refine (len64 _ _ hm hl _).mono ?_; rintro e w' ⟨rfl, rfl⟩)
  go_ret2
  exact ⟨rfl, rfl⟩

theorem pow_cast (k : Nat) : (2 : Int) ^ k = ((2 ^ k : Nat) : Int) := by rw [Int.natCast_pow]; rfl

theorem wrap_pow (k : Nat) (h : k < 64) : IntKind.u64.wrap (2 ^ k) = ((2 ^ k : Nat) : Int) := by
  have : 2 ^ k < 2 ^ 64 := Nat.pow_lt_pow_right (by omega) h
  rw [pow_cast, IntKind.wrap_u64]
  generalize 2 ^ k = p at *
  omega

theorem and_mask (m k : Nat) (hm : m < 18446744073709551616) (h : k < 64) :
    bits .and .u64 m (IntKind.u64.wrap (IntKind.u64.wrap (2 ^ k) - 1)) = ((m % 2 ^ k : Nat) : Int) := by
  have h1 : 2 ^ k < 2 ^ 64 := Nat.pow_lt_pow_right (by omega) h
  have h2 : 0 < 2 ^ k := Nat.two_pow_pos k
  have e : IntKind.u64.wrap (IntKind.u64.wrap (2 ^ k) - 1) = ((2 ^ k - 1 : Nat) : Int) := by
    rw [wrap_pow k h, IntKind.wrap_u64]
    omega
  rw [e, u64_and_nat m _ hm (by omega), Nat.and_two_pow_sub_one_eq_mod]

theorem div_pow (m k : Nat) : (m : Int) / 2 ^ k = ((m / 2 ^ k : Nat) : Int) := by rw [pow_cast]; rfl

theorem and_one_u64 (q : Nat) (hq : q < 18446744073709551616) : bits .and .u64 (q : Int) 1 = ((q % 2 : Nat) : Int) := by
  have := u64_and_nat q 1 hq (by omega)
  rw [nat_mask1] at this
  exact this

set_option maxHeartbeats 400000 in
theorem round_near (m L d H R Q : Nat) (e most least : Int) (w : World) (hm : m < 18446744073709551616) (hl : Hid (Go.Lib.bitLen m = L)) (hL : L ≤ 64) (he1 : -1000000 ≤ e) (he2 : e ≤ 1000000) (h1 : 0 ≤ most) (h2 : most ≤ 1000) (l1 : -100000 ≤ least) (l2 : least ≤ 100000)
    (hd : Hid ((d : Int) = max (max (L - most) (least - e)) 0)) (hd1 : 1 ≤ d) (hd63 : d < 64)
    (eH : IntKind.u64.wrap (2 ^ (d - 1)) = (H : Int)) (eR : bits .and .u64 m (IntKind.u64.wrap (IntKind.u64.wrap (2 ^ d) - 1)) = (R : Int)) (eQ : (m : Int) / 2 ^ d = (Q : Int)) (hQ : Q < 9223372036854775808)
    (V : Nat) (hV : Hid (V = Q + if H < R ∨ (R = H ∧ bits .and .u64 (Q : Int) 1 = 1) then 1 else 0)) :
    Calls Tryd.prog 66 #[.int .u64 m, .int .i64 e, .int .i64 most, .int .i64 least] w fun e' w' => e' = .returned (.tuple #[.int .u64 V, .int .i64 (e + d)]) ∧ w' = w := by
  have hs := drop_spell1 L e most least d hd.out hd1
  go_enter Tryd.func66, Tryd.ntmps66
  go_wp2_with (go_at_call 98; refine (len64 _ _ hm hl _).mono ?_; rintro e w' ⟨rfl, rfl⟩)
  · have a : H < R := by assumption
    have v : V = Q + 1 := by rw [hV.out, if_pos (.inl a)]
    subst v
    go_ret2
    exact ⟨rfl, rfl⟩
  · have a : ¬ H < R := by assumption
    have b : (R : Int) = H := by assumption
    have c : (bits .and .u64 (Q : Int) 1 == 1) = true := by assumption
    have v : V = Q + 1 := by rw [hV.out, if_pos (.inr ⟨by omega, by simpa using c⟩)]
    subst v
    go_ret2
    exact ⟨rfl, rfl⟩
  · have a : ¬ H < R := by assumption
    have c : (bits .and .u64 (Q : Int) 1 == 1) = false := by assumption
    have v : V = Q := by rw [hV.out, if_neg (by intro h; rcases h with h | ⟨_, h⟩; exact a h; simp [h] at c)]; omega
    subst v
    go_ret2
    exact ⟨rfl, rfl⟩
  · have a : ¬ H < R := by assumption
    have b : ¬ (R : Int) = H := by assumption
    have v : V = Q := by rw [hV.out, if_neg (by intro h; rcases h with h | ⟨h, _⟩; exact a h; omega)]; omega
    subst v
    go_ret2
    exact ⟨rfl, rfl⟩

set_option maxHeartbeats 400000 in
theorem round_all (m L d H : Nat) (e most least : Int) (w : World) (hm : m < 18446744073709551616) (hl : Hid (Go.Lib.bitLen m = L)) (hL : L ≤ 64) (he1 : -1000000 ≤ e) (he2 : e ≤ 1000000) (h1 : 0 ≤ most) (h2 : most ≤ 1000) (l1 : -100000 ≤ least) (l2 : least ≤ 100000)
    (hd : Hid ((d : Int) = max (max (L - most) (least - e)) 0)) (hd1 : 64 ≤ d) (hd64 : d ≤ 64)
    (eH : IntKind.u64.wrap (2 ^ (d - 1)) = (H : Int)) (V : Nat) (hV : Hid (V = if H < m then 1 else 0)) :
    Calls Tryd.prog 66 #[.int .u64 m, .int .i64 e, .int .i64 most, .int .i64 least] w fun e' w' => e' = .returned (.tuple #[.int .u64 V, .int .i64 (e + d)]) ∧ w' = w := by
  have hs := drop_spell1 L e most least d hd.out (by omega)
  go_enter Tryd.func66, Tryd.ntmps66
  go_wp2_with (go_at_call 98; refine (len64 _ _ hm hl _).mono ?_; rintro e w' ⟨rfl, rfl⟩)
  · have a : H < m := by assumption
    have v : V = 1 := by rw [hV.out, if_pos a]
    subst v
    go_ret2
    exact ⟨rfl, rfl⟩
  · have a : ¬ H < m := by assumption
    have v : V = 0 := by rw [hV.out, if_neg a]
    subst v
    go_ret2
    exact ⟨rfl, rfl⟩
  · have a : ¬ H < m := by assumption
    have v : V = 0 := by rw [hV.out, if_neg a]
    subst v
    go_ret2
    exact ⟨rfl, rfl⟩

/-- The program's rounding, whole. -/
theorem round_any (m L d : Nat) (e most least : Int) (w : World) (hm : m < 18446744073709551616) (hl : Hid (Go.Lib.bitLen m = L)) (hL : L ≤ 64) (he1 : -1000000 ≤ e) (he2 : e ≤ 1000000) (h1 : 0 ≤ most) (h2 : most ≤ 1000) (l1 : -100000 ≤ least) (l2 : least ≤ 100000)
    (hd : Hid ((d : Int) = max (max (L - most) (least - e)) 0)) :
    Calls Tryd.prog 66 #[.int .u64 m, .int .i64 e, .int .i64 most, .int .i64 least] w fun e' w' => e' = .returned (.tuple #[.int .u64 (PL.rne m d : Nat), .int .i64 (roundE e least d)]) ∧ w' = w := by
  by_cases c0 : d = 0
  · subst c0
    have r : PL.rne m 0 = m := PL.rne_zero m
    have r2 : roundE e least 0 = e := by unfold roundE; simp
    rw [r, r2]
    exact round_zero m L e most least w hm hl hL he1 he2 h1 h2 l1 l2 hd
  by_cases c64 : 64 < d
  · have r : PL.rne m d = 0 := by
      refine PL.rneG_small _ _ ?_
      have : 2 ^ 65 ≤ 2 ^ d := Nat.pow_le_pow_right (by omega) (by omega)
      generalize 2 ^ d = p at *
      omega
    have r2 : roundE e least d = least := by unfold roundE; rw [if_pos c64]
    rw [r, r2]
    exact round_far m L d e most least w hm hl hL he1 he2 h1 h2 l1 l2 hd c64
  have r2 : roundE e least d = e + d := by unfold roundE; rw [if_neg c64]
  rw [r2]
  have hp : 2 ^ d = 2 * 2 ^ (d - 1) := by
    obtain ⟨k, rfl⟩ : ∃ k, d = k + 1 := ⟨d - 1, by omega⟩
    rw [Nat.pow_succ]; simp; omega
  by_cases c : d < 64
  · have hp2 : 2 ≤ 2 ^ d := by rw [hp]; have := Nat.two_pow_pos (d - 1); omega
    have hQ : m / 2 ^ d < 9223372036854775808 := by
      refine Nat.div_lt_of_lt_mul ?_
      generalize 2 ^ d = p at *
      have : 2 * 9223372036854775808 ≤ p * 9223372036854775808 := Nat.mul_le_mul_right _ hp2
      omega
    refine round_near m L d (2 ^ (d - 1)) (m % 2 ^ d) (m / 2 ^ d) e most least w hm hl hL he1 he2 h1 h2 l1 l2 hd (by omega) c (wrap_pow _ (by omega)) (and_mask m d hm c) (div_pow m d) hQ _ ?_
    unfold Hid PL.rne PL.rneG
    rw [and_one_u64 _ (by omega)]
    congr 1
    by_cases q1 : 2 ^ (d - 1) < m % 2 ^ d
    · rw [if_pos (.inl (by omega)), if_pos (.inl q1)]
    · by_cases q2 : m % 2 ^ d = 2 ^ (d - 1) ∧ m / 2 ^ d % 2 = 1
      · rw [if_pos (.inr ⟨by omega, q2.2⟩), if_pos (.inr ⟨q2.1, by rw [q2.2]; rfl⟩)]
      · rw [if_neg (by omega), if_neg]
        rintro (h | ⟨h, h'⟩)
        · exact q1 h
        · exact q2 ⟨h, by omega⟩
  · have d64 : d = 64 := by omega
    refine round_all m L d (2 ^ (d - 1)) e most least w hm hl hL he1 he2 h1 h2 l1 l2 hd (by omega) (by omega) (wrap_pow _ (by omega)) _ ?_
    subst d64
    unfold Hid PL.rne PL.rneG
    rw [Nat.div_eq_of_lt (by omega), Nat.mod_eq_of_lt (by omega)]
    by_cases q : 2 ^ (64 - 1) < m
    · rw [if_pos q, if_pos (.inl (by omega))]
    · rw [if_neg q, if_neg (by omega)]
end Go.Proofs.YtjjfkidddjcdcaaDoor
