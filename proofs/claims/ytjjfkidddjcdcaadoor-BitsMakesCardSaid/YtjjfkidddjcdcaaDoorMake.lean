/- Proved here: contracts of the program's Split, Join, Make. -/
import Derived.Test.YtjjfkidddjcdcaaDoorEnc
import Derived.Laws.Externs
namespace Go.Proofs.YtjjfkidddjcdcaaDoor
open Go.ChangeShapes Go.WideShapes Go.ChangeAt Go.RowKit

theorem call_bits (b : Nat) (w : World) : (callFunc 17 #[.float .f64 b]).run Tryd.prog w = .ok (.value (.int .u64 b)) w :=
  (run_callFunc_extern (e := Extern.MathFloatBits.float64bits) Tryd.func17 (by kernel_rfl) (by kernel_rfl) (by kernel_rfl) (by kernel_rfl) #[.float .f64 b] w).trans rfl

theorem call_float (n : Int) (w : World) : (callFunc 63 #[.int .u64 n]).run Tryd.prog w = .ok (.value (.float .f64 n.toNat)) w :=
  (run_callFunc_extern (e := Extern.MathFloatBits.float64frombits) Tryd.func63 (by kernel_rfl) (by kernel_rfl) (by kernel_rfl) (by kernel_rfl) #[.int .u64 n] w).trans rfl

def expo (b : Nat) : Nat := b / 4503599627370496 % 2048
def frac (b : Nat) : Nat := b % 4503599627370496
def sgn (b : Nat) : Bool := decide (9223372036854775808 ≤ b)

theorem and_2047 (x : Nat) (hx : x < 18446744073709551616) : bits .and .u64 (x : Int) 2047 = ((x % 2048 : Nat) : Int) := by
  have := u64_and_nat x 2047 hx (by omega)
  rw [nat_mask11] at this
  exact this

theorem and_frac (x : Nat) (hx : x < 18446744073709551616) : bits .and .u64 (x : Int) 4503599627370495 = ((x % 4503599627370496 : Nat) : Int) := by
  have := u64_and_nat x 4503599627370495 hx (by omega)
  rw [show x &&& 4503599627370495 = x % 4503599627370496 from Nat.and_two_pow_sub_one_eq_mod x 52] at this
  exact this

set_option maxRecDepth 100000 in
theorem split_any (b : Nat) (hb : b < 18446744073709551616) (w : World) :
    Calls Tryd.prog 13 #[.float .f64 b] w fun e w' => e = .returned (.tuple #[.bool (sgn b), .int .i64 (expo b), .int .u64 (frac b)]) ∧ w' = w := by
  have cb := call_bits
  have a1 : bits .and .u64 ((b : Int) / 4503599627370496) 2047 = ((expo b : Nat) : Int) := and_2047 (b / 4503599627370496) (by omega)
  have a2 : bits .and .u64 (b : Int) 4503599627370495 = ((frac b : Nat) : Int) := and_frac b hb
  have a3 : ((b : Int) / 9223372036854775808 == 1) = sgn b := by
    unfold sgn
    rw [Bool.eq_iff_iff]
    simp
    omega
  have x1 : expo b ≤ 2047 := by unfold expo; omega
  clear hb
  go_enter Tryd.func13, Tryd.ntmps13
  go_wp2_with fail
  go_ret3
  exact ⟨rfl, rfl⟩

theorem rne_zero_left (d : Nat) : PL.rne 0 d = 0 := by
  have := Nat.two_pow_pos d
  unfold PL.rne PL.rneG
  rw [Nat.zero_div, Nat.zero_mod, if_neg (by omega)]

/-- What the program's rounding hands to its encode stands for the same word. -/
theorem round_rung (E F U L d : Nat) (c : Int) (hU : U < 18446744073709551616) (hL : Go.Lib.bitLen U = L)
    (hd : (d : Int) = max (max ((L : Int) - (F + 1 : Nat)) (1 - (PL.biasOf E : Int) - F - c)) 0) :
    PL.rungOf (PL.fmt E F) (PL.rne U d) (roundE c (1 - (PL.biasOf E : Int) - F) d) = PL.rungOf (PL.fmt E F) U c ∧
      PL.rne U d ≤ 2 ^ (F + 1) ∧ 1 - (PL.biasOf E : Int) - F ≤ roundE c (1 - (PL.biasOf E : Int) - F) d ∧ roundE c (1 - (PL.biasOf E : Int) - F) d ≤ max c (1 - (PL.biasOf E : Int) - F) + 64 := by
  have hE : 1 - (PL.biasOf E : Int) - F ≤ roundE c (1 - (PL.biasOf E : Int) - F) d ∧ roundE c (1 - (PL.biasOf E : Int) - F) d ≤ max c (1 - (PL.biasOf E : Int) - F) + 64 := by
    unfold roundE
    split <;> omega
  by_cases h0 : U = 0
  · subst h0
    rw [rne_zero_left, PL.rung_zero, PL.rung_zero]
    exact ⟨rfl, Nat.zero_le _, hE.1, hE.2⟩
  have hlog : L = U.log2 + 1 := by rw [← hL]; exact PL.bitLen_log2 64 U (by omega) (by simpa using hU) h0
  have hdrop : PL.dropOf (PL.fmt E F) U c = d := by
    unfold PL.dropOf PL.lastOf
    rw [PL.least_eq]
    show (max (c + U.log2 - (F : Int)) _ - c).toNat = d
    omega
  have hub : PL.rne U d ≤ 2 ^ (F + 1) := by
    refine PL.rneG_le _ _ _ (Nat.lt_of_lt_of_le (Nat.lt_log2_self (n := U)) ?_)
    rw [← Nat.pow_add]
    exact PL.pow_bound _ _ (by omega)
  refine ⟨?_, hub, hE.1, hE.2⟩
  by_cases hd0 : d = 0
  · subst hd0
    rw [show PL.rne U 0 = U from PL.rne_zero U]
    unfold roundE
    simp
  have hr := PL.rung_round (PL.fmt E F) U c h0 (by omega)
  rw [hdrop] at hr
  by_cases h64 : 64 < d
  · have hz : PL.rne U d = 0 := by
      refine PL.rneG_small _ _ ?_
      have : 2 ^ 65 ≤ 2 ^ d := PL.pow_bound _ _ (by omega)
      generalize 2 ^ d = p at *
      omega
    rw [hr, hz, PL.rung_zero, PL.rung_zero]
  · unfold roundE
    rw [if_neg h64, hr]

/-- The word of m times 2 to the power of e, cut to what the program takes. -/
def makeW (neg : Bool) (U : Nat) (e : Int) : Nat := (if neg then 9223372036854775808 else 0) + PL.rungOf (PL.fmt 11 52) U (min (max e (-5000)) 5000)

theorem or_sign (x : Nat) (hx : x < 9223372036854775808) : bits .or .u64 (x : Int) 9223372036854775808 = ((9223372036854775808 + x : Nat) : Int) := by
  have := u64_or_nat x 9223372036854775808 (by omega) (by omega)
  rw [Nat.or_comm, nat_join 63 9223372036854775808 x (by decide) (by omega)] at this
  exact this

theorem rung_lt (U : Nat) (c : Int) : PL.rungOf (PL.fmt 11 52) U c < 9223372036854775808 := by
  by_cases h : U = 0
  · subst h; rw [PL.rung_zero]; omega
  · rw [PL.rung_eq _ _ _ h]
    have : (PL.fmt 11 52).infRung < 9223372036854775808 := by decide
    omega

theorem bias11 : PL.biasOf 11 = 1023 := rfl

theorem encode_double (M : Nat) (X : Int) (w : World) (hm : M ≤ 2 ^ (52 + 1)) (hle : -1074 ≤ X) (he2 : X ≤ 1000000) :
    Calls Tryd.prog 67 #[.int .u64 M, .int .i64 X, .agg #[.int .i64 11, .int .i64 52]] w fun e' w' => e' = .returned (.int .u64 (PL.rungOf (PL.fmt 11 52) M X : Nat)) ∧ Below w.heap.size w w' :=
  encode_any M 11 52 X w hm (by rw [bias11]; omega) (by omega) he2 (by omega) (by omega) (by omega) (by omega)

set_option maxRecDepth 100000 in
theorem make_pos (U : Nat) (e : Int) (hU : U < 9223372036854775808) (w : World) (g0 : w.cell? ⟨1, 0, none⟩ = some (.int .i64 11)) (g1 : w.cell? ⟨1, 1, none⟩ = some (.int .i64 52)) (hsz : 1 < w.heap.size) :
    Calls Tryd.prog 23 #[.int .i64 U, .int .i64 e] w fun e' w' => e' = .returned (.float .f64 (makeW false U e)) ∧ Below w.heap.size w w' := by
  have cf := call_float
  obtain ⟨c, hc⟩ : ∃ c, min (max e (-5000)) 5000 = c := ⟨_, rfl⟩
  have c1 : -5000 ≤ c := by omega
  have c2 : c ≤ 5000 := by omega
  have dn : decide ((U : Int) < 0) = false := by simp
  have HC : Hid (makeW false U e = PL.rungOf (PL.fmt 11 52) U c) := by unfold Hid makeW; rw [hc]; simp
  obtain ⟨d, hd⟩ : ∃ d : Nat, (d : Int) = max (max ((Go.Lib.bitLen U : Int) - (52 + 1 : Nat)) (1 - (PL.biasOf 11 : Int) - (52 : Nat) - c)) 0 := ⟨_, Int.toNat_of_nonneg (by omega)⟩
  have hL := Go.Lib.bitLen_le U 64 (Nat.le_refl _) (by omega)
  obtain ⟨r1, r2, r3, r4⟩ := round_rung 11 52 U _ d c (by omega) rfl hd
  have HD : Hid ((d : Int) = max (max ((Go.Lib.bitLen U : Int) - 53) (-1074 - c)) 0) := hd
  have least : (1 - (PL.biasOf 11 : Int) - (52 : Nat)) = -1074 := by rw [bias11]; rfl
  rw [least] at r1 r3 r4
  have HR : Hid (PL.rungOf (PL.fmt 11 52) (PL.rne U d) (roundE c (-1074) d) = PL.rungOf (PL.fmt 11 52) U c) := r1
  clear hd r1 least
  generalize hm : PL.rne U d = M at *
  generalize hx : roundE c (-1074) d = X at *
  have HM : Hid (PL.rne U d = M) := hm
  have HX : Hid (roundE c (-1074) d = X) := hx
  clear hm hx
  have hlt := rung_lt U c
  rw [HC.out]
  clear HC
  generalize PL.rungOf (PL.fmt 11 52) U c = R at *
  go_enter Tryd.func23, Tryd.ntmps23
  go_wp2_with fail
  refine (round_any U _ d c 53 (-1074) w (by omega) rfl hL (by omega) (by omega) (by omega) (by omega) (by omega) (by omega) HD).mono ?_
  rintro e1 w1 ⟨rfl, rfl⟩
  rw [HM.out, HX.out]
  go_wp2_with fail
  refine (encode_double M X w1 r2 r3 (by omega)).mono ?_
  rintro e2 w2 ⟨rfl, hb⟩
  rw [HR.out]
  go_wp2_with fail
  go_ret
  exact ⟨rfl, hb⟩

theorem wrap_neg (U : Nat) (h : U ≤ 9223372036854775808) : IntKind.u64.wrap (-IntKind.u64.wrap (-(U : Int))) = (U : Int) := by
  rw [IntKind.wrap_u64, IntKind.wrap_u64]
  omega

set_option maxRecDepth 100000 in
theorem make_neg (U : Nat) (e : Int) (hU : U ≤ 9223372036854775808) (hU0 : 0 < U) (w : World) (g0 : w.cell? ⟨1, 0, none⟩ = some (.int .i64 11)) (g1 : w.cell? ⟨1, 1, none⟩ = some (.int .i64 52)) (hsz : 1 < w.heap.size) :
    Calls Tryd.prog 23 #[.int .i64 (-(U : Int)), .int .i64 e] w fun e' w' => e' = .returned (.float .f64 (makeW true U e)) ∧ Below w.heap.size w w' := by
  have cf := call_float
  have hw := wrap_neg U hU
  obtain ⟨c, hc⟩ : ∃ c, min (max e (-5000)) 5000 = c := ⟨_, rfl⟩
  have c1 : -5000 ≤ c := by omega
  have c2 : c ≤ 5000 := by omega
  have HC : Hid (makeW true U e = 9223372036854775808 + PL.rungOf (PL.fmt 11 52) U c) := by unfold Hid makeW; rw [hc]; simp
  obtain ⟨d, hd⟩ : ∃ d : Nat, (d : Int) = max (max ((Go.Lib.bitLen U : Int) - (52 + 1 : Nat)) (1 - (PL.biasOf 11 : Int) - (52 : Nat) - c)) 0 := ⟨_, Int.toNat_of_nonneg (by omega)⟩
  have hL := Go.Lib.bitLen_le U 64 (Nat.le_refl _) (by omega)
  obtain ⟨r1, r2, r3, r4⟩ := round_rung 11 52 U _ d c (by omega) rfl hd
  have HD : Hid ((d : Int) = max (max ((Go.Lib.bitLen U : Int) - 53) (-1074 - c)) 0) := hd
  have least : (1 - (PL.biasOf 11 : Int) - (52 : Nat)) = -1074 := by rw [bias11]; rfl
  rw [least] at r1 r3 r4
  have HR : Hid (PL.rungOf (PL.fmt 11 52) (PL.rne U d) (roundE c (-1074) d) = PL.rungOf (PL.fmt 11 52) U c) := r1
  clear hd r1 least
  generalize hm : PL.rne U d = M at *
  generalize hx : roundE c (-1074) d = X at *
  have HM : Hid (PL.rne U d = M) := hm
  have HX : Hid (roundE c (-1074) d = X) := hx
  clear hm hx
  have hlt := rung_lt U c
  rw [HC.out]
  clear HC
  generalize PL.rungOf (PL.fmt 11 52) U c = R at *
  go_enter Tryd.func23, Tryd.ntmps23
  go_wp2_with fail
  refine (round_any U _ d c 53 (-1074) w (by omega) rfl hL (by omega) (by omega) (by omega) (by omega) (by omega) (by omega) HD).mono ?_
  rintro e1 w1 ⟨rfl, rfl⟩
  rw [HM.out, HX.out]
  go_wp2_with fail
  refine (encode_double M X w1 r2 r3 (by omega)).mono ?_
  rintro e2 w2 ⟨rfl, hb⟩
  rw [HR.out]
  have ho := or_sign R hlt
  have hn : (9223372036854775808 + (R : Int)).toNat = 9223372036854775808 + R := by omega
  go_wp2_with fail
  go_ret
  exact ⟨by rw [← hn]; rfl, hb⟩

/-- The program's Make, whole. -/
theorem make_any (m e : Int) (hm1 : -9223372036854775808 ≤ m) (hm2 : m ≤ 9223372036854775807) (w : World) (g0 : w.cell? ⟨1, 0, none⟩ = some (.int .i64 11)) (g1 : w.cell? ⟨1, 1, none⟩ = some (.int .i64 52)) (hsz : 1 < w.heap.size) :
    Calls Tryd.prog 23 #[.int .i64 m, .int .i64 e] w fun e' w' => e' = .returned (.float .f64 (makeW (decide (m < 0)) m.natAbs e)) ∧ Below w.heap.size w w' := by
  by_cases h : m < 0
  · obtain ⟨U, rfl⟩ : ∃ U : Nat, m = -(U : Int) := ⟨m.natAbs, by omega⟩
    have e1 : decide (-(U : Int) < 0) = true := by simpa using h
    have e2 : (-(U : Int)).natAbs = U := by omega
    rw [e1, e2]
    exact make_neg U e (by omega) (by omega) w g0 g1 hsz
  · obtain ⟨U, rfl⟩ : ∃ U : Nat, m = (U : Int) := ⟨m.natAbs, by omega⟩
    have e1 : decide ((U : Int) < 0) = false := by simp
    have e2 : (U : Int).natAbs = U := by omega
    rw [e1, e2]
    exact make_pos U e (by omega) w g0 g1 hsz
end Go.Proofs.YtjjfkidddjcdcaaDoor
