/- Proved here: contracts of math.Copysign, math.NaN and math.Ldexp at this program: Ldexp of a normal number above nought is the nearest word of the product. Conditions: words of 64 bits, powers from -100000 to 100000. -/
import Derived.Test.YtjjfkidddjcdcaaDoorMade
namespace Go.Proofs.YtjjfkidddjcdcaaDoor
open Go.ChangeShapes Go.WideShapes Go.ChangeAt Go.RowKit

theorem nan_any (w : World) : Calls Tryd.prog 73 #[] w fun e w' => e = .returned (.float .f64 9221120237041090561) ∧ w' = w := by
  have cf := call_float
  go_enter Tryd.func73, Tryd.ntmps73
  go_wp2_with fail
  go_ret
  exact ⟨rfl, rfl⟩

theorem and_sign (b : Nat) (hb : b < 18446744073709551616) : bits .and .u64 (b : Int) 9223372036854775808 = (((if sgn b then 9223372036854775808 else 0) : Nat) : Int) := by
  have h := u64_and_nat b 9223372036854775808 hb (by omega)
  rw [show b &&& 9223372036854775808 = b &&& 2 ^ 63 from rfl, nat_bit] at h
  refine h.trans ?_
  congr 1
  unfold sgn
  by_cases h1 : 9223372036854775808 ≤ b
  · rw [decide_eq_true h1]; simp only [if_true]; omega
  · rw [decide_eq_false h1]; simp only [Bool.false_eq_true, if_false]; omega

theorem or_signs (r : Nat) (s : Bool) (hr : r < 9223372036854775808) : bits .or .u64 (r : Int) (((if s then 9223372036854775808 else 0) : Nat) : Int) = (((if s then 9223372036854775808 else 0) + r : Nat) : Int) := by
  cases s
  · have := u64_or_nat r 0 (by omega) (by omega)
    simp only [Bool.false_eq_true, if_false, Nat.zero_add]
    exact this.trans (by rw [Nat.or_zero])
  · simp only [if_true]
    exact or_sign r hr

theorem copysign_any (a c : Nat) (ha : a < 18446744073709551616) (hc : c < 18446744073709551616) (w : World) :
    Calls Tryd.prog 31 #[.float .f64 a, .float .f64 c] w fun e w' => e = .returned (.float .f64 ((if sgn c then 9223372036854775808 else 0) + PL.rung a)) ∧ w' = w := by
  have cb := call_bits
  have cf := call_float
  have h1 := and_abs a ha
  have h2 := and_sign c hc
  have h3 := or_signs (PL.rung a) (sgn c) (PL.rung_lt a)
  generalize (if sgn c = true then 9223372036854775808 else 0) + PL.rung a = V at *
  generalize (if sgn c = true then 9223372036854775808 else 0) = S at *
  generalize PL.rung a = R at *
  go_enter Tryd.func31, Tryd.ntmps31
  go_wp2_with fail
  go_ret
  exact ⟨by simp, rfl⟩

theorem ofInt_i64 (a : Nat) (_ha : a < 9223372036854775808) : (BitVec.ofInt 64 (a : Int)).toNat = a := by
  rw [BitVec.ofInt_natCast, BitVec.toNat_ofNat]; exact Nat.mod_eq_of_lt (by omega)
theorem i64_and (a c : Nat) (ha : a < 9223372036854775808) (hc : c < 9223372036854775808) : bits .and .i64 (a : Int) (c : Int) = ((a &&& c : Nat) : Int) := by
  have hx : a &&& c < 2 ^ 63 := Nat.and_lt_two_pow _ (by omega)
  show IntKind.i64.wrap ((BitVec.ofInt 64 (a : Int) &&& BitVec.ofInt 64 (c : Int)).toNat : Int) = _
  rw [BitVec.toNat_and, ofInt_i64 a ha, ofInt_i64 c hc, IntKind.wrap_i64]
  omega

theorem i64_2047 (a : Nat) (ha : a ≤ 2047) : bits .and .i64 (a : Int) 2047 = (a : Int) := by
  have h := i64_and a 2047 (by omega) (by omega)
  rw [nat_mask11, Nat.mod_eq_of_lt (by omega)] at h
  exact h

/-! ### what it comes to -/
theorem ld_low (M : Nat) (e : Int) (hM : M < 9007199254740992) (h0 : 0 < M) (h1 : 4503599627370496 ≤ M) (he : e + 52 < -1075) : PL.rungOf Ieee.double M e = 0 := by
  have hlog : M.log2 = 52 := by
    have a1 := (PL.le_log2_iff M 52 (by omega)).2 (by omega)
    have a2 := (PL.log2_lt_iff M 53 (by omega)).2 (by omega)
    omega
  have hl : PL.lastOf Ieee.double M e = -1074 := by
    unfold PL.lastOf
    rw [hlog, PL.dbl_least]
    show max (e + ((52 : Nat) : Int) - ((52 : Nat) : Int)) (-1074) = -1074
    omega
  rw [PL.rung_eq _ _ _ (by omega), hl, PL.dbl_least]
  have h2 : (e - -1074).toNat = 0 := by omega
  have h3 : (-1074 - (-1074 : Int)).toNat = 0 := by omega
  rw [h2, h3, Nat.shiftLeft_zero]
  have hp : 2 ^ 54 ≤ 2 ^ (-1074 - e).toNat := PL.pow_bound _ _ (by omega)
  have : PL.rne M (-1074 - e).toNat = 0 := by
    refine PL.rneG_small _ _ ?_
    generalize 2 ^ (-1074 - e).toNat = p at *
    omega
  rw [this]
  omega

theorem ld_norm (f : Nat) (e : Int) (x : Nat) (hf : f < 4503599627370496) (hx : 1 ≤ x) (hx2 : x ≤ 2046) (he : e = (x : Int) - 1075) : PL.rungOf Ieee.double (4503599627370496 + f) e = x * 4503599627370496 + f := by
  refine PL.rung_of_value (x * 4503599627370496 + f) (by omega) _ 0 _ ?_ ?_
  · rw [PL.mant_norm x f (by omega) hf, Nat.shiftLeft_zero]
  · rw [PL.place_norm x f (by omega) hf]; omega

theorem ld_high (f : Nat) (e : Int) (hf : f < 4503599627370496) (he : 972 ≤ e) : PL.rungOf Ieee.double (4503599627370496 + f) e = 9218868437227405312 := by
  rw [PL.rung_norm Ieee.double _ _ (by omega) (by show _ < 2 ^ 53; omega) (by rw [PL.dbl_least]; omega) (.inr (by show 2 ^ 52 ≤ _; omega)), PL.dbl_least, PL.dbl_bin, PL.dbl_inf]
  have : 2046 ≤ (e - -1074).toNat := by omega
  have h2 : 2046 * 4503599627370496 ≤ (e - -1074).toNat * 4503599627370496 := Nat.mul_le_mul_right _ this
  omega

theorem word_lt (x f : Nat) (hx2 : x ≤ 2046) (hf : f < 4503599627370496) : x * 4503599627370496 + f < 9218868437227405312 := by omega

theorem mul_words (x1 x2 f : Nat) (h1 : 1 ≤ x1) (h2 : x1 ≤ 2046) (h3 : 1 ≤ x2) (h4 : x2 ≤ 2046) (hf : f < 4503599627370496) (c : Nat) (hc : c = x1 * 4503599627370496 + 0) :
    floatBits .mul .f64 c (x2 * 4503599627370496 + f) = some (PL.rungOf Ieee.double (4503599627370496 + f) ((x1 : Int) - 1023 + ((x2 : Int) - 1075))) := by
  have l1 : c < 9218868437227405312 := by omega
  have l2 := word_lt x2 f h4 hf
  have r1 : PL.rung c = x1 * 4503599627370496 + 0 := by rw [rung_small c (by omega), hc]
  have r2 : PL.rung (x2 * 4503599627370496 + f) = x2 * 4503599627370496 + f := rung_small _ (by omega)
  show Ieee.double.mul _ _ = _
  rw [PL.mul_fin c _ (by omega) (by omega) (by omega) (by omega), r1, r2, PL.mant_norm x1 0 (by omega) (by omega), PL.place_norm x1 0 (by omega) (by omega), PL.mant_norm x2 f (by omega) hf, PL.place_norm x2 f (by omega) hf]
  have s1 : PL.isNeg c = false := decide_eq_false (by omega)
  have s2 : PL.isNeg (x2 * 4503599627370496 + f) = false := decide_eq_false (by omega)
  rw [s1, s2]
  have key : PL.rungOf Ieee.double ((4503599627370496 + 0) * (4503599627370496 + f)) ((x1 : Int) - 1075 + ((x2 : Int) - 1075)) = PL.rungOf Ieee.double (4503599627370496 + f) ((x1 : Int) - 1023 + ((x2 : Int) - 1075)) := by
    rw [← PL.rung_val Ieee.double (4503599627370496 + f) _ 52, Nat.shiftLeft_eq]
    congr 1
    · rw [Nat.add_zero, Nat.mul_comm]
    · omega
  rw [key]
  simp

theorem lt_zero (b : Nat) (hb : b < 9218868437227405312) : (FloatKind.f64.format.order b 0 == some .lt) = false := by
  rw [ord_lt b 0 (by omega) (by omega) (notNaN_small b (by omega)) (notNaN_small 0 (by omega)), sval_small b (by omega), sval_small 0 (by omega)]
  rw [decide_eq_false]; omega

theorem or_exp (f x : Nat) (hf : f < 4503599627370496) (hx : x ≤ 2046) : bits .or .u64 (f : Int) ((x : Int) * 4503599627370496) = ((x * 4503599627370496 + f : Nat) : Int) := by
  have h := u64_or_nat f (x * 4503599627370496) (by omega) (by omega)
  rw [Nat.or_comm, nat_join 52 _ f (Nat.mul_mod_left _ _) (by omega)] at h
  exact h

set_option maxRecDepth 100000 in
set_option maxHeartbeats 1000000 in
theorem ldexp_walk (X f V Y : Nat) (exp E : Int) (hX1 : 1 ≤ X) (hX2 : X ≤ 2046) (hf : f < 4503599627370496) (hY : Y = X * 4503599627370496 + f) (hE : exp + ((X : Int) - 1023) = E) (he1 : -100000 ≤ exp) (he2 : exp ≤ 100000)
    (hV : Hid (V = PL.rungOf Ieee.double (4503599627370496 + f) (E - 52))) (w : World) :
    Calls Tryd.prog 116 #[.float .f64 Y, .int .i64 exp] w fun e w' => e = .returned (.float .f64 V) ∧ w' = w := by
  have hYb : Y < 9218868437227405312 := by omega
  have hYr : PL.rung Y = Y := rung_small Y (by omega)
  have z := eq_zero Y (by omega)
  rw [decide_eq_false (by omega)] at z
  have zl := lt_zero Y hYb
  have cb := call_bits
  have cf := call_float
  have C1 := Lib.hid (fun w => isnan_any Y (by omega) w)
  have C2 := Lib.hid (fun w => isinf_any Y (by omega) w)
  rw [show nanB Y = false from decide_eq_false (by omega)] at C1
  rw [show infB Y = false from decide_eq_false (by omega)] at C2
  have C3 := Lib.hid (fun w => normalize_any Y (by omega) (notNaN_small Y (by omega)) w)
  rw [show normW Y = Y from if_neg (by omega), show normE Y = 0 from if_neg (by omega)] at C3
  have C4 := Lib.hid (fun w => copysign_any 0 Y (by omega) (by omega) w)
  rw [show sgn Y = false from decide_eq_false (by omega), show PL.rung 0 = 0 from rung_small 0 (by omega)] at C4
  simp only [Bool.false_eq_true, if_false, Nat.add_zero] at C4
  have hYx : (Y : Int) / 4503599627370496 = (X : Int) := by omega
  have hx := i64_2047 X (by omega)
  have ha := andNot_exp Y (by omega)
  rw [show sgn Y = false from decide_eq_false (by omega), show frac Y = f from by unfold frac; omega] at ha
  simp only [Bool.false_eq_true, if_false, Nat.zero_add] at ha
  have hEb : -102000 ≤ E ∧ E ≤ 102000 := by omega
  obtain ⟨eb1, eb2⟩ := hEb
  clear hY hYr
  by_cases c1 : E < -1075
  · obtain rfl : V = 0 := by rw [hV.out]; exact ld_low _ _ (by omega) (by omega) (by omega) (by omega)
    go_enter Tryd.func116, Tryd.ntmps116
    go_wp2_with (first | (go_at_call 60; refine (C1.out _).mono ?_; rintro e w2 ⟨rfl, rfl⟩) | (go_at_call 61; refine (C2.out _).mono ?_; rintro e w2 ⟨rfl, rfl⟩) | (go_at_call 122; refine (C3.out _).mono ?_; rintro e w2 ⟨rfl, rfl⟩) | (go_at_call 31; refine (C4.out _).mono ?_; rintro e w2 ⟨rfl, rfl⟩))
    go_ret
    exact ⟨rfl, rfl⟩
  by_cases c2 : 1023 < E
  · obtain rfl : V = 9218868437227405312 := by rw [hV.out]; exact ld_high f _ hf (by omega)
    go_enter Tryd.func116, Tryd.ntmps116
    go_wp2_with (first | (go_at_call 60; refine (C1.out _).mono ?_; rintro e w2 ⟨rfl, rfl⟩) | (go_at_call 61; refine (C2.out _).mono ?_; rintro e w2 ⟨rfl, rfl⟩) | (go_at_call 122; refine (C3.out _).mono ?_; rintro e w2 ⟨rfl, rfl⟩) | (go_at_call 30; refine (inf_pos _).mono ?_; rintro e w2 ⟨rfl, rfl⟩))
    go_ret
    exact ⟨rfl, rfl⟩
  by_cases c3 : E < -1022
  · obtain ⟨x2, hx2⟩ : ∃ x2 : Nat, E + 53 + 1023 = x2 := ⟨(E + 1076).toNat, by omega⟩
    have ho := or_exp f x2 hf (by omega)
    have hm : ∀ w, (binOp .mul 33 (.float .f64 4368491638549381120) (.float .f64 (x2 * 4503599627370496 + f))).run Tryd.prog w = .ok (.float .f64 V) w := fun w => run_float_arith w .mul 33 .f64 _ _ _ (by
      rw [mul_words 970 x2 f (by omega) (by omega) (by omega) (by omega) hf 4368491638549381120 (by omega), hV.out]
      congr 2
      omega)
    generalize x2 * 4503599627370496 + f = W at *
    go_enter Tryd.func116, Tryd.ntmps116
    go_wp2_with (first | (go_at_call 60; refine (C1.out _).mono ?_; rintro e w2 ⟨rfl, rfl⟩) | (go_at_call 61; refine (C2.out _).mono ?_; rintro e w2 ⟨rfl, rfl⟩) | (go_at_call 122; refine (C3.out _).mono ?_; rintro e w2 ⟨rfl, rfl⟩))
    go_ret
    exact ⟨by simp, rfl⟩
  · obtain ⟨x2, hx2⟩ : ∃ x2 : Nat, E + 1023 = x2 := ⟨(E + 1023).toNat, by omega⟩
    have ho := or_exp f x2 hf (by omega)
    have hm : ∀ w, (binOp .mul 33 (.float .f64 4607182418800017408) (.float .f64 (x2 * 4503599627370496 + f))).run Tryd.prog w = .ok (.float .f64 V) w := fun w => run_float_arith w .mul 33 .f64 _ _ _ (by
      rw [mul_words 1023 x2 f (by omega) (by omega) (by omega) (by omega) hf 4607182418800017408 (by omega), hV.out]
      congr 2
      omega)
    generalize x2 * 4503599627370496 + f = W at *
    go_enter Tryd.func116, Tryd.ntmps116
    go_wp2_with (first | (go_at_call 60; refine (C1.out _).mono ?_; rintro e w2 ⟨rfl, rfl⟩) | (go_at_call 61; refine (C2.out _).mono ?_; rintro e w2 ⟨rfl, rfl⟩) | (go_at_call 122; refine (C3.out _).mono ?_; rintro e w2 ⟨rfl, rfl⟩))
    go_ret
    exact ⟨by simp, rfl⟩

/-- math.Ldexp of a normal number above nought. -/
theorem ldexp_any (X f : Nat) (exp : Int) (hX1 : 1 ≤ X) (hX2 : X ≤ 2046) (hf : f < 4503599627370496) (he1 : -100000 ≤ exp) (he2 : exp ≤ 100000) (Y : Nat) (hY : Y = X * 4503599627370496 + f) (w : World) :
    Calls Tryd.prog 85 #[.float .f64 Y, .int .i64 exp] w fun e w' => e = .returned (.float .f64 (PL.rungOf Ieee.double (4503599627370496 + f) (exp + (X : Int) - 1075))) ∧ w' = w := by
  have C := Lib.hid (fun w => ldexp_walk X f _ Y exp _ hX1 hX2 hf hY rfl he1 he2 rfl w)
  have e1 : exp + ((X : Int) - 1023) - 52 = exp + (X : Int) - 1075 := by omega
  rw [e1] at C
  clear hY e1
  generalize PL.rungOf Ieee.double (4503599627370496 + f) (exp + (X : Int) - 1075) = V at *
  go_enter Tryd.func85, Tryd.ntmps85
  go_wp2_with (go_at_call 116; refine (C.out _).mono ?_; rintro e w2 ⟨rfl, rfl⟩)
  go_ret
  exact ⟨rfl, rfl⟩
end Go.Proofs.YtjjfkidddjcdcaaDoor
