/- Proved here: contracts of the document's Odd and of the program's Whole at this program. Conditions: the arguments are words of 64 bits; for Whole the library's table is as laid.
   Proved here: the contract of the program's Whole at this program, and that it answers as the document's Odd. Conditions: the argument is a word of 64 bits; the library's table is as laid.
   Proved here: contracts of the program's Next, of math.Inf, of the comparison Bits, and the closed fact 'made', at this program. Conditions: words of 64 bits; for 'made' the listed variables hold what is laid.
   Proved here: the closed fact 'made' at this program, and sums with nought. Conditions: the listed variables hold what is laid. -/
import Derived.Test.YtjjfkidddjcdcaaDoorOdd
namespace Go.Proofs.YtjjfkidddjcdcaaDoor
open Go.ChangeShapes Go.WideShapes Go.ChangeAt Go.RowKit

theorem wordOf_lt (s : Bool) (x f : Nat) (hx : x ≤ 2047) (hf : f < 4503599627370496) : wordOf s x f < 18446744073709551616 := by
  unfold wordOf; cases s <;> simp <;> omega
theorem rung_wordOf (s : Bool) (x f : Nat) (hx : x ≤ 2047) (hf : f < 4503599627370496) : PL.rung (wordOf s x f) = x * 4503599627370496 + f := by
  unfold wordOf PL.rung; cases s <;> simp <;> omega
theorem sgn_wordOf (s : Bool) (x f : Nat) (hx : x ≤ 2047) (hf : f < 4503599627370496) : sgn (wordOf s x f) = s := by
  unfold wordOf sgn; cases s <;> simp <;> omega

theorem mul_pow53 (s : Bool) (M : Nat) (h1 : 4503599627370496 ≤ M) (h2 : M < 9007199254740992) :
    floatBits .mul .f64 (wordOf s 1022 (M - 4503599627370496)) 4845873199050653696 = some (wordOf s 1075 (M - 4503599627370496)) := by
  have hy : PL.rung 4845873199050653696 = 1076 * 4503599627370496 + 0 := rung_small _ (by omega)
  have hr := rung_wordOf s 1022 (M - 4503599627370496) (by omega) (by omega)
  show Ieee.double.mul _ 4845873199050653696 = _
  rw [PL.mul_fin _ _ (wordOf_lt _ _ _ (by omega) (by omega)) (by omega) (by omega) (by omega), hy, hr, PL.mant_norm 1076 0 (by omega) (by omega), PL.place_norm 1076 0 (by omega) (by omega), PL.mant_norm 1022 _ (by omega) (by omega), PL.place_norm 1022 _ (by omega) (by omega), isNeg_sgn, sgn_wordOf _ _ _ (by omega) (by omega)]
  have hs : PL.isNeg 4845873199050653696 = false := decide_eq_false (by omega)
  rw [hs, Bool.xor_false]
  have key : PL.rungOf Ieee.double ((4503599627370496 + (M - 4503599627370496)) * (4503599627370496 + 0)) (((1022 : Nat) : Int) - 1075 + (((1076 : Nat) : Int) - 1075)) = 1075 * 4503599627370496 + (M - 4503599627370496) := by
    refine PL.rung_of_value _ (by omega) _ 52 _ ?_ ?_
    · rw [PL.mant_norm 1075 _ (by omega) (by omega), Nat.shiftLeft_eq]
    · rw [PL.place_norm 1075 _ (by omega) (by omega)]; omega
  rw [key]
  unfold wordOf
  rw [Nat.add_assoc]

theorem cut_zero (s : Bool) (M : Nat) : Ieee.Toward.cut .zero s M 0 = M := by
  unfold Ieee.Toward.cut
  simp
theorem toInt_zero (s : Bool) (M : Nat) : (Ieee.Datum.number s M 0).toInt .zero = some (if s then -(M : Int) else M) := by
  show some (Ieee.signed s (Ieee.Toward.cut .zero s (M <<< 0) 0) 0) = _
  rw [Nat.shiftLeft_zero, cut_zero]
  unfold Ieee.signed
  rw [Nat.shiftLeft_zero]
theorem read_word (b x f : Nat) (hb : b < 18446744073709551616) (hx : 0 < x) (hx2 : x < 2047) (hf : f < 4503599627370496) (hr : PL.rung b = x * 4503599627370496 + f) :
    Ieee.double.read b = .number (PL.isNeg b) (4503599627370496 + f) ((x : Int) - 1075) := by
  rw [PL.read_fin b hb (by omega), hr, PL.mant_norm x f hx hf, PL.place_norm x f hx hf]
theorem val_of (b : Nat) (n : Int) (ht : (Ieee.double.read b).toInt .zero = some n) (h1 : -9223372036854775808 ≤ n) (h2 : n ≤ 9223372036854775807) : floatToIntVal .f64 b .i64 = some n := by
  have e1 : IntKind.i64.min = -9223372036854775808 := by decide
  have e2 : IntKind.i64.max = 9223372036854775807 := by decide
  have hd : FloatKind.f64.decode b = Ieee.double.read b := rfl
  unfold floatToIntVal
  rw [hd, ht]
  show (if IntKind.i64.min ≤ n ∧ n ≤ IntKind.i64.max then some n else none) = some n
  rw [e1, e2, if_pos ⟨h1, h2⟩]

theorem toInt_read (b x : Nat) (s : Bool) (M : Nat) (hb : b < 18446744073709551616) (hx : x = 1075) (h1 : 4503599627370496 ≤ M) (h2 : M < 9007199254740992) (hr : PL.rung b = x * 4503599627370496 + (M - 4503599627370496)) (hs : PL.isNeg b = s) :
    floatToIntVal .f64 b .i64 = some (if s then -(M : Int) else M) := by
  have e1 : 4503599627370496 + (M - 4503599627370496) = M := by omega
  have e2 : (x : Int) - 1075 = 0 := by omega
  refine val_of b _ ?_ (by cases s <;> simp <;> omega) (by cases s <;> simp <;> omega)
  rw [read_word b x _ hb (by omega) (by omega) (by omega) hr, hs, e1, e2]
  exact toInt_zero s M

theorem toInt_word (s : Bool) (M : Nat) (h1 : 4503599627370496 ≤ M) (h2 : M < 9007199254740992) :
    floatToIntVal .f64 (wordOf s 1075 (M - 4503599627370496)) .i64 = some (if s then -(M : Int) else M) :=
  toInt_read _ 1075 s M (wordOf_lt _ _ _ (by omega) (by omega)) rfl h1 h2 (rung_wordOf s 1075 _ (by omega) (by omega)) (sgn_wordOf s 1075 _ (by omega) (by omega))

theorem conv_word (s : Bool) (M : Nat) (h1 : 4503599627370496 ≤ M) (h2 : M < 9007199254740992) (w : World) :
    (convert 33 3 (.float .f64 (wordOf s 1075 (M - 4503599627370496)))).run Tryd.prog w = .ok (.int .i64 (if s then -(M : Int) else M)) w :=
  run_convert_float_int w 33 3 .f64 .i64 _ _ (by rw [Tryd.underlying33]; rfl) Tryd.underlying3 (toInt_word s M h1 h2)

theorem odd_zero (b : Nat) (hb : b < 18446744073709551616) (h0 : PL.rung b = 0) (w : World) :
    Calls Tryd.prog 21 #[.float .f64 b] w fun e w' => e = .returned (.tuple #[.int .i64 0, .int .i64 0]) ∧ w' = w := by
  have z := eq_zero b hb
  rw [decide_eq_true h0] at z
  clear h0
  go_enter Tryd.func21, Tryd.ntmps21
  go_wp2_with fail
  go_ret2
  exact ⟨rfl, rfl⟩

/-- how many twos divide it -/
theorem ctz_spec (M : Nat) (h0 : 0 < M) (h : M < 9007199254740992) : ∃ n q, n = Go.Lib.ctz 64 M ∧ M = 2 ^ n * q ∧ q % 2 = 1 ∧ n < 53 := by
  obtain ⟨m, hm, hk⟩ := Go.Lib.ctzFrom_spec 64 M h0 (by omega)
  have e : Go.Lib.ctz 64 M = Go.Lib.ctzFrom 64 M := by unfold Go.Lib.ctz; rw [if_neg (by omega)]
  refine ⟨Go.Lib.ctz 64 M, 2 * m + 1, rfl, by rw [e]; exact hm, by omega, ?_⟩
  rw [e]
  rcases Nat.lt_or_ge (Go.Lib.ctzFrom 64 M) 53 with h1 | h1
  · exact h1
  · exfalso
    have h2 : 2 ^ 53 ≤ 2 ^ Go.Lib.ctzFrom 64 M := PL.pow_bound _ _ h1
    have h3 : 2 ^ 53 * 1 ≤ 2 ^ Go.Lib.ctzFrom 64 M * (2 * m + 1) := Nat.mul_le_mul h2 (by omega)
    rw [← hm] at h3
    omega

theorem odd_any (b n q : Nat) (hb : b < 18446744073709551616) (h0 : 0 < PL.rung b) (h : PL.rung b < 9218868437227405312) (hn : n < 53) (hM : Hid (bigM b = 2 ^ n * q)) (hq : q % 2 = 1) (w : World) :
    Calls Tryd.prog 21 #[.float .f64 b] w fun e w' => e = .returned (.tuple #[.int .i64 (if sgn b then -(q : Int) else q), .int .i64 (bigE b + n)]) ∧ w' = w := by
  have z := eq_zero b hb
  rw [decide_eq_false (by omega)] at z
  obtain ⟨p1, p2, p3, p4, p5, p6, p7, p8⟩ := norm_parts b hb h0 h
  have C := Lib.hid (fun w => frexp_any b hb h0 h w)
  have hm : ∀ w, (binOp .mul 33 (.float .f64 (wordOf (sgn b) 1022 (bigM b - 4503599627370496))) (.float .f64 4845873199050653696)).run Tryd.prog w = .ok (.float .f64 (wordOf (sgn b) 1075 (bigM b - 4503599627370496))) w := fun w => run_float_arith w .mul 33 .f64 _ _ _ (mul_pow53 (sgn b) (bigM b) p8 p7)
  have hc := fun w => conv_word (sgn b) (bigM b) p8 p7 w
  have x1 : -1126 ≤ bigE b := by have : -52 ≤ normE b := by unfold normE; split <;> omega
                                 omega
  have x2 : bigE b ≤ 2000 := by have : normE b ≤ 0 := by unfold normE; split <;> omega
                                omega
  clear p1 p2 p3 p4 p5 p6 h0 h
  generalize wordOf (sgn b) 1022 (bigM b - 4503599627370496) = W at *
  generalize wordOf (sgn b) 1075 (bigM b - 4503599627370496) = W2 at *
  generalize bigE b = X at *
  generalize bigM b = M at *
  have hdiv : ∀ k, k < n → M / 2 ^ k % 2 = 0 ∧ M / 2 ^ k / 2 = M / 2 ^ (k + 1) := by
    intro k hk
    refine ⟨?_, by rw [Nat.pow_succ, Nat.div_div_eq_div_mul]⟩
    rw [hM.out, show n = k + (n - k - 1 + 1) by omega, Nat.pow_add, Nat.mul_assoc, Nat.mul_div_cancel_left _ (Nat.two_pow_pos k), Nat.pow_succ, Nat.mul_comm _ 2, Nat.mul_assoc]
    exact Nat.mul_mod_right _ _
  have hlast : M / 2 ^ n = q := by rw [hM.out]; exact Nat.mul_div_cancel_left _ (Nat.two_pow_pos n)
  have hle : ∀ k, M / 2 ^ k ≤ M := fun k => Nat.div_le_self _ _
  have HD := Lib.hid hdiv
  have HL := Lib.hid hlast
  have HLE := Lib.hid hle
  clear hdiv hlast hle
  cases hs : sgn b
  · rw [hs] at hc
    simp only [Bool.false_eq_true, if_false] at hc ⊢
    go_enter Tryd.func21, Tryd.ntmps21
    go_wp2_with (first | (go_at_call 65; refine (C.out _).mono ?_; rintro e w' ⟨rfl, rfl⟩))
    go_loop [5, 6] (fun v5 v6 => ∃ k : Nat, k ≤ n ∧ v6 = .int .i64 (M / 2 ^ k : Nat) ∧ v5 = .int .i64 (X + k)) (fun v5 _ => (X + n - intOf v5).toNat)
    case atStart => exact ⟨0, by omega, by simp, by go_num⟩
    case round =>
      obtain ⟨k, hk, rfl, rfl⟩ := hrel
      have hle := HLE.out k
      by_cases hlt : k < n
      · obtain ⟨d1, d2⟩ := HD.out k hlt
        have D2 := Lib.hid d2
        clear d2
        generalize hS : M / 2 ^ k = S at *
        have HS := Lib.hid hS
        clear hS
        have t1 : ((S : Int) % 2 == 0) = true := by simp; omega
        go_wp2_with fail
        go_round
        case rel => exact ⟨k + 1, by omega, by rw [← D2.out]; rfl, by go_num⟩
        case measure => simp [intOf]; omega
      · obtain rfl : k = n := by omega
        have hS := HL.out
        rw [hS]
        rw [hS] at hle
        have t1 : ((q : Int) % 2 == 0) = false := by simp; omega
        go_wp2_with fail
        go_ret2
        exact ⟨rfl, rfl⟩
  · rw [hs] at hc
    simp only [if_true] at hc ⊢
    go_enter Tryd.func21, Tryd.ntmps21
    go_wp2_with (first | (go_at_call 65; refine (C.out _).mono ?_; rintro e w' ⟨rfl, rfl⟩))
    go_loop [5, 6] (fun v5 v6 => ∃ k : Nat, k ≤ n ∧ v6 = .int .i64 (-((M / 2 ^ k : Nat) : Int)) ∧ v5 = .int .i64 (X + k)) (fun v5 _ => (X + n - intOf v5).toNat)
    case atStart => exact ⟨0, by omega, by simp, by go_num⟩
    case round =>
      obtain ⟨k, hk, rfl, rfl⟩ := hrel
      have hle := HLE.out k
      by_cases hlt : k < n
      · obtain ⟨d1, d2⟩ := HD.out k hlt
        have D2 := Lib.hid d2
        clear d2
        generalize hS : M / 2 ^ k = S at *
        have HS := Lib.hid hS
        clear hS
        go_wp2_with fail
        go_round
        case rel => exact ⟨k + 1, by omega, by rw [← D2.out]; rfl, by go_num⟩
        case measure => simp [intOf]; omega
      · obtain rfl : k = n := by omega
        have hS := HL.out
        rw [hS]
        rw [hS] at hle
        go_wp2_with fail
        go_ret2
        exact ⟨rfl, rfl⟩
end Go.Proofs.YtjjfkidddjcdcaaDoor

namespace Go.Proofs.YtjjfkidddjcdcaaDoor
open Go.ChangeShapes Go.WideShapes Go.ChangeAt Go.RowKit
open Go.Proofs (TabAt)

theorem whole_unfin (b : Nat) (hb : b < 18446744073709551616) (h : expo b = 2047) (w : World) :
    Calls Tryd.prog 19 #[.float .f64 b] w fun e w' => e = .returned (.tuple #[.int .i64 0, .int .i64 0, .int .i64 4]) ∧ w' = w := by
  have C := Lib.hid (fun w => split_any b hb w)
  rw [h] at C
  clear h
  go_enter Tryd.func19, Tryd.ntmps19
  go_wp2_with (go_at_call 13; refine (C.out _).mono ?_; rintro e w' ⟨rfl, rfl⟩)
  go_ret3
  exact ⟨rfl, rfl⟩

theorem whole_zero (b : Nat) (hb : b < 18446744073709551616) (h : expo b = 0) (hf : frac b = 0) (w : World) :
    Calls Tryd.prog 19 #[.float .f64 b] w fun e w' => e = .returned (.tuple #[.int .i64 0, .int .i64 0, .int .i64 0]) ∧ w' = w := by
  have C := Lib.hid (fun w => split_any b hb w)
  rw [h, hf] at C
  clear h hf
  go_enter Tryd.func19, Tryd.ntmps19
  go_wp2_with (go_at_call 13; refine (C.out _).mono ?_; rintro e w' ⟨rfl, rfl⟩)
  go_ret3
  exact ⟨rfl, rfl⟩

theorem or_lead (f : Nat) (hf : f < 4503599627370496) : bits .or .u64 (f : Int) 4503599627370496 = ((4503599627370496 + f : Nat) : Int) := by
  have := u64_or_nat f 4503599627370496 (by omega) (by omega)
  rw [Nat.or_comm, nat_join 52 4503599627370496 f (by decide) (by omega)] at this
  exact this

theorem tz_any (M n : Nat) (hM : M < 18446744073709551616) (hn : Hid (n = Go.Lib.ctz 64 M)) (w : World) (hT : TabAt 2 Go.Lib.deBruijn64tab w) :
    Calls Tryd.prog 64 #[.int .u64 M] w fun e w' => e = .returned (.int .i64 n) ∧ w' = w := by
  rw [hn.out]
  exact Tryd.bits_TZ64 M hM w (fun _ => hT)

theorem whole_norm (b n q M : Nat) (hb : b < 18446744073709551616) (h0 : 0 < expo b) (h : expo b < 2047) (hM : 4503599627370496 + frac b = M) (hn : Hid (n = Go.Lib.ctz 64 M)) (hn53 : n < 53) (hq : (M : Int) / 2 ^ n = (q : Int)) (hq2 : q < 9007199254740992) (w : World) (hT : TabAt 2 Go.Lib.deBruijn64tab w) :
    Calls Tryd.prog 19 #[.float .f64 b] w fun e w' => e = .returned (.tuple #[.int .i64 (if sgn b then -(q : Int) else q), .int .i64 ((expo b : Int) - 1075 + n), .int .i64 0]) ∧ w' = w := by
  have C := Lib.hid (fun w => split_any b hb w)
  have hf : frac b < 4503599627370496 := by unfold frac; omega
  have ho := or_lead (frac b) hf
  rw [hM] at ho
  have hM1 : 4503599627370496 ≤ M := by omega
  have hM2 : M < 9007199254740992 := by omega
  have z : ((expo b : Int) == 2047) = false := by simp; omega
  have z2 : ((M : Int) == 0) = false := by simp; omega
  have HT := Lib.hid hT
  clear hM hT
  generalize expo b = x at *
  generalize frac b = f at *
  cases hs : sgn b
  · rw [hs] at C
    simp only [Bool.false_eq_true, if_false]
    go_enter Tryd.func19, Tryd.ntmps19
    go_wp2_with (first | (go_at_call 13; refine (C.out _).mono ?_; rintro e w' ⟨rfl, rfl⟩) | (go_at_call 64; refine (tz_any _ _ (by omega) hn _ HT.out).mono ?_; rintro e w' ⟨rfl, rfl⟩))
    go_ret3
    exact ⟨rfl, rfl⟩
  · rw [hs] at C
    simp only [if_true]
    go_enter Tryd.func19, Tryd.ntmps19
    go_wp2_with (first | (go_at_call 13; refine (C.out _).mono ?_; rintro e w' ⟨rfl, rfl⟩) | (go_at_call 64; refine (tz_any _ _ (by omega) hn _ HT.out).mono ?_; rintro e w' ⟨rfl, rfl⟩))
    go_ret3
    exact ⟨rfl, rfl⟩

theorem whole_sub (b n q M : Nat) (hb : b < 18446744073709551616) (h0 : expo b = 0) (hM : frac b = M) (hM1 : 0 < M) (hn : Hid (n = Go.Lib.ctz 64 M)) (hn53 : n < 53) (hq : (M : Int) / 2 ^ n = (q : Int)) (hq2 : q < 9007199254740992) (w : World) (hT : TabAt 2 Go.Lib.deBruijn64tab w) :
    Calls Tryd.prog 19 #[.float .f64 b] w fun e w' => e = .returned (.tuple #[.int .i64 (if sgn b then -(q : Int) else q), .int .i64 (-1074 + n), .int .i64 0]) ∧ w' = w := by
  have C := Lib.hid (fun w => split_any b hb w)
  have hf : frac b < 4503599627370496 := by unfold frac; omega
  rw [h0, hM] at C
  rw [hM] at hf
  have z2 : ((M : Int) == 0) = false := by simp; omega
  have HT := Lib.hid hT
  clear hM hT h0
  cases hs : sgn b
  · rw [hs] at C
    simp only [Bool.false_eq_true, if_false]
    go_enter Tryd.func19, Tryd.ntmps19
    go_wp2_with (first | (go_at_call 13; refine (C.out _).mono ?_; rintro e w' ⟨rfl, rfl⟩) | (go_at_call 64; refine (tz_any _ _ (by omega) hn _ HT.out).mono ?_; rintro e w' ⟨rfl, rfl⟩))
    go_ret3
    exact ⟨rfl, rfl⟩
  · rw [hs] at C
    simp only [if_true]
    go_enter Tryd.func19, Tryd.ntmps19
    go_wp2_with (first | (go_at_call 13; refine (C.out _).mono ?_; rintro e w' ⟨rfl, rfl⟩) | (go_at_call 64; refine (tz_any _ _ (by omega) hn _ HT.out).mono ?_; rintro e w' ⟨rfl, rfl⟩))
    go_ret3
    exact ⟨rfl, rfl⟩

/-! ### the same number, by both -/
theorem rung_parts (b : Nat) (_hb : b < 18446744073709551616) : PL.rung b = expo b * 4503599627370496 + frac b ∧ frac b < 4503599627370496 ∧ expo b ≤ 2047 := by
  unfold PL.rung expo frac; omega

theorem big_of_mant (b n q : Nat) (hb : b < 18446744073709551616) (h0 : 0 < PL.rung b) (h : PL.rung b < 9218868437227405312) (hm : PL.mant (PL.rung b) = 2 ^ n * q) :
    ∃ j, bigM b = 2 ^ (n + j) * q ∧ bigE b + (n + j : Nat) = PL.place (PL.rung b) + n := by
  obtain ⟨r1, r2, r3⟩ := rung_parts b hb
  by_cases hs : PL.rung b < 4503599627370496
  · have hl : (PL.rung b).log2 < 52 := (PL.log2_lt_iff _ 52 (by omega)).2 hs
    refine ⟨52 - (PL.rung b).log2, ?_, ?_⟩
    · unfold bigM
      rw [PL.mant_small _ hs] at hm
      rw [if_pos hs, Nat.shiftLeft_eq, Nat.pow_add, Nat.mul_right_comm, ← hm]
    · unfold bigE
      rw [if_pos hs, PL.place_small _ hs]
      omega
  · refine ⟨0, ?_, ?_⟩
    · unfold bigM
      unfold PL.mant at hm
      rw [if_neg hs] at hm ⊢
      exact hm
    · unfold bigE
      rw [if_neg hs, r1, PL.place_norm _ _ (by omega) r2]
      omega

/-- What the program's Whole and the document's Odd say of a finite number that is not nought. -/
theorem whole_odd (b : Nat) (hb : b < 18446744073709551616) (h0 : 0 < PL.rung b) (h : PL.rung b < 9218868437227405312) :
    ∃ n q : Nat, PL.mant (PL.rung b) = 2 ^ n * q ∧ q % 2 = 1 ∧ q < 9007199254740992 ∧ n < 53 ∧
      (∀ w, TabAt 2 Go.Lib.deBruijn64tab w → Calls Tryd.prog 19 #[.float .f64 b] w fun e w' => e = .returned (.tuple #[.int .i64 (if sgn b then -(q : Int) else q), .int .i64 (PL.place (PL.rung b) + n), .int .i64 0]) ∧ w' = w) ∧
      (∀ w, Calls Tryd.prog 21 #[.float .f64 b] w fun e w' => e = .returned (.tuple #[.int .i64 (if sgn b then -(q : Int) else q), .int .i64 (PL.place (PL.rung b) + n)]) ∧ w' = w) := by
  obtain ⟨r1, r2, r3⟩ := rung_parts b hb
  have hmb : 0 < PL.mant (PL.rung b) ∧ PL.mant (PL.rung b) < 9007199254740992 := by unfold PL.mant; split <;> omega
  obtain ⟨n, q, hn, hM, hq, hn53⟩ := ctz_spec (PL.mant (PL.rung b)) hmb.1 hmb.2
  have hq1 : q ≤ PL.mant (PL.rung b) := by
    rw [hM]
    exact Nat.le_mul_of_pos_left _ (Nat.two_pow_pos n)
  have hdiv : ((PL.mant (PL.rung b) : Nat) : Int) / 2 ^ n = (q : Int) := by
    rw [div_pow, hM, Nat.mul_div_cancel_left _ (Nat.two_pow_pos n)]
  have hq2 : q < 9007199254740992 := by omega
  refine ⟨n, q, hM, hq, hq2, hn53, ?_, ?_⟩
  · intro w hT
    by_cases hs : PL.rung b < 4503599627370496
    · have hx : expo b = 0 := by omega
      have hf : frac b = PL.rung b := by omega
      rw [PL.mant_small _ hs] at hn hdiv hmb
      rw [PL.place_small _ hs]
      exact whole_sub b n q (PL.rung b) hb hx hf hmb.1 hn hn53 hdiv hq2 w hT
    · have hx : 0 < expo b := by omega
      rw [r1, PL.mant_norm _ _ hx r2] at hn hdiv
      rw [r1, PL.place_norm _ _ hx r2]
      exact whole_norm b n q _ hb hx (by omega) rfl hn hn53 hdiv hq2 w hT
  · intro w
    obtain ⟨j, hj, he⟩ := big_of_mant b n q hb h0 h hM
    obtain ⟨p1, p2, p3, p4, p5, p6, p7, p8⟩ := norm_parts b hb h0 h
    rw [← he]
    refine odd_any b (n + j) q hb h0 h ?_ hj hq w
    rcases Nat.lt_or_ge (n + j) 53 with h1 | h1
    · exact h1
    · exfalso
      have h2 : 2 ^ 53 ≤ 2 ^ (n + j) := PL.pow_bound _ _ h1
      have h3 : 2 ^ 53 * 1 ≤ 2 ^ (n + j) * q := Nat.mul_le_mul h2 (by omega)
      rw [← hj] at h3
      omega

/-- .. and Make gives the number back. -/
theorem make_back (b n q : Nat) (hb : b < 18446744073709551616) (h0 : 0 < PL.rung b) (h : PL.rung b < 9218868437227405312) (hm : PL.mant (PL.rung b) = 2 ^ n * q) (hn : n < 53) (hq : q % 2 = 1) :
    makeW (decide ((if sgn b then -(q : Int) else q) < 0)) ((if sgn b then -(q : Int) else q) : Int).natAbs (PL.place (PL.rung b) + n) = b := by
  obtain ⟨r1, r2, r3⟩ := rung_parts b hb
  have hpl : -1074 ≤ PL.place (PL.rung b) ∧ PL.place (PL.rung b) ≤ 1000 := by unfold PL.place; omega
  have hr : PL.rungOf (PL.fmt 11 52) q (PL.place (PL.rung b) + n) = PL.rung b := by
    refine PL.rung_of_value' (PL.rung b) h q n _ ?_ (by omega)
    rw [hm, Nat.shiftLeft_eq, Nat.mul_comm]
  have hc : min (max (PL.place (PL.rung b) + n) (-5000)) 5000 = PL.place (PL.rung b) + n := by omega
  have e1 : ((if sgn b then -(q : Int) else q) : Int).natAbs = q := by cases sgn b <;> simp
  have e2 : decide ((if sgn b then -(q : Int) else q) < 0) = sgn b := by cases sgn b <;> simp <;> omega
  rw [e1, e2]
  unfold makeW
  rw [hc, hr]
  unfold sgn PL.rung
  by_cases hs : 9223372036854775808 ≤ b
  · rw [decide_eq_true hs]; simp only [if_true]; omega
  · rw [decide_eq_false hs]; simp only [Bool.false_eq_true, if_false]; omega
end Go.Proofs.YtjjfkidddjcdcaaDoor

namespace Go.Proofs.YtjjfkidddjcdcaaDoor
open Go.ChangeShapes Go.WideShapes Go.ChangeAt Go.RowKit
open Go.Proofs (TabAt)

theorem ord_eq (b c : Nat) (hb : b < 18446744073709551616) (hc : c < 18446744073709551616) (nb : ¬ PL.isNaN b) (nc : ¬ PL.isNaN c) : (FloatKind.f64.format.order b c == some .eq) = decide (PL.sval b = PL.sval c) := by
  rw [f64_fmt, PL.order_eq b c hb hc nb nc]
  by_cases h : PL.sval b = PL.sval c
  · rw [Int.compare_eq_eq.2 h, decide_eq_true h]; rfl
  · rw [decide_eq_false h]
    have : ¬ compare (PL.sval b) (PL.sval c) = .eq := by rw [Int.compare_eq_eq]; exact h
    simpa using this
theorem ord_lt (b c : Nat) (hb : b < 18446744073709551616) (hc : c < 18446744073709551616) (nb : ¬ PL.isNaN b) (nc : ¬ PL.isNaN c) : (FloatKind.f64.format.order b c == some .lt) = decide (PL.sval b < PL.sval c) := by
  rw [f64_fmt, PL.order_eq b c hb hc nb nc]
  by_cases h : PL.sval b < PL.sval c
  · rw [Int.compare_eq_lt.2 h, decide_eq_true h]; rfl
  · rw [decide_eq_false h]
    have : ¬ compare (PL.sval b) (PL.sval c) = .lt := by rw [Int.compare_eq_lt]; exact h
    simpa using this
theorem ord_gt (b c : Nat) (hb : b < 18446744073709551616) (hc : c < 18446744073709551616) (nb : ¬ PL.isNaN b) (nc : ¬ PL.isNaN c) : (FloatKind.f64.format.order b c == some .gt) = decide (PL.sval c < PL.sval b) := by
  rw [f64_fmt, PL.order_eq b c hb hc nb nc]
  by_cases h : PL.sval c < PL.sval b
  · rw [Int.compare_eq_gt.2 h, decide_eq_true h]; rfl
  · rw [decide_eq_false h]
    have : ¬ compare (PL.sval b) (PL.sval c) = .gt := by rw [Int.compare_eq_gt]; exact h
    simpa using this

theorem sval_cases (b : Nat) (_hb : b < 18446744073709551616) : (b < 9223372036854775808 ∧ PL.sval b = b ∧ PL.rung b = b) ∨ (9223372036854775808 ≤ b ∧ PL.sval b = -((b - 9223372036854775808 : Nat) : Int) ∧ PL.rung b = b - 9223372036854775808) := by
  unfold PL.sval PL.rung
  split <;> omega

theorem eq_small (b c : Nat) (hb : b < 18446744073709551616) (hc0 : 0 < c) (hc : c ≤ 9218868437227405312) (nb : ¬ PL.isNaN b) : (FloatKind.f64.format.order b c == some .eq) = decide (b = c) := by
  rw [ord_eq b c hb (by omega) nb (notNaN_small c hc), sval_small c (by omega)]
  rcases sval_cases b hb with ⟨h1, h2, h3⟩ | ⟨h1, h2, h3⟩
  · rw [h2, decide_eq_decide]; omega
  · rw [h2, decide_eq_decide]; omega

theorem gt_zero (b : Nat) (hb : b < 18446744073709551616) (nb : ¬ PL.isNaN b) : (FloatKind.f64.format.order b 0 == some .gt) = decide (0 < b ∧ b < 9223372036854775808) := by
  rw [ord_gt b 0 hb (by omega) nb (notNaN_small 0 (by omega)), sval_small 0 (by omega)]
  rcases sval_cases b hb with ⟨h1, h2, h3⟩ | ⟨h1, h2, h3⟩
  · rw [h2, decide_eq_decide]; omega
  · rw [h2, decide_eq_decide]; omega

theorem inf_pos (w : World) : Calls Tryd.prog 30 #[.int .i64 1] w fun e w' => e = .returned (.float .f64 9218868437227405312) ∧ w' = w := by
  have cf := call_float
  go_enter Tryd.func30, Tryd.ntmps30
  go_wp2_with fail
  go_ret
  exact ⟨rfl, rfl⟩

theorem inf_neg (w : World) : Calls Tryd.prog 30 #[.int .i64 (-1)] w fun e w' => e = .returned (.float .f64 18442240474082181120) ∧ w' = w := by
  have cf := call_float
  go_enter Tryd.func30, Tryd.ntmps30
  go_wp2_with fail
  go_ret
  exact ⟨rfl, rfl⟩

/-- The program's Next, on words. -/
def nextS (b : Nat) : Nat := if 9218868437227405312 < PL.rung b ∨ b = 9218868437227405312 then b else if PL.rung b = 0 then 1 else if b < 9223372036854775808 then b + 1 else b - 1

theorem next_any (b : Nat) (hb : b < 18446744073709551616) (w : World) :
    Calls Tryd.prog 32 #[.float .f64 b] w fun e w' => e = .returned (.float .f64 (nextS b)) ∧ w' = w := by
  have cb := call_bits
  have cf := call_float
  have hn := neq_self b hb
  have z := eq_zero b hb
  have hrl := PL.rung_lt b
  by_cases h1 : PL.isNaN b
  · have e1 : nextS b = b := by unfold nextS; unfold PL.isNaN at h1; rw [if_pos (.inl h1)]
    have e2 : nanB b = true := decide_eq_true h1
    rw [e1]
    rw [e2] at hn
    clear z h1 e1 e2 hrl
    go_enter Tryd.func32, Tryd.ntmps32
    go_wp2_with (go_at_call 30; refine (inf_pos _).mono ?_; rintro e w' ⟨rfl, rfl⟩)
    go_ret
    exact ⟨rfl, rfl⟩
  have e2 : nanB b = false := decide_eq_false h1
  rw [e2] at hn
  have hi := eq_small b 9218868437227405312 hb (by omega) (by omega) h1
  have hg := gt_zero b hb h1
  have hnn : ¬ 9218868437227405312 < PL.rung b := h1
  clear e2 h1
  by_cases h2 : b = 9218868437227405312
  · have e1 : nextS b = b := by unfold nextS; rw [if_pos (.inr h2)]
    rw [e1]
    rw [decide_eq_true h2] at hi
    clear z h2 e1 hg hrl hnn
    go_enter Tryd.func32, Tryd.ntmps32
    go_wp2_with (go_at_call 30; refine (inf_pos _).mono ?_; rintro e w' ⟨rfl, rfl⟩)
    go_ret
    exact ⟨rfl, rfl⟩
  rw [decide_eq_false h2] at hi
  by_cases h3 : PL.rung b = 0
  · have e1 : nextS b = 1 := by unfold nextS; rw [if_neg (by omega), if_pos h3]
    rw [e1]
    rw [decide_eq_true h3] at z
    clear h2 e1 hg h3 hrl hnn
    go_enter Tryd.func32, Tryd.ntmps32
    go_wp2_with (go_at_call 30; refine (inf_pos _).mono ?_; rintro e w' ⟨rfl, rfl⟩)
    go_ret
    exact ⟨rfl, rfl⟩
  rw [decide_eq_false h3] at z
  have hsc := sval_cases b hb
  by_cases h4 : b < 9223372036854775808
  · have e1 : nextS b = b + 1 := by unfold nextS; rw [if_neg (by omega), if_neg h3, if_pos h4]
    rw [e1]
    rw [decide_eq_true (by omega)] at hg
    have e3 : ((b : Int) + 1).toNat = b + 1 := by omega
    clear h2 e1 h3 hrl hnn hsc
    go_enter Tryd.func32, Tryd.ntmps32
    go_wp2_with (go_at_call 30; refine (inf_pos _).mono ?_; rintro e w' ⟨rfl, rfl⟩)
    go_ret
    exact ⟨rfl, rfl⟩
  · have e1 : nextS b = b - 1 := by unfold nextS; rw [if_neg (by omega), if_neg h3, if_neg h4]
    rw [e1]
    rw [decide_eq_false (by omega)] at hg
    have e3 : ((b : Int) - 1).toNat = b - 1 := by omega
    clear h2 e1 h3 hrl hnn hsc
    go_enter Tryd.func32, Tryd.ntmps32
    go_wp2_with (go_at_call 30; refine (inf_pos _).mono ?_; rintro e w' ⟨rfl, rfl⟩)
    go_ret
    exact ⟨rfl, rfl⟩

theorem bits_same (a : Nat) (w : World) :
    Calls Tryd.prog 22 #[.float .f64 a, .float .f64 a] w fun e w' => e = .returned (.bool true) ∧ w' = w := by
  have cb := call_bits
  have h : ((a : Int) == a) = true := by simp
  go_enter Tryd.func22, Tryd.ntmps22
  go_wp2_with fail
  go_ret
  exact ⟨rfl, rfl⟩

theorem bits_nan (a c : Nat) (ha : a < 18446744073709551616) (hc : c < 18446744073709551616) (na : PL.isNaN a) (nc : PL.isNaN c) (w : World) :
    Calls Tryd.prog 22 #[.float .f64 a, .float .f64 c] w fun e w' => e = .returned (.bool true) ∧ w' = w := by
  by_cases hac : a = c
  · subst hac; exact bits_same a w
  have cb := call_bits
  have h : ((a : Int) == c) = false := by simp; omega
  have h1 := neq_self a ha
  have h2 := neq_self c hc
  rw [show nanB a = true from decide_eq_true na] at h1
  rw [show nanB c = true from decide_eq_true nc] at h2
  clear na nc hac
  go_enter Tryd.func22, Tryd.ntmps22
  go_wp2_with fail
  go_ret
  exact ⟨rfl, rfl⟩
end Go.Proofs.YtjjfkidddjcdcaaDoor

namespace Go.Proofs.YtjjfkidddjcdcaaDoor
open Go.ChangeShapes Go.WideShapes Go.ChangeAt Go.RowKit
open Go.Proofs (TabAt)

theorem tenth_n : (1 : Nat) = Go.Lib.ctz 64 7205759403792794 := by decide +kernel
theorem tenth_x : expo 4591870180066957722 = 1019 := by decide +kernel
theorem tenth_f : 4503599627370496 + frac 4591870180066957722 = 7205759403792794 := by decide +kernel
theorem tenth_s : sgn 4591870180066957722 = false := by decide +kernel
theorem tenth_q : ((7205759403792794 : Nat) : Int) / 2 ^ 1 = ((3602879701896397 : Nat) : Int) := by decide +kernel

theorem whole_tenth (w : World) (hT : TabAt 2 Go.Lib.deBruijn64tab w) :
    Calls Tryd.prog 19 #[.float .f64 4591870180066957722] w fun e w' => e = .returned (.tuple #[.int .i64 3602879701896397, .int .i64 (-55), .int .i64 0]) ∧ w' = w := by
  have h := whole_norm 4591870180066957722 1 3602879701896397 7205759403792794 (by omega) (by rw [tenth_x]; omega) (by rw [tenth_x]; omega) tenth_f tenth_n (by omega) tenth_q (by omega) w hT
  rw [tenth_s, tenth_x] at h
  exact h

theorem join_half (w : World) :
    Calls Tryd.prog 18 #[.bool true, .int .i64 1023, .int .u64 2251799813685248] w fun e w' => e = .returned (.tuple #[.float .f64 13832806255468478464, .int .i64 0]) ∧ w' = w :=
  join_ok true 1023 2251799813685248 w (by omega) (by omega)

theorem made_w : makeW false 3 (-1) = 4609434218613702656 := by decide +kernel

theorem make_three (w : World) (g0 : w.cell? ⟨1, 0, none⟩ = some (.int .i64 11)) (g1 : w.cell? ⟨1, 1, none⟩ = some (.int .i64 52)) (hsz : 1 < w.heap.size) :
    Calls Tryd.prog 23 #[.int .i64 3, .int .i64 (-1)] w fun e' w' => e' = .returned (.float .f64 4609434218613702656) ∧ Below w.heap.size w w' := by
  have h := make_any 3 (-1) (by omega) (by omega) w g0 g1 hsz
  rw [show decide ((3 : Int) < 0) = false by decide, show (3 : Int).natAbs = 3 by decide, made_w] at h
  exact h

theorem next_one (w : World) : Calls Tryd.prog 32 #[.float .f64 4607182418800017408] w fun e w' => e = .returned (.float .f64 4607182418800017409) ∧ w' = w := by
  have h := next_any 4607182418800017408 (by omega) w
  rw [show nextS 4607182418800017408 = 4607182418800017409 by decide +kernel] at h
  exact h

theorem ord_self (b c : Nat) (h : b = c) (hb : b ≤ 9218868437227405312) : (FloatKind.f64.format.order b c == some .eq) = true := by
  subst h
  rw [ord_eq b b (by omega) (by omega) (notNaN_small b hb) (notNaN_small b hb)]
  simp

theorem half_self : (FloatKind.f64.format.order 13832806255468478464 13832806255468478464 == some .eq) = true := by decide +kernel

theorem made_any (w : World) (g0 : w.cell? ⟨1, 0, none⟩ = some (.int .i64 11)) (g1 : w.cell? ⟨1, 1, none⟩ = some (.int .i64 52)) (hsz : 1 < w.heap.size) (hT : TabAt 2 Go.Lib.deBruijn64tab w) :
    Calls Tryd.prog 12 #[] w fun e' w' => e' = .returned (.bool true) ∧ Below w.heap.size w w' := by
  have e1 := half_self
  have e2 := ord_self 4609434218613702656 4609434218613702656 rfl (by omega)
  have e3 := ord_self 4607182418800017409 4607182418800017409 rfl (by omega)
  have HT := Lib.hid hT
  clear hT
  go_enter Tryd.func12, Tryd.ntmps12
  go_wp2_with (first | (go_at_call 19; refine (whole_tenth _ HT.out).mono ?_; rintro e w' ⟨rfl, rfl⟩) | (go_at_call 18; refine (join_half _).mono ?_; rintro e w' ⟨rfl, rfl⟩) | (go_at_call 23; refine (make_three _ g0 g1 hsz).mono ?_; rintro e w' ⟨rfl, hb⟩) | (go_at_call 32; refine (next_one _).mono ?_; rintro e w' ⟨rfl, rfl⟩))
  go_ret
  exact ⟨rfl, hb⟩
end Go.Proofs.YtjjfkidddjcdcaaDoor
