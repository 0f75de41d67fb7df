/- Proved here: contracts of the document's Odd and of the program's Whole at this program. Conditions: the arguments are words of 64 bits; for Whole the library's table is as laid. -/
import Derived.Test.YtjjfkidddjcdcaaDoorOdd
namespace Go.Proofs.YtjjfkidddjcdcaaDoor
open Go.ChangeShapes Go.WideShapes Go.ChangeAt Go.RowKit

theorem wordOf_lt (s : Bool) (x f : Nat) (hx : x ≤ 2047) (hf : f < 4503599627370496) : wordOf s x f < 18446744073709551616 := by
  unfold wordOf; cases s <;> simp <;> omega
theorem rung_wordOf (s : Bool) (x f : Nat) (hx : x ≤ 2047) (hf : f < 4503599627370496) : PL.rung (wordOf s x f) = x * 4503599627370496 + f := by
  unfold wordOf PL.rung; cases s <;> simp <;> omega
theorem sgn_wordOf (s : Bool) (x f : Nat) (hx : x ≤ 2047) (hf : f < 4503599627370496) : sgn (wordOf s x f) = s := by
  unfold wordOf sgn; cases s <;> simp <;> omega

theorem mul_pow53 (s : Bool) (M : Nat) (h1 : 4503599627370496 ≤ M) (h2 : M < 9007199254740992) :
    floatBits .mul .f64 (wordOf s 1022 (M - 4503599627370496)) 4845873199050653696 = some (wordOf s 1075 (M - 4503599627370496)) := by
  have hy : PL.rung 4845873199050653696 = 1076 * 4503599627370496 + 0 := rung_small _ (by omega)
  have hr := rung_wordOf s 1022 (M - 4503599627370496) (by omega) (by omega)
  show Ieee.double.mul _ 4845873199050653696 = _
  rw [PL.mul_fin _ _ (wordOf_lt _ _ _ (by omega) (by omega)) (by omega) (by omega) (by omega), hy, hr, PL.mant_norm 1076 0 (by omega) (by omega), PL.place_norm 1076 0 (by omega) (by omega), PL.mant_norm 1022 _ (by omega) (by omega), PL.place_norm 1022 _ (by omega) (by omega), isNeg_sgn, sgn_wordOf _ _ _ (by omega) (by omega)]
  have hs : PL.isNeg 4845873199050653696 = false := decide_eq_false (by omega)
  rw [hs, Bool.xor_false]
  have key : PL.rungOf Ieee.double ((4503599627370496 + (M - 4503599627370496)) * (4503599627370496 + 0)) (((1022 : Nat) : Int) - 1075 + (((1076 : Nat) : Int) - 1075)) = 1075 * 4503599627370496 + (M - 4503599627370496) := by
    refine PL.rung_of_value _ (by omega) _ 52 _ ?_ ?_
    · rw [PL.mant_norm 1075 _ (by omega) (by omega), Nat.shiftLeft_eq]
    · rw [PL.place_norm 1075 _ (by omega) (by omega)]; omega
  rw [key]
  unfold wordOf
  rw [Nat.add_assoc]

theorem cut_zero (s : Bool) (M : Nat) : Ieee.Toward.cut .zero s M 0 = M := by
  unfold Ieee.Toward.cut
  simp
theorem toInt_zero (s : Bool) (M : Nat) : (Ieee.Datum.number s M 0).toInt .zero = some (if s then -(M : Int) else M) := by
  show some (Ieee.signed s (Ieee.Toward.cut .zero s (M <<< 0) 0) 0) = _
  rw [Nat.shiftLeft_zero, cut_zero]
  unfold Ieee.signed
  rw [Nat.shiftLeft_zero]
theorem read_word (b x f : Nat) (hb : b < 18446744073709551616) (hx : 0 < x) (hx2 : x < 2047) (hf : f < 4503599627370496) (hr : PL.rung b = x * 4503599627370496 + f) :
    Ieee.double.read b = .number (PL.isNeg b) (4503599627370496 + f) ((x : Int) - 1075) := by
  rw [PL.read_fin b hb (by omega), hr, PL.mant_norm x f hx hf, PL.place_norm x f hx hf]
theorem val_of (b : Nat) (n : Int) (ht : (Ieee.double.read b).toInt .zero = some n) (h1 : -9223372036854775808 ≤ n) (h2 : n ≤ 9223372036854775807) : floatToIntVal .f64 b .i64 = some n := by
  have e1 : IntKind.i64.min = -9223372036854775808 := by decide
  have e2 : IntKind.i64.max = 9223372036854775807 := by decide
  have hd : FloatKind.f64.decode b = Ieee.double.read b := rfl
  unfold floatToIntVal
  rw [hd, ht]
  show (if IntKind.i64.min ≤ n ∧ n ≤ IntKind.i64.max then some n else none) = some n
  rw [e1, e2, if_pos ⟨h1, h2⟩]

theorem toInt_read (b x : Nat) (s : Bool) (M : Nat) (hb : b < 18446744073709551616) (hx : x = 1075) (h1 : 4503599627370496 ≤ M) (h2 : M < 9007199254740992) (hr : PL.rung b = x * 4503599627370496 + (M - 4503599627370496)) (hs : PL.isNeg b = s) :
    floatToIntVal .f64 b .i64 = some (if s then -(M : Int) else M) := by
  have e1 : 4503599627370496 + (M - 4503599627370496) = M := by omega
  have e2 : (x : Int) - 1075 = 0 := by omega
  refine val_of b _ ?_ (by cases s <;> simp <;> omega) (by cases s <;> simp <;> omega)
  rw [read_word b x _ hb (by omega) (by omega) (by omega) hr, hs, e1, e2]
  exact toInt_zero s M

theorem toInt_word (s : Bool) (M : Nat) (h1 : 4503599627370496 ≤ M) (h2 : M < 9007199254740992) :
    floatToIntVal .f64 (wordOf s 1075 (M - 4503599627370496)) .i64 = some (if s then -(M : Int) else M) :=
  toInt_read _ 1075 s M (wordOf_lt _ _ _ (by omega) (by omega)) rfl h1 h2 (rung_wordOf s 1075 _ (by omega) (by omega)) (sgn_wordOf s 1075 _ (by omega) (by omega))

theorem conv_word (s : Bool) (M : Nat) (h1 : 4503599627370496 ≤ M) (h2 : M < 9007199254740992) (w : World) :
    (convert 33 3 (.float .f64 (wordOf s 1075 (M - 4503599627370496)))).run Tryd.prog w = .ok (.int .i64 (if s then -(M : Int) else M)) w :=
  run_convert_float_int w 33 3 .f64 .i64 _ _ (by rw [Tryd.underlying33]; rfl) Tryd.underlying3 (toInt_word s M h1 h2)

theorem odd_zero (b : Nat) (hb : b < 18446744073709551616) (h0 : PL.rung b = 0) (w : World) :
    Calls Tryd.prog 21 #[.float .f64 b] w fun e w' => e = .returned (.tuple #[.int .i64 0, .int .i64 0]) ∧ w' = w := by
  have z := eq_zero b hb
  rw [decide_eq_true h0] at z
  clear h0
  go_enter Tryd.func21, Tryd.ntmps21
  go_wp2_with fail
  go_ret2
  exact ⟨rfl, rfl⟩

/-- how many twos divide it -/
theorem ctz_spec (M : Nat) (h0 : 0 < M) (h : M < 9007199254740992) : ∃ n q, n = Go.Lib.ctz 64 M ∧ M = 2 ^ n * q ∧ q % 2 = 1 ∧ n < 53 := by
  obtain ⟨m, hm, hk⟩ := Go.Lib.ctzFrom_spec 64 M h0 (by omega)
  have e : Go.Lib.ctz 64 M = Go.Lib.ctzFrom 64 M := by unfold Go.Lib.ctz; rw [if_neg (by omega)]
  refine ⟨Go.Lib.ctz 64 M, 2 * m + 1, rfl, by rw [e]; exact hm, by omega, ?_⟩
  rw [e]
  rcases Nat.lt_or_ge (Go.Lib.ctzFrom 64 M) 53 with h1 | h1
  · exact h1
  · exfalso
    have h2 : 2 ^ 53 ≤ 2 ^ Go.Lib.ctzFrom 64 M := PL.pow_bound _ _ h1
    have h3 : 2 ^ 53 * 1 ≤ 2 ^ Go.Lib.ctzFrom 64 M * (2 * m + 1) := Nat.mul_le_mul h2 (by omega)
    rw [← hm] at h3
    omega

theorem odd_any (b n q : Nat) (hb : b < 18446744073709551616) (h0 : 0 < PL.rung b) (h : PL.rung b < 9218868437227405312) (hn : n < 53) (hM : Hid (bigM b = 2 ^ n * q)) (hq : q % 2 = 1) (w : World) :
    Calls Tryd.prog 21 #[.float .f64 b] w fun e w' => e = .returned (.tuple #[.int .i64 (if sgn b then -(q : Int) else q), .int .i64 (bigE b + n)]) ∧ w' = w := by
  have z := eq_zero b hb
  rw [decide_eq_false (by omega)] at z
  obtain ⟨p1, p2, p3, p4, p5, p6, p7, p8⟩ := norm_parts b hb h0 h
  have C := Lib.hid (fun w => frexp_any b hb h0 h w)
  have hm : ∀ w, (binOp .mul 33 (.float .f64 (wordOf (sgn b) 1022 (bigM b - 4503599627370496))) (.float .f64 4845873199050653696)).run Tryd.prog w = .ok (.float .f64 (wordOf (sgn b) 1075 (bigM b - 4503599627370496))) w := fun w => run_float_arith w .mul 33 .f64 _ _ _ (mul_pow53 (sgn b) (bigM b) p8 p7)
  have hc := fun w => conv_word (sgn b) (bigM b) p8 p7 w
  have x1 : -1126 ≤ bigE b := by have : -52 ≤ normE b := by unfold normE; split <;> omega
                                 omega
  have x2 : bigE b ≤ 2000 := by have : normE b ≤ 0 := by unfold normE; split <;> omega
                                omega
  clear p1 p2 p3 p4 p5 p6 h0 h
  generalize wordOf (sgn b) 1022 (bigM b - 4503599627370496) = W at *
  generalize wordOf (sgn b) 1075 (bigM b - 4503599627370496) = W2 at *
  generalize bigE b = X at *
  generalize bigM b = M at *
  have hdiv : ∀ k, k < n → M / 2 ^ k % 2 = 0 ∧ M / 2 ^ k / 2 = M / 2 ^ (k + 1) := by
    intro k hk
    refine ⟨?_, by rw [Nat.pow_succ, Nat.div_div_eq_div_mul]⟩
    rw [hM.out, show n = k + (n - k - 1 + 1) by omega, Nat.pow_add, Nat.mul_assoc, Nat.mul_div_cancel_left _ (Nat.two_pow_pos k), Nat.pow_succ, Nat.mul_comm _ 2, Nat.mul_assoc]
    exact Nat.mul_mod_right _ _
  have hlast : M / 2 ^ n = q := by rw [hM.out]; exact Nat.mul_div_cancel_left _ (Nat.two_pow_pos n)
  have hle : ∀ k, M / 2 ^ k ≤ M := fun k => Nat.div_le_self _ _
  have HD := Lib.hid hdiv
  have HL := Lib.hid hlast
  have HLE := Lib.hid hle
  clear hdiv hlast hle
  cases hs : sgn b
  · rw [hs] at hc
    simp only [Bool.false_eq_true, if_false] at hc ⊢
    go_enter Tryd.func21, Tryd.ntmps21
    go_wp2_with (first | (go_at_call 65; refine (C.out _).mono ?_; rintro e w' ⟨rfl, rfl⟩))
    go_loop [5, 6] (fun v5 v6 => ∃ k : Nat, k ≤ n ∧ v6 = .int .i64 (M / 2 ^ k : Nat) ∧ v5 = .int .i64 (X + k)) (fun v5 _ => (X + n - intOf v5).toNat)
    case atStart => exact ⟨0, by omega, by simp, by go_num⟩
    case round =>
      obtain ⟨k, hk, rfl, rfl⟩ := hrel
      have hle := HLE.out k
      by_cases hlt : k < n
      · obtain ⟨d1, d2⟩ := HD.out k hlt
        have D2 := Lib.hid d2
        clear d2
        generalize hS : M / 2 ^ k = S at *
        have HS := Lib.hid hS
        clear hS
        have t1 : ((S : Int) % 2 == 0) = true := by simp; omega
        go_wp2_with fail
        go_round
        case rel => exact ⟨k + 1, by omega, by rw [← D2.out]; rfl, by go_num⟩
        case measure => simp [intOf]; omega
      · obtain rfl : k = n := by omega
        have hS := HL.out
        rw [hS]
        rw [hS] at hle
        have t1 : ((q : Int) % 2 == 0) = false := by simp; omega
        go_wp2_with fail
        go_ret2
        exact ⟨rfl, rfl⟩
  · rw [hs] at hc
    simp only [if_true] at hc ⊢
    go_enter Tryd.func21, Tryd.ntmps21
    go_wp2_with (first | (go_at_call 65; refine (C.out _).mono ?_; rintro e w' ⟨rfl, rfl⟩))
    go_loop [5, 6] (fun v5 v6 => ∃ k : Nat, k ≤ n ∧ v6 = .int .i64 (-((M / 2 ^ k : Nat) : Int)) ∧ v5 = .int .i64 (X + k)) (fun v5 _ => (X + n - intOf v5).toNat)
    case atStart => exact ⟨0, by omega, by simp, by go_num⟩
    case round =>
      obtain ⟨k, hk, rfl, rfl⟩ := hrel
      have hle := HLE.out k
      by_cases hlt : k < n
      · obtain ⟨d1, d2⟩ := HD.out k hlt
        have D2 := Lib.hid d2
        clear d2
        generalize hS : M / 2 ^ k = S at *
        have HS := Lib.hid hS
        clear hS
        go_wp2_with fail
        go_round
        case rel => exact ⟨k + 1, by omega, by rw [← D2.out]; rfl, by go_num⟩
        case measure => simp [intOf]; omega
      · obtain rfl : k = n := by omega
        have hS := HL.out
        rw [hS]
        rw [hS] at hle
        go_wp2_with fail
        go_ret2
        exact ⟨rfl, rfl⟩
end Go.Proofs.YtjjfkidddjcdcaaDoor
