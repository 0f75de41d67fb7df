/- Proved here: the contract of the program's Whole at this program, and that it answers as the document's Odd. Conditions: the argument is a word of 64 bits; the library's table is as laid. -/
import Derived.Test.YtjjfkidddjcdcaaDoorParts
namespace Go.Proofs.YtjjfkidddjcdcaaDoor
open Go.ChangeShapes Go.WideShapes Go.ChangeAt Go.RowKit
open Go.Proofs (TabAt)

theorem whole_unfin (b : Nat) (hb : b < 18446744073709551616) (h : expo b = 2047) (w : World) :
    Calls Tryd.prog 19 #[.float .f64 b] w fun e w' => e = .returned (.tuple #[.int .i64 0, .int .i64 0, .int .i64 4]) ∧ w' = w := by
  have C := Lib.hid (fun w => split_any b hb w)
  rw [h] at C
  clear h
  go_enter Tryd.func19, Tryd.ntmps19
  go_wp2_with (go_at_call 13; refine (C.out _).mono ?_; rintro e w' ⟨rfl, rfl⟩)
  go_ret3
  exact ⟨rfl, rfl⟩

theorem whole_zero (b : Nat) (hb : b < 18446744073709551616) (h : expo b = 0) (hf : frac b = 0) (w : World) :
    Calls Tryd.prog 19 #[.float .f64 b] w fun e w' => e = .returned (.tuple #[.int .i64 0, .int .i64 0, .int .i64 0]) ∧ w' = w := by
  have C := Lib.hid (fun w => split_any b hb w)
  rw [h, hf] at C
  clear h hf
  go_enter Tryd.func19, Tryd.ntmps19
  go_wp2_with (go_at_call 13; refine (C.out _).mono ?_; rintro e w' ⟨rfl, rfl⟩)
  go_ret3
  exact ⟨rfl, rfl⟩

theorem or_lead (f : Nat) (hf : f < 4503599627370496) : bits .or .u64 (f : Int) 4503599627370496 = ((4503599627370496 + f : Nat) : Int) := by
  have := u64_or_nat f 4503599627370496 (by omega) (by omega)
  rw [Nat.or_comm, nat_join 52 4503599627370496 f (by decide) (by omega)] at this
  exact this

theorem tz_any (M n : Nat) (hM : M < 18446744073709551616) (hn : Hid (n = Go.Lib.ctz 64 M)) (w : World) (hT : TabAt 2 Go.Lib.deBruijn64tab w) :
    Calls Tryd.prog 64 #[.int .u64 M] w fun e w' => e = .returned (.int .i64 n) ∧ w' = w := by
  rw [hn.out]
  exact Tryd.bits_TZ64 M hM w (fun _ => hT)

theorem whole_norm (b n q M : Nat) (hb : b < 18446744073709551616) (h0 : 0 < expo b) (h : expo b < 2047) (hM : 4503599627370496 + frac b = M) (hn : Hid (n = Go.Lib.ctz 64 M)) (hn53 : n < 53) (hq : (M : Int) / 2 ^ n = (q : Int)) (hq2 : q < 9007199254740992) (w : World) (hT : TabAt 2 Go.Lib.deBruijn64tab w) :
    Calls Tryd.prog 19 #[.float .f64 b] w fun e w' => e = .returned (.tuple #[.int .i64 (if sgn b then -(q : Int) else q), .int .i64 ((expo b : Int) - 1075 + n), .int .i64 0]) ∧ w' = w := by
  have C := Lib.hid (fun w => split_any b hb w)
  have hf : frac b < 4503599627370496 := by unfold frac; omega
  have ho := or_lead (frac b) hf
  rw [hM] at ho
  have hM1 : 4503599627370496 ≤ M := by omega
  have hM2 : M < 9007199254740992 := by omega
  have z : ((expo b : Int) == 2047) = false := by simp; omega
  have z2 : ((M : Int) == 0) = false := by simp; omega
  have HT := Lib.hid hT
  clear hM hT
  generalize expo b = x at *
  generalize frac b = f at *
  cases hs : sgn b
  · rw [hs] at C
    simp only [Bool.false_eq_true, if_false]
    go_enter Tryd.func19, Tryd.ntmps19
    go_wp2_with (first | (go_at_call 13; refine (C.out _).mono ?_; rintro e w' ⟨rfl, rfl⟩) | (go_at_call 64; refine (tz_any _ _ (by omega) hn _ HT.out).mono ?_; rintro e w' ⟨rfl, rfl⟩))
    go_ret3
    exact ⟨rfl, rfl⟩
  · rw [hs] at C
    simp only [if_true]
    go_enter Tryd.func19, Tryd.ntmps19
    go_wp2_with (first | (go_at_call 13; refine (C.out _).mono ?_; rintro e w' ⟨rfl, rfl⟩) | (go_at_call 64; refine (tz_any _ _ (by omega) hn _ HT.out).mono ?_; rintro e w' ⟨rfl, rfl⟩))
    go_ret3
    exact ⟨rfl, rfl⟩

theorem whole_sub (b n q M : Nat) (hb : b < 18446744073709551616) (h0 : expo b = 0) (hM : frac b = M) (hM1 : 0 < M) (hn : Hid (n = Go.Lib.ctz 64 M)) (hn53 : n < 53) (hq : (M : Int) / 2 ^ n = (q : Int)) (hq2 : q < 9007199254740992) (w : World) (hT : TabAt 2 Go.Lib.deBruijn64tab w) :
    Calls Tryd.prog 19 #[.float .f64 b] w fun e w' => e = .returned (.tuple #[.int .i64 (if sgn b then -(q : Int) else q), .int .i64 (-1074 + n), .int .i64 0]) ∧ w' = w := by
  have C := Lib.hid (fun w => split_any b hb w)
  have hf : frac b < 4503599627370496 := by unfold frac; omega
  rw [h0, hM] at C
  rw [hM] at hf
  have z2 : ((M : Int) == 0) = false := by simp; omega
  have HT := Lib.hid hT
  clear hM hT h0
  cases hs : sgn b
  · rw [hs] at C
    simp only [Bool.false_eq_true, if_false]
    go_enter Tryd.func19, Tryd.ntmps19
    go_wp2_with (first | (go_at_call 13; refine (C.out _).mono ?_; rintro e w' ⟨rfl, rfl⟩) | (go_at_call 64; refine (tz_any _ _ (by omega) hn _ HT.out).mono ?_; rintro e w' ⟨rfl, rfl⟩))
    go_ret3
    exact ⟨rfl, rfl⟩
  · rw [hs] at C
    simp only [if_true]
    go_enter Tryd.func19, Tryd.ntmps19
    go_wp2_with (first | (go_at_call 13; refine (C.out _).mono ?_; rintro e w' ⟨rfl, rfl⟩) | (go_at_call 64; refine (tz_any _ _ (by omega) hn _ HT.out).mono ?_; rintro e w' ⟨rfl, rfl⟩))
    go_ret3
    exact ⟨rfl, rfl⟩

/-! ### the same number, by both -/
theorem rung_parts (b : Nat) (_hb : b < 18446744073709551616) : PL.rung b = expo b * 4503599627370496 + frac b ∧ frac b < 4503599627370496 ∧ expo b ≤ 2047 := by
  unfold PL.rung expo frac; omega

theorem big_of_mant (b n q : Nat) (hb : b < 18446744073709551616) (h0 : 0 < PL.rung b) (h : PL.rung b < 9218868437227405312) (hm : PL.mant (PL.rung b) = 2 ^ n * q) :
    ∃ j, bigM b = 2 ^ (n + j) * q ∧ bigE b + (n + j : Nat) = PL.place (PL.rung b) + n := by
  obtain ⟨r1, r2, r3⟩ := rung_parts b hb
  by_cases hs : PL.rung b < 4503599627370496
  · have hl : (PL.rung b).log2 < 52 := (PL.log2_lt_iff _ 52 (by omega)).2 hs
    refine ⟨52 - (PL.rung b).log2, ?_, ?_⟩
    · unfold bigM
      rw [PL.mant_small _ hs] at hm
      rw [if_pos hs, Nat.shiftLeft_eq, Nat.pow_add, Nat.mul_right_comm, ← hm]
    · unfold bigE
      rw [if_pos hs, PL.place_small _ hs]
      omega
  · refine ⟨0, ?_, ?_⟩
    · unfold bigM
      unfold PL.mant at hm
      rw [if_neg hs] at hm ⊢
      exact hm
    · unfold bigE
      rw [if_neg hs, r1, PL.place_norm _ _ (by omega) r2]
      omega

/-- What the program's Whole and the document's Odd say of a finite number that is not nought. -/
theorem whole_odd (b : Nat) (hb : b < 18446744073709551616) (h0 : 0 < PL.rung b) (h : PL.rung b < 9218868437227405312) :
    ∃ n q : Nat, PL.mant (PL.rung b) = 2 ^ n * q ∧ q % 2 = 1 ∧ q < 9007199254740992 ∧ n < 53 ∧
      (∀ w, TabAt 2 Go.Lib.deBruijn64tab w → Calls Tryd.prog 19 #[.float .f64 b] w fun e w' => e = .returned (.tuple #[.int .i64 (if sgn b then -(q : Int) else q), .int .i64 (PL.place (PL.rung b) + n), .int .i64 0]) ∧ w' = w) ∧
      (∀ w, Calls Tryd.prog 21 #[.float .f64 b] w fun e w' => e = .returned (.tuple #[.int .i64 (if sgn b then -(q : Int) else q), .int .i64 (PL.place (PL.rung b) + n)]) ∧ w' = w) := by
  obtain ⟨r1, r2, r3⟩ := rung_parts b hb
  have hmb : 0 < PL.mant (PL.rung b) ∧ PL.mant (PL.rung b) < 9007199254740992 := by unfold PL.mant; split <;> omega
  obtain ⟨n, q, hn, hM, hq, hn53⟩ := ctz_spec (PL.mant (PL.rung b)) hmb.1 hmb.2
  have hq1 : q ≤ PL.mant (PL.rung b) := by
    rw [hM]
    exact Nat.le_mul_of_pos_left _ (Nat.two_pow_pos n)
  have hdiv : ((PL.mant (PL.rung b) : Nat) : Int) / 2 ^ n = (q : Int) := by
    rw [div_pow, hM, Nat.mul_div_cancel_left _ (Nat.two_pow_pos n)]
  have hq2 : q < 9007199254740992 := by omega
  refine ⟨n, q, hM, hq, hq2, hn53, ?_, ?_⟩
  · intro w hT
    by_cases hs : PL.rung b < 4503599627370496
    · have hx : expo b = 0 := by omega
      have hf : frac b = PL.rung b := by omega
      rw [PL.mant_small _ hs] at hn hdiv hmb
      rw [PL.place_small _ hs]
      exact whole_sub b n q (PL.rung b) hb hx hf hmb.1 hn hn53 hdiv hq2 w hT
    · have hx : 0 < expo b := by omega
      rw [r1, PL.mant_norm _ _ hx r2] at hn hdiv
      rw [r1, PL.place_norm _ _ hx r2]
      exact whole_norm b n q _ hb hx (by omega) rfl hn hn53 hdiv hq2 w hT
  · intro w
    obtain ⟨j, hj, he⟩ := big_of_mant b n q hb h0 h hM
    obtain ⟨p1, p2, p3, p4, p5, p6, p7, p8⟩ := norm_parts b hb h0 h
    rw [← he]
    refine odd_any b (n + j) q hb h0 h ?_ hj hq w
    rcases Nat.lt_or_ge (n + j) 53 with h1 | h1
    · exact h1
    · exfalso
      have h2 : 2 ^ 53 ≤ 2 ^ (n + j) := PL.pow_bound _ _ h1
      have h3 : 2 ^ 53 * 1 ≤ 2 ^ (n + j) * q := Nat.mul_le_mul h2 (by omega)
      rw [← hj] at h3
      omega

/-- .. and Make gives the number back. -/
theorem make_back (b n q : Nat) (hb : b < 18446744073709551616) (h0 : 0 < PL.rung b) (h : PL.rung b < 9218868437227405312) (hm : PL.mant (PL.rung b) = 2 ^ n * q) (hn : n < 53) (hq : q % 2 = 1) :
    makeW (decide ((if sgn b then -(q : Int) else q) < 0)) ((if sgn b then -(q : Int) else q) : Int).natAbs (PL.place (PL.rung b) + n) = b := by
  obtain ⟨r1, r2, r3⟩ := rung_parts b hb
  have hpl : -1074 ≤ PL.place (PL.rung b) ∧ PL.place (PL.rung b) ≤ 1000 := by unfold PL.place; omega
  have hr : PL.rungOf (PL.fmt 11 52) q (PL.place (PL.rung b) + n) = PL.rung b := by
    refine PL.rung_of_value' (PL.rung b) h q n _ ?_ (by omega)
    rw [hm, Nat.shiftLeft_eq, Nat.mul_comm]
  have hc : min (max (PL.place (PL.rung b) + n) (-5000)) 5000 = PL.place (PL.rung b) + n := by omega
  have e1 : ((if sgn b then -(q : Int) else q) : Int).natAbs = q := by cases sgn b <;> simp
  have e2 : decide ((if sgn b then -(q : Int) else q) < 0) = sgn b := by cases sgn b <;> simp <;> omega
  rw [e1, e2]
  unfold makeW
  rw [hc, hr]
  unfold sgn PL.rung
  by_cases hs : 9223372036854775808 ≤ b
  · rw [decide_eq_true hs]; simp only [if_true]; omega
  · rw [decide_eq_false hs]; simp only [Bool.false_eq_true, if_false]; omega
end Go.Proofs.YtjjfkidddjcdcaaDoor
