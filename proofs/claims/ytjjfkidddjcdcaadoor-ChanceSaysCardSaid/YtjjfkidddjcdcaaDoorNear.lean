/- Proved here: contracts of the program's Prev, Ulp, Key, of the document's UlpOf and KeyOf, and of math.Nextafter towards both infinities, at this program. Conditions: words of 64 bits; for Ulp the listed variable holds what is laid. -/
import Derived.Test.YtjjfkidddjcdcaaDoorLdexp
import Derived.Test.YtjjfkidddjcdcaaDoorLaid
namespace Go.Proofs.YtjjfkidddjcdcaaDoor
open Go.ChangeShapes Go.WideShapes Go.ChangeAt Go.RowKit

/-- the other sign -/
def flip (b : Nat) : Nat := if b < 9223372036854775808 then b + 9223372036854775808 else b - 9223372036854775808

theorem xor_top (b : Nat) (h : b < 2 ^ 63) : b ^^^ 2 ^ 63 = b + 2 ^ 63 := by
  have e : b ^^^ 2 ^ 63 = 2 ^ 63 ||| b := by
    apply Nat.eq_of_testBit_eq
    intro i
    rw [Nat.testBit_xor, Nat.testBit_or, Nat.testBit_two_pow]
    by_cases hi : 63 = i
    · subst hi
      rw [Nat.testBit_lt_two_pow h]
      simp
    · simp [hi]
  rw [e, nat_join 63 (2 ^ 63) b (Nat.mod_self _) h]
  omega

theorem neg_flip (b : Nat) (_hb : b < 18446744073709551616) : Op.negFloat .f64 b = flip b := by
  show b ^^^ 2 ^ 63 = flip b
  unfold flip
  split
  · rename_i h
    exact xor_top b (by omega)
  · rename_i h
    obtain ⟨r, hr⟩ : ∃ r, b = r + 2 ^ 63 := ⟨b - 9223372036854775808, by omega⟩
    rw [hr, ← xor_top r (by omega), Nat.xor_assoc, Nat.xor_self, Nat.xor_zero, xor_top r (by omega)]
    omega

theorem run_neg (b : Nat) (hb : b < 18446744073709551616) (w : World) : (Op.unary .neg (.float .f64 b)).run Tryd.prog w = .ok (.float .f64 (flip b)) w := by
  rw [← neg_flip b hb]; rfl

theorem prev_any (b : Nat) (hb : b < 18446744073709551616) (w : World) :
    Calls Tryd.prog 33 #[.float .f64 b] w fun e w' => e = .returned (.float .f64 (flip (nextS (flip b)))) ∧ w' = w := by
  have hf : flip b < 18446744073709551616 := by unfold flip; split <;> omega
  have hn : nextS (flip b) < 18446744073709551616 := by
    have := sval_cases (flip b) hf
    unfold nextS
    split
    · exact hf
    · split
      · omega
      · split <;> omega
  have C := Lib.hid (fun w => next_any (flip b) hf w)
  have r1 := run_neg b hb
  have r2 := run_neg _ hn
  generalize nextS (flip b) = n at *
  generalize flip b = fb at *
  generalize flip n = fn at *
  go_enter Tryd.func33, Tryd.ntmps33
  go_wp2_with (go_at_call 32; refine (C.out _).mono ?_; rintro e w2 ⟨rfl, rfl⟩)
  go_ret
  exact ⟨rfl, rfl⟩

/-! ### the key -/
def keyS (b : Nat) : Int := if 9218868437227405312 < PL.rung b then 9223372036854775807 else if b < 9223372036854775808 then b else -1 - (PL.rung b : Int)

theorem wrap64_u (b : Nat) (hb : b < 18446744073709551616) : wrap64 (b : Int) = if b < 9223372036854775808 then (b : Int) else (b : Int) - 18446744073709551616 := by
  unfold wrap64; split <;> omega

theorem and_key (b : Nat) (hb : b < 18446744073709551616) : bits .and .i64 ((b : Int) - 18446744073709551616) 9223372036854775807 = ((PL.rung b : Nat) : Int) := by
  show IntKind.i64.wrap ((BitVec.ofInt 64 ((b : Int) - 18446744073709551616) &&& BitVec.ofInt 64 9223372036854775807).toNat : Int) = _
  have e1 : (BitVec.ofInt 64 ((b : Int) - 18446744073709551616)).toNat = b := by
    rw [BitVec.toNat_ofInt]; omega
  have e2 : (BitVec.ofInt 64 9223372036854775807).toNat = 9223372036854775807 := by decide
  rw [BitVec.toNat_and, e1, e2, show b &&& 9223372036854775807 = b % 9223372036854775808 from Nat.and_two_pow_sub_one_eq_mod b 63, IntKind.wrap_i64]
  unfold PL.rung
  omega

theorem key_any (b : Nat) (hb : b < 18446744073709551616) (w : World) :
    Calls Tryd.prog 36 #[.float .f64 b] w fun e w' => e = .returned (.int .i64 (keyS b)) ∧ w' = w := by
  have cb := call_bits
  have hn := neq_self b hb
  have hrl := PL.rung_lt b
  by_cases h1 : 9218868437227405312 < PL.rung b
  · have e1 : keyS b = 9223372036854775807 := if_pos h1
    rw [show nanB b = true from decide_eq_true h1] at hn
    rw [e1]
    clear e1 h1 hrl
    go_enter Tryd.func36, Tryd.ntmps36
    go_wp2_with fail
    go_ret
    exact ⟨rfl, rfl⟩
  rw [show nanB b = false from decide_eq_false h1] at hn
  by_cases h2 : b < 9223372036854775808
  · have e1 : keyS b = b := by unfold keyS; rw [if_neg h1, if_pos h2]
    rw [e1]
    clear e1 h1 hrl
    go_enter Tryd.func36, Tryd.ntmps36
    go_wp2_with fail
    go_ret
    exact ⟨rfl, rfl⟩
  · have e1 : keyS b = -1 - (PL.rung b : Int) := by unfold keyS; rw [if_neg h1, if_neg h2]
    have hw := wrap64_u b hb
    rw [if_neg h2] at hw
    have ha := and_key b hb
    rw [e1]
    clear e1 h1
    generalize PL.rung b = r at *
    go_enter Tryd.func36, Tryd.ntmps36
    go_wp2_with fail
    go_ret
    exact ⟨rfl, rfl⟩

theorem keyof_any (b : Nat) (hb : b < 18446744073709551616) (w : World) :
    Calls Tryd.prog 37 #[.float .f64 b] w fun e w' => e = .returned (.int .i64 (keyS b)) ∧ w' = w := by
  have cb := call_bits
  have hn := neq_self b hb
  have hrl := PL.rung_lt b
  have C := Lib.hid (fun w => signbit_any b hb w)
  by_cases h1 : 9218868437227405312 < PL.rung b
  · have e1 : keyS b = 9223372036854775807 := if_pos h1
    rw [show nanB b = true from decide_eq_true h1] at hn
    rw [e1]
    clear e1 h1 hrl C
    go_enter Tryd.func37, Tryd.ntmps37
    go_wp2_with fail
    go_ret
    exact ⟨rfl, rfl⟩
  rw [show nanB b = false from decide_eq_false h1] at hn
  by_cases h2 : b < 9223372036854775808
  · have e1 : keyS b = b := by unfold keyS; rw [if_neg h1, if_pos h2]
    rw [show sgn b = false from decide_eq_false (by omega)] at C
    rw [e1]
    clear e1 h1 hrl
    go_enter Tryd.func37, Tryd.ntmps37
    go_wp2_with (go_at_call 16; refine (C.out _).mono ?_; rintro e w2 ⟨rfl, rfl⟩)
    go_ret
    exact ⟨rfl, rfl⟩
  · have e1 : keyS b = -1 - (PL.rung b : Int) := by unfold keyS; rw [if_neg h1, if_neg h2]
    have q1 := run_neg b hb
    rw [show flip b = PL.rung b by unfold flip; rw [if_neg h2]; have := sval_cases b hb; omega] at q1
    rw [show sgn b = true from decide_eq_true (by omega)] at C
    rw [e1]
    clear e1 h1
    generalize PL.rung b = r at *
    go_enter Tryd.func37, Tryd.ntmps37
    go_wp2_with (go_at_call 16; refine (C.out _).mono ?_; rintro e w2 ⟨rfl, rfl⟩)
    go_ret
    exact ⟨rfl, rfl⟩

/-! ### the neighbours, as math.Nextafter has them -/
def downS (b : Nat) : Nat := if b = 18442240474082181120 then b else if PL.rung b = 0 then 9223372036854775809 else if b < 9223372036854775808 then b - 1 else b + 1

theorem nanc (b : Nat) (h : b = 9218868437227405312 ∨ b = 18442240474082181120) : nanB b = false := by
  refine decide_eq_false ?_
  unfold PL.rung
  omega

theorem nextafter_nan (b c : Nat) (hb : b < 18446744073709551616) (h : 9218868437227405312 < PL.rung b) (w : World) :
    Calls Tryd.prog 29 #[.float .f64 b, .float .f64 c] w fun e w' => e = .returned (.float .f64 9221120237041090561) ∧ w' = w := by
  have C1 := Lib.hid (fun w => isnan_any b hb w)
  rw [show nanB b = true from decide_eq_true h] at C1
  clear h
  go_enter Tryd.func29, Tryd.ntmps29
  go_wp2_with (first | (go_at_call 60; refine (C1.out _).mono ?_; rintro e w2 ⟨rfl, rfl⟩) | (go_at_call 73; refine (nan_any _).mono ?_; rintro e w2 ⟨rfl, rfl⟩))
  go_ret
  exact ⟨rfl, rfl⟩

theorem nextafter_up (b c : Nat) (hb : b < 18446744073709551616) (hc : c = 9218868437227405312) (h : ¬ 9218868437227405312 < PL.rung b) (w : World) :
    Calls Tryd.prog 29 #[.float .f64 b, .float .f64 c] w fun e w' => e = .returned (.float .f64 (nextS b)) ∧ w' = w := by
  have cb := call_bits
  have cf := call_float
  have C1 := Lib.hid (fun w => isnan_any b hb w)
  have C1' := Lib.hid (fun w => isnan_any c (by omega) w)
  have C2 := Lib.hid (fun w => copysign_any 1 c (by omega) (by omega) w)
  rw [show nanB b = false from decide_eq_false h] at C1
  rw [nanc c (.inl hc)] at C1'
  rw [show sgn c = false from decide_eq_false (by omega), show PL.rung 1 = 1 from rung_small 1 (by omega)] at C2
  simp only [Bool.false_eq_true, if_false, Nat.zero_add] at C2
  have he := eq_small b c hb (by omega) (by omega) h
  have z := eq_zero b hb
  have hg := gt_zero b hb h
  have hgc := ord_gt c b (by omega) hb (notNaN_small c (by omega)) h
  rw [sval_small c (by omega)] at hgc
  have hsv := sval_cases b hb
  by_cases h2 : b = c
  · have e1 : nextS b = b := by unfold nextS; rw [if_pos (.inr (by omega))]
    rw [e1]
    rw [decide_eq_true h2] at he
    clear z hg hgc e1 hsv h2 hc h
    go_enter Tryd.func29, Tryd.ntmps29
    go_wp2_with fail
    refine (C1.out _).mono ?_
    rintro e w2 ⟨rfl, rfl⟩
    go_wp2_with fail
    refine (C1'.out _).mono ?_
    rintro e w2 ⟨rfl, rfl⟩
    go_wp2_with fail
    go_ret
    exact ⟨rfl, rfl⟩
  rw [decide_eq_false h2] at he
  rw [decide_eq_true (by omega)] at hgc
  by_cases h3 : PL.rung b = 0
  · have e1 : nextS b = 1 := by unfold nextS; rw [if_neg (by omega), if_pos h3]
    rw [e1]
    rw [decide_eq_true h3] at z
    clear hg hgc e1 hsv h2 hc h h3
    go_enter Tryd.func29, Tryd.ntmps29
    go_wp2_with fail
    refine (C1.out _).mono ?_
    rintro e w2 ⟨rfl, rfl⟩
    go_wp2_with fail
    refine (C1'.out _).mono ?_
    rintro e w2 ⟨rfl, rfl⟩
    go_wp2_with (go_at_call 31; refine (C2.out _).mono ?_; rintro e w2 ⟨rfl, rfl⟩)
    go_ret
    exact ⟨rfl, rfl⟩
  rw [decide_eq_false h3] at z
  by_cases h4 : b < 9223372036854775808
  · have e1 : nextS b = b + 1 := by unfold nextS; rw [if_neg (by omega), if_neg h3, if_pos h4]
    rw [e1]
    rw [decide_eq_true (by omega)] at hg
    have e3 : ((b : Int) + 1).toNat = b + 1 := by omega
    clear e1 hsv h2 hc h h3
    go_enter Tryd.func29, Tryd.ntmps29
    go_wp2_with fail
    refine (C1.out _).mono ?_
    rintro e w2 ⟨rfl, rfl⟩
    go_wp2_with fail
    refine (C1'.out _).mono ?_
    rintro e w2 ⟨rfl, rfl⟩
    go_wp2_with fail
    go_ret
    exact ⟨rfl, rfl⟩
  · have e1 : nextS b = b - 1 := by unfold nextS; rw [if_neg (by omega), if_neg h3, if_neg h4]
    rw [e1]
    rw [decide_eq_false (by omega)] at hg
    have e3 : ((b : Int) - 1).toNat = b - 1 := by omega
    clear e1 hsv h2 hc h h3
    go_enter Tryd.func29, Tryd.ntmps29
    go_wp2_with fail
    refine (C1.out _).mono ?_
    rintro e w2 ⟨rfl, rfl⟩
    go_wp2_with fail
    refine (C1'.out _).mono ?_
    rintro e w2 ⟨rfl, rfl⟩
    go_wp2_with fail
    go_ret
    exact ⟨rfl, rfl⟩

theorem nextafter_down (b c : Nat) (hb : b < 18446744073709551616) (hc : c = 18442240474082181120) (h : ¬ 9218868437227405312 < PL.rung b) (w : World) :
    Calls Tryd.prog 29 #[.float .f64 b, .float .f64 c] w fun e w' => e = .returned (.float .f64 (downS b)) ∧ w' = w := by
  have cb := call_bits
  have cf := call_float
  have hcn : ¬ PL.isNaN c := by unfold PL.isNaN PL.rung; omega
  have C1 := Lib.hid (fun w => isnan_any b hb w)
  have C1' := Lib.hid (fun w => isnan_any c (by omega) w)
  have C2 := Lib.hid (fun w => copysign_any 1 c (by omega) (by omega) w)
  rw [show nanB b = false from decide_eq_false h] at C1
  rw [nanc c (.inr hc)] at C1'
  rw [show sgn c = true from decide_eq_true (by omega), show PL.rung 1 = 1 from rung_small 1 (by omega)] at C2
  simp only [if_true] at C2
  have he := ord_eq b c hb (by omega) h hcn
  have z := eq_zero b hb
  have hg := gt_zero b hb h
  have hgc := ord_gt c b (by omega) hb hcn h
  have hsc := sval_cases c (by omega)
  have hsv := sval_cases b hb
  by_cases h2 : b = c
  · have e1 : downS b = b := by unfold downS; rw [if_pos (by omega)]
    rw [e1]
    rw [decide_eq_true (by rw [h2])] at he
    clear z hg hgc e1 hsv h2 hc h hsc hcn
    go_enter Tryd.func29, Tryd.ntmps29
    go_wp2_with fail
    refine (C1.out _).mono ?_
    rintro e w2 ⟨rfl, rfl⟩
    go_wp2_with fail
    refine (C1'.out _).mono ?_
    rintro e w2 ⟨rfl, rfl⟩
    go_wp2_with fail
    go_ret
    exact ⟨rfl, rfl⟩
  rw [decide_eq_false (by omega)] at he
  rw [decide_eq_false (by omega)] at hgc
  by_cases h3 : PL.rung b = 0
  · have e1 : downS b = 9223372036854775809 := by unfold downS; rw [if_neg (by omega), if_pos h3]
    rw [e1]
    rw [decide_eq_true h3] at z
    clear hg hgc e1 hsv h2 hc h h3 hsc hcn
    go_enter Tryd.func29, Tryd.ntmps29
    go_wp2_with fail
    refine (C1.out _).mono ?_
    rintro e w2 ⟨rfl, rfl⟩
    go_wp2_with fail
    refine (C1'.out _).mono ?_
    rintro e w2 ⟨rfl, rfl⟩
    go_wp2_with (go_at_call 31; refine (C2.out _).mono ?_; rintro e w2 ⟨rfl, rfl⟩)
    go_ret
    exact ⟨rfl, rfl⟩
  rw [decide_eq_false h3] at z
  by_cases h4 : b < 9223372036854775808
  · have e1 : downS b = b - 1 := by unfold downS; rw [if_neg (by omega), if_neg h3, if_pos h4]
    rw [e1]
    rw [decide_eq_true (by omega)] at hg
    have e3 : ((b : Int) - 1).toNat = b - 1 := by omega
    have e4 : 1 ≤ b := by omega
    clear e1 hsv h2 hc h h3 hsc hcn
    go_enter Tryd.func29, Tryd.ntmps29
    go_wp2_with fail
    refine (C1.out _).mono ?_
    rintro e w2 ⟨rfl, rfl⟩
    go_wp2_with fail
    refine (C1'.out _).mono ?_
    rintro e w2 ⟨rfl, rfl⟩
    go_wp2_with fail
    go_ret
    exact ⟨rfl, rfl⟩
  · have e1 : downS b = b + 1 := by unfold downS; rw [if_neg (by omega), if_neg h3, if_neg h4]
    rw [e1]
    rw [decide_eq_false (by omega)] at hg
    have e3 : ((b : Int) + 1).toNat = b + 1 := by omega
    have e4 : b + 1 < 18446744073709551616 := by omega
    clear e1 hsv h2 hc h h3 hsc hcn
    go_enter Tryd.func29, Tryd.ntmps29
    go_wp2_with fail
    refine (C1.out _).mono ?_
    rintro e w2 ⟨rfl, rfl⟩
    go_wp2_with fail
    refine (C1'.out _).mono ?_
    rintro e w2 ⟨rfl, rfl⟩
    go_wp2_with fail
    go_ret
    exact ⟨rfl, rfl⟩
end Go.Proofs.YtjjfkidddjcdcaaDoor
