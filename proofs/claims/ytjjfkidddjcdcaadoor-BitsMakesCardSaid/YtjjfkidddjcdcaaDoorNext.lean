/- Proved here: contracts of the program's Next, of math.Inf, of the comparison Bits, and the closed fact 'made', at this program. Conditions: words of 64 bits; for 'made' the listed variables hold what is laid. -/
import Derived.Test.YtjjfkidddjcdcaaDoorWhole2
namespace Go.Proofs.YtjjfkidddjcdcaaDoor
open Go.ChangeShapes Go.WideShapes Go.ChangeAt Go.RowKit
open Go.Proofs (TabAt)

theorem ord_eq (b c : Nat) (hb : b < 18446744073709551616) (hc : c < 18446744073709551616) (nb : ¬ PL.isNaN b) (nc : ¬ PL.isNaN c) : (FloatKind.f64.format.order b c == some .eq) = decide (PL.sval b = PL.sval c) := by
  rw [f64_fmt, PL.order_eq b c hb hc nb nc]
  by_cases h : PL.sval b = PL.sval c
  · rw [Int.compare_eq_eq.2 h, decide_eq_true h]; rfl
  · rw [decide_eq_false h]
    have : ¬ compare (PL.sval b) (PL.sval c) = .eq := by rw [Int.compare_eq_eq]; exact h
    simpa using this
theorem ord_lt (b c : Nat) (hb : b < 18446744073709551616) (hc : c < 18446744073709551616) (nb : ¬ PL.isNaN b) (nc : ¬ PL.isNaN c) : (FloatKind.f64.format.order b c == some .lt) = decide (PL.sval b < PL.sval c) := by
  rw [f64_fmt, PL.order_eq b c hb hc nb nc]
  by_cases h : PL.sval b < PL.sval c
  · rw [Int.compare_eq_lt.2 h, decide_eq_true h]; rfl
  · rw [decide_eq_false h]
    have : ¬ compare (PL.sval b) (PL.sval c) = .lt := by rw [Int.compare_eq_lt]; exact h
    simpa using this
theorem ord_gt (b c : Nat) (hb : b < 18446744073709551616) (hc : c < 18446744073709551616) (nb : ¬ PL.isNaN b) (nc : ¬ PL.isNaN c) : (FloatKind.f64.format.order b c == some .gt) = decide (PL.sval c < PL.sval b) := by
  rw [f64_fmt, PL.order_eq b c hb hc nb nc]
  by_cases h : PL.sval c < PL.sval b
  · rw [Int.compare_eq_gt.2 h, decide_eq_true h]; rfl
  · rw [decide_eq_false h]
    have : ¬ compare (PL.sval b) (PL.sval c) = .gt := by rw [Int.compare_eq_gt]; exact h
    simpa using this

theorem sval_cases (b : Nat) (_hb : b < 18446744073709551616) : (b < 9223372036854775808 ∧ PL.sval b = b ∧ PL.rung b = b) ∨ (9223372036854775808 ≤ b ∧ PL.sval b = -((b - 9223372036854775808 : Nat) : Int) ∧ PL.rung b = b - 9223372036854775808) := by
  unfold PL.sval PL.rung
  split <;> omega

theorem eq_small (b c : Nat) (hb : b < 18446744073709551616) (hc0 : 0 < c) (hc : c ≤ 9218868437227405312) (nb : ¬ PL.isNaN b) : (FloatKind.f64.format.order b c == some .eq) = decide (b = c) := by
  rw [ord_eq b c hb (by omega) nb (notNaN_small c hc), sval_small c (by omega)]
  rcases sval_cases b hb with ⟨h1, h2, h3⟩ | ⟨h1, h2, h3⟩
  · rw [h2, decide_eq_decide]; omega
  · rw [h2, decide_eq_decide]; omega

theorem gt_zero (b : Nat) (hb : b < 18446744073709551616) (nb : ¬ PL.isNaN b) : (FloatKind.f64.format.order b 0 == some .gt) = decide (0 < b ∧ b < 9223372036854775808) := by
  rw [ord_gt b 0 hb (by omega) nb (notNaN_small 0 (by omega)), sval_small 0 (by omega)]
  rcases sval_cases b hb with ⟨h1, h2, h3⟩ | ⟨h1, h2, h3⟩
  · rw [h2, decide_eq_decide]; omega
  · rw [h2, decide_eq_decide]; omega

theorem inf_pos (w : World) : Calls Tryd.prog 30 #[.int .i64 1] w fun e w' => e = .returned (.float .f64 9218868437227405312) ∧ w' = w := by
  have cf := call_float
  go_enter Tryd.func30, Tryd.ntmps30
  go_wp2_with fail
  go_ret
  exact ⟨rfl, rfl⟩

theorem inf_neg (w : World) : Calls Tryd.prog 30 #[.int .i64 (-1)] w fun e w' => e = .returned (.float .f64 18442240474082181120) ∧ w' = w := by
  have cf := call_float
  go_enter Tryd.func30, Tryd.ntmps30
  go_wp2_with fail
  go_ret
  exact ⟨rfl, rfl⟩

/-- The program's Next, on words. -/
def nextS (b : Nat) : Nat := if 9218868437227405312 < PL.rung b ∨ b = 9218868437227405312 then b else if PL.rung b = 0 then 1 else if b < 9223372036854775808 then b + 1 else b - 1

theorem next_any (b : Nat) (hb : b < 18446744073709551616) (w : World) :
    Calls Tryd.prog 32 #[.float .f64 b] w fun e w' => e = .returned (.float .f64 (nextS b)) ∧ w' = w := by
  have cb := call_bits
  have cf := call_float
  have hn := neq_self b hb
  have z := eq_zero b hb
  have hrl := PL.rung_lt b
  by_cases h1 : PL.isNaN b
  · have e1 : nextS b = b := by unfold nextS; unfold PL.isNaN at h1; rw [if_pos (.inl h1)]
    have e2 : nanB b = true := decide_eq_true h1
    rw [e1]
    rw [e2] at hn
    clear z h1 e1 e2 hrl
    go_enter Tryd.func32, Tryd.ntmps32
    go_wp2_with (go_at_call 30; refine (inf_pos _).mono ?_; rintro e w' ⟨rfl, rfl⟩)
    go_ret
    exact ⟨rfl, rfl⟩
  have e2 : nanB b = false := decide_eq_false h1
  rw [e2] at hn
  have hi := eq_small b 9218868437227405312 hb (by omega) (by omega) h1
  have hg := gt_zero b hb h1
  have hnn : ¬ 9218868437227405312 < PL.rung b := h1
  clear e2 h1
  by_cases h2 : b = 9218868437227405312
  · have e1 : nextS b = b := by unfold nextS; rw [if_pos (.inr h2)]
    rw [e1]
    rw [decide_eq_true h2] at hi
    clear z h2 e1 hg hrl hnn
    go_enter Tryd.func32, Tryd.ntmps32
    go_wp2_with (go_at_call 30; refine (inf_pos _).mono ?_; rintro e w' ⟨rfl, rfl⟩)
    go_ret
    exact ⟨rfl, rfl⟩
  rw [decide_eq_false h2] at hi
  by_cases h3 : PL.rung b = 0
  · have e1 : nextS b = 1 := by unfold nextS; rw [if_neg (by omega), if_pos h3]
    rw [e1]
    rw [decide_eq_true h3] at z
    clear h2 e1 hg h3 hrl hnn
    go_enter Tryd.func32, Tryd.ntmps32
    go_wp2_with (go_at_call 30; refine (inf_pos _).mono ?_; rintro e w' ⟨rfl, rfl⟩)
    go_ret
    exact ⟨rfl, rfl⟩
  rw [decide_eq_false h3] at z
  have hsc := sval_cases b hb
  by_cases h4 : b < 9223372036854775808
  · have e1 : nextS b = b + 1 := by unfold nextS; rw [if_neg (by omega), if_neg h3, if_pos h4]
    rw [e1]
    rw [decide_eq_true (by omega)] at hg
    have e3 : ((b : Int) + 1).toNat = b + 1 := by omega
    clear h2 e1 h3 hrl hnn hsc
    go_enter Tryd.func32, Tryd.ntmps32
    go_wp2_with (go_at_call 30; refine (inf_pos _).mono ?_; rintro e w' ⟨rfl, rfl⟩)
    go_ret
    exact ⟨rfl, rfl⟩
  · have e1 : nextS b = b - 1 := by unfold nextS; rw [if_neg (by omega), if_neg h3, if_neg h4]
    rw [e1]
    rw [decide_eq_false (by omega)] at hg
    have e3 : ((b : Int) - 1).toNat = b - 1 := by omega
    clear h2 e1 h3 hrl hnn hsc
    go_enter Tryd.func32, Tryd.ntmps32
    go_wp2_with (go_at_call 30; refine (inf_pos _).mono ?_; rintro e w' ⟨rfl, rfl⟩)
    go_ret
    exact ⟨rfl, rfl⟩

theorem bits_same (a : Nat) (w : World) :
    Calls Tryd.prog 22 #[.float .f64 a, .float .f64 a] w fun e w' => e = .returned (.bool true) ∧ w' = w := by
  have cb := call_bits
  have h : ((a : Int) == a) = true := by simp
  go_enter Tryd.func22, Tryd.ntmps22
  go_wp2_with fail
  go_ret
  exact ⟨rfl, rfl⟩

theorem bits_nan (a c : Nat) (ha : a < 18446744073709551616) (hc : c < 18446744073709551616) (na : PL.isNaN a) (nc : PL.isNaN c) (w : World) :
    Calls Tryd.prog 22 #[.float .f64 a, .float .f64 c] w fun e w' => e = .returned (.bool true) ∧ w' = w := by
  by_cases hac : a = c
  · subst hac; exact bits_same a w
  have cb := call_bits
  have h : ((a : Int) == c) = false := by simp; omega
  have h1 := neq_self a ha
  have h2 := neq_self c hc
  rw [show nanB a = true from decide_eq_true na] at h1
  rw [show nanB c = true from decide_eq_true nc] at h2
  clear na nc hac
  go_enter Tryd.func22, Tryd.ntmps22
  go_wp2_with fail
  go_ret
  exact ⟨rfl, rfl⟩
end Go.Proofs.YtjjfkidddjcdcaaDoor
