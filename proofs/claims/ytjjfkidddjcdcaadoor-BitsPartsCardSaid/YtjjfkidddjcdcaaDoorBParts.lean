/- Proved here: the walk of enclosurelaw.BitsParts at this program. Conditions: words of 64 bits; the listed variables hold what is laid. -/
import Derived.Test.YtjjfkidddjcdcaaDoorLaid
namespace Go.Proofs.YtjjfkidddjcdcaaDoor
open Go.ChangeShapes Go.WideShapes Go.ChangeAt Go.RowKit
open Go.Proofs (TabAt)

theorem signed_mant (s : Bool) (r : Nat) : Ieee.signed s (PL.mant r) (PL.place r - min (PL.place r) (-1074)).toNat = PL.sgned s (PL.unit r) := by
  have : (PL.place r - min (PL.place r) (-1074)).toNat = r / 4503599627370496 - 1 := by unfold PL.place; omega
  rw [this, PL.signed_unit]

theorem add_zero (b : Nat) (hb : b < 18446744073709551616) (h : PL.rung b < 9218868437227405312) : floatBits .add .f64 b 0 = some (if PL.rung b = 0 then 0 else b) := by
  have h0 : PL.rung 0 = 0 := rung_small 0 (by omega)
  have hm : min (PL.place (PL.rung b)) (-1074) = -1074 := by unfold PL.place; omega
  show Ieee.double.add b 0 = _
  unfold Ieee.Format.add
  rw [PL.read_fin b hb h, PL.read_fin 0 (by omega) (by omega), h0]
  have e1 : PL.mant 0 = 0 := PL.mant_small 0 (by omega)
  have e2 : PL.place 0 = -1074 := PL.place_small 0 (by omega)
  have e3 : PL.isNeg 0 = false := decide_eq_false (by omega)
  have e4 : ∀ u, Ieee.signed false 0 u = 0 := fun u => by unfold Ieee.signed; simp
  rw [e1, e2, e3]
  unfold Ieee.Datum.sum
  simp only [e4, Int.add_zero, Option.map_some, Bool.and_false]
  rw [signed_mant, hm]
  congr 1
  have hz := PL.unit_zero
  have hu : 0 < PL.rung b → 0 < PL.unit (PL.rung b) := fun h => by have := PL.unit_lt 0 (PL.rung b) h; omega
  show Ieee.double.nearest _ _ _ = _
  rw [PL.nearest_sign]
  by_cases h1 : PL.rung b = 0
  · rw [if_pos h1, h1, hz]
    have : PL.sgned (PL.isNeg b) 0 = 0 := by unfold PL.sgned; split <;> rfl
    rw [this]
    simp only [Int.natAbs_zero, PL.rung_zero, if_true, Bool.false_eq_true, if_false]
  · rw [if_neg h1]
    have hu' := hu (by omega)
    have e5 : (PL.sgned (PL.isNeg b) (PL.unit (PL.rung b))).natAbs = PL.unit (PL.rung b) := by unfold PL.sgned; split <;> omega
    have e6 : ¬ PL.sgned (PL.isNeg b) (PL.unit (PL.rung b)) = 0 := by unfold PL.sgned; split <;> omega
    have e7 : decide (PL.sgned (PL.isNeg b) (PL.unit (PL.rung b)) < 0) = PL.isNeg b := by
      unfold PL.sgned; cases PL.isNeg b <;> simp <;> omega
    have e8 : PL.rungOf Ieee.double (PL.unit (PL.rung b)) (-1074) = PL.rung b := by
      refine PL.rung_of_value (PL.rung b) h _ (PL.rung b / 4503599627370496 - 1) _ ?_ ?_
      · unfold PL.unit; rw [Nat.shiftLeft_eq]
      · unfold PL.place; omega
    rw [e5, if_neg e6, e7, e8]
    rcases sval_cases b hb with ⟨a1, a2, a3⟩ | ⟨a1, a2, a3⟩
    · rw [show PL.isNeg b = false from decide_eq_false (by omega)]; simp only [Bool.false_eq_true, if_false]; omega
    · rw [show PL.isNeg b = true from decide_eq_true a1]; simp only [if_true]; omega

theorem word_back (b : Nat) (hb : b < 18446744073709551616) : wordOf (sgn b) (expo b) (frac b) = b := by
  unfold wordOf sgn expo frac
  by_cases h : 9223372036854775808 ≤ b
  · rw [decide_eq_true h]; simp only [if_true]; omega
  · rw [decide_eq_false h]; simp only [Bool.false_eq_true, if_false]; omega

theorem join_back (b : Nat) (hb : b < 18446744073709551616) (w : World) :
    Calls Tryd.prog 18 #[.bool (sgn b), .int .i64 (expo b), .int .u64 (frac b)] w fun e w' => e = .returned (.tuple #[.float .f64 b, .int .i64 0]) ∧ w' = w := by
  obtain ⟨r1, r2, r3⟩ := rung_parts b hb
  have h := join_ok (sgn b) (expo b) (frac b) w r3 (by omega)
  rw [word_back b hb] at h
  exact h

theorem split_word (neg : Bool) (x f : Nat) (hx : x ≤ 2047) (hf : f ≤ 4503599627370495) (w : World) :
    Calls Tryd.prog 13 #[.float .f64 (wordOf neg x f)] w fun e w' => e = .returned (.tuple #[.bool neg, .int .i64 x, .int .u64 f]) ∧ w' = w := by
  have h := split_any (wordOf neg x f) (wordOf_lt neg x f hx (by omega)) w
  have e1 := sgn_wordOf neg x f hx (by omega)
  have e2 : expo (wordOf neg x f) = x := by unfold expo wordOf; cases neg <;> simp <;> omega
  have e3 : frac (wordOf neg x f) = f := by unfold frac wordOf; cases neg <;> simp <;> omega
  rw [e1, e2, e3] at h
  exact h

theorem zero_neq : (FloatKind.f64.format.order 0 0 != some .eq) = false := by decide +kernel

theorem make_nought (w : World) (g0 : w.cell? ⟨1, 0, none⟩ = some (.int .i64 11)) (g1 : w.cell? ⟨1, 1, none⟩ = some (.int .i64 52)) (hsz : 1 < w.heap.size) :
    Calls Tryd.prog 23 #[.int .i64 0, .int .i64 0] w fun e' w' => e' = .returned (.float .f64 0) ∧ Below w.heap.size w w' := by
  have h := make_any 0 0 (by omega) (by omega) w g0 g1 hsz
  rw [show decide ((0 : Int) < 0) = false by decide, show (0 : Int).natAbs = 0 by decide, show makeW false 0 0 = 0 by decide +kernel] at h
  exact h

set_option maxRecDepth 100000 in
set_option maxHeartbeats 2000000 in
theorem parts_unfin_bad (b : Nat) (neg : Bool) (exp : Int) (fr : Nat) (hb : b < 18446744073709551616) (hx : expo b = 2047) (h : exp < 0 ∨ 2047 < exp ∨ 4503599627370495 < fr)
    (w : World) (hG : Glob w) (hT : TabAt 2 Go.Lib.deBruijn64tab w) (_hz : 2 < w.heap.size) :
    Calls Tryd.prog 4 #[.float .f64 b, .bool neg, .int .i64 exp, .int .u64 fr] w fun e w' => e = .returned (.bool true) ∧ Below w.heap.size w w' := by
  obtain ⟨r1, r2, r3⟩ := rung_parts b hb
  have cb := call_bits
  have a1 : bits .and .u64 ((b : Int) / 4503599627370496) 2047 = ((expo b : Nat) : Int) := and_2047 (b / 4503599627370496) (by omega)
  have a2 : bits .and .u64 (b : Int) 4503599627370495 = ((frac b : Nat) : Int) := and_frac b hb
  have zn := zero_neq
  have C12 := Lib.hid (made_any w hG.g0 hG.g1 hG.sz hT)
  have C13 := Lib.hid (fun w => split_any b hb w)
  have C14 := Lib.hid (fun w => kind_any b hb w)
  have C15 := Lib.hid (fun w => kindof_any b hb w)
  have C16 := Lib.hid (fun w => signbit_any b hb w)
  have C18 := Lib.hid (fun w => join_back b hb w)
  have C20 := Lib.hid (fun w => finite_any b hb w)
  have C18' := Lib.hid (fun w => join_bad neg exp fr w h)
  have C19 := Lib.hid (fun w => whole_unfin b hb hx w)
  have hfin : (!nanB b && !infB b) = false := by
    unfold nanB infB
    by_cases q : 9218868437227405312 < PL.rung b
    · rw [decide_eq_true q]; rfl
    · rw [decide_eq_false q, decide_eq_true (by omega)]; rfl
  rw [hfin] at C20
  have k1 : (kindS b != kindS b) = false := by simp
  have k2 : (sgn b != sgn b) = false := by simp
  have k3 : ((expo b : Int) != expo b) = false := by simp
  have k4 : ((frac b : Int) != frac b) = false := by simp
  have k5 : ((b : Int) != b) = false := by simp
  have HT := Lib.hid hT
  have HG := Lib.hid hG
  clear hfin r1 hT hG hx
  generalize kindS b = kk at *
  generalize sgn b = s at *
  generalize expo b = x at *
  generalize frac b = f at *
  by_cases h1 : exp < 0
  · clear h
    go_enter Tryd.func4, Tryd.ntmps4
    go_wp2_with (first | (go_at_call 12; refine C12.out.mono ?_; rintro e w1 ⟨rfl, hb1⟩) | (go_at_call 13; refine (C13.out _).mono ?_; rintro e w2 ⟨rfl, rfl⟩) | (go_at_call 14; refine (C14.out _).mono ?_; rintro e w2 ⟨rfl, rfl⟩) | (go_at_call 15; refine (C15.out _).mono ?_; rintro e w2 ⟨rfl, rfl⟩) | (go_at_call 16; refine (C16.out _).mono ?_; rintro e w2 ⟨rfl, rfl⟩) | (go_at_call 20; refine (C20.out _).mono ?_; rintro e w2 ⟨rfl, rfl⟩) | (go_at_call 19; refine (C19.out _).mono ?_; rintro e w2 ⟨rfl, rfl⟩))
    refine (C18.out _).mono ?_
    rintro e w2 ⟨rfl, rfl⟩
    go_wp2_with (first | (go_at_call 12; refine C12.out.mono ?_; rintro e w1 ⟨rfl, hb1⟩) | (go_at_call 13; refine (C13.out _).mono ?_; rintro e w2 ⟨rfl, rfl⟩) | (go_at_call 14; refine (C14.out _).mono ?_; rintro e w2 ⟨rfl, rfl⟩) | (go_at_call 15; refine (C15.out _).mono ?_; rintro e w2 ⟨rfl, rfl⟩) | (go_at_call 16; refine (C16.out _).mono ?_; rintro e w2 ⟨rfl, rfl⟩) | (go_at_call 20; refine (C20.out _).mono ?_; rintro e w2 ⟨rfl, rfl⟩) | (go_at_call 19; refine (C19.out _).mono ?_; rintro e w2 ⟨rfl, rfl⟩))
    refine (C18'.out _).mono ?_
    rintro e w2 ⟨rfl, rfl⟩
    go_wp2_with (first | (go_at_call 12; refine C12.out.mono ?_; rintro e w1 ⟨rfl, hb1⟩) | (go_at_call 13; refine (C13.out _).mono ?_; rintro e w2 ⟨rfl, rfl⟩) | (go_at_call 14; refine (C14.out _).mono ?_; rintro e w2 ⟨rfl, rfl⟩) | (go_at_call 15; refine (C15.out _).mono ?_; rintro e w2 ⟨rfl, rfl⟩) | (go_at_call 16; refine (C16.out _).mono ?_; rintro e w2 ⟨rfl, rfl⟩) | (go_at_call 20; refine (C20.out _).mono ?_; rintro e w2 ⟨rfl, rfl⟩) | (go_at_call 19; refine (C19.out _).mono ?_; rintro e w2 ⟨rfl, rfl⟩))
    all_goals first | (exfalso; omega) | skip
    all_goals (go_ret; exact ⟨rfl, hb1⟩)
  by_cases h2 : 2047 < exp
  · clear h
    go_enter Tryd.func4, Tryd.ntmps4
    go_wp2_with (first | (go_at_call 12; refine C12.out.mono ?_; rintro e w1 ⟨rfl, hb1⟩) | (go_at_call 13; refine (C13.out _).mono ?_; rintro e w2 ⟨rfl, rfl⟩) | (go_at_call 14; refine (C14.out _).mono ?_; rintro e w2 ⟨rfl, rfl⟩) | (go_at_call 15; refine (C15.out _).mono ?_; rintro e w2 ⟨rfl, rfl⟩) | (go_at_call 16; refine (C16.out _).mono ?_; rintro e w2 ⟨rfl, rfl⟩) | (go_at_call 20; refine (C20.out _).mono ?_; rintro e w2 ⟨rfl, rfl⟩) | (go_at_call 19; refine (C19.out _).mono ?_; rintro e w2 ⟨rfl, rfl⟩))
    refine (C18.out _).mono ?_
    rintro e w2 ⟨rfl, rfl⟩
    go_wp2_with (first | (go_at_call 12; refine C12.out.mono ?_; rintro e w1 ⟨rfl, hb1⟩) | (go_at_call 13; refine (C13.out _).mono ?_; rintro e w2 ⟨rfl, rfl⟩) | (go_at_call 14; refine (C14.out _).mono ?_; rintro e w2 ⟨rfl, rfl⟩) | (go_at_call 15; refine (C15.out _).mono ?_; rintro e w2 ⟨rfl, rfl⟩) | (go_at_call 16; refine (C16.out _).mono ?_; rintro e w2 ⟨rfl, rfl⟩) | (go_at_call 20; refine (C20.out _).mono ?_; rintro e w2 ⟨rfl, rfl⟩) | (go_at_call 19; refine (C19.out _).mono ?_; rintro e w2 ⟨rfl, rfl⟩))
    refine (C18'.out _).mono ?_
    rintro e w2 ⟨rfl, rfl⟩
    go_wp2_with (first | (go_at_call 12; refine C12.out.mono ?_; rintro e w1 ⟨rfl, hb1⟩) | (go_at_call 13; refine (C13.out _).mono ?_; rintro e w2 ⟨rfl, rfl⟩) | (go_at_call 14; refine (C14.out _).mono ?_; rintro e w2 ⟨rfl, rfl⟩) | (go_at_call 15; refine (C15.out _).mono ?_; rintro e w2 ⟨rfl, rfl⟩) | (go_at_call 16; refine (C16.out _).mono ?_; rintro e w2 ⟨rfl, rfl⟩) | (go_at_call 20; refine (C20.out _).mono ?_; rintro e w2 ⟨rfl, rfl⟩) | (go_at_call 19; refine (C19.out _).mono ?_; rintro e w2 ⟨rfl, rfl⟩))
    all_goals first | (exfalso; omega) | skip
    all_goals (go_ret; exact ⟨rfl, hb1⟩)
  have h3 : 4503599627370495 < fr := by omega
  clear h
  go_enter Tryd.func4, Tryd.ntmps4
  go_wp2_with (first | (go_at_call 12; refine C12.out.mono ?_; rintro e w1 ⟨rfl, hb1⟩) | (go_at_call 13; refine (C13.out _).mono ?_; rintro e w2 ⟨rfl, rfl⟩) | (go_at_call 14; refine (C14.out _).mono ?_; rintro e w2 ⟨rfl, rfl⟩) | (go_at_call 15; refine (C15.out _).mono ?_; rintro e w2 ⟨rfl, rfl⟩) | (go_at_call 16; refine (C16.out _).mono ?_; rintro e w2 ⟨rfl, rfl⟩) | (go_at_call 20; refine (C20.out _).mono ?_; rintro e w2 ⟨rfl, rfl⟩) | (go_at_call 19; refine (C19.out _).mono ?_; rintro e w2 ⟨rfl, rfl⟩))
  refine (C18.out _).mono ?_
  rintro e w2 ⟨rfl, rfl⟩
  go_wp2_with (first | (go_at_call 12; refine C12.out.mono ?_; rintro e w1 ⟨rfl, hb1⟩) | (go_at_call 13; refine (C13.out _).mono ?_; rintro e w2 ⟨rfl, rfl⟩) | (go_at_call 14; refine (C14.out _).mono ?_; rintro e w2 ⟨rfl, rfl⟩) | (go_at_call 15; refine (C15.out _).mono ?_; rintro e w2 ⟨rfl, rfl⟩) | (go_at_call 16; refine (C16.out _).mono ?_; rintro e w2 ⟨rfl, rfl⟩) | (go_at_call 20; refine (C20.out _).mono ?_; rintro e w2 ⟨rfl, rfl⟩) | (go_at_call 19; refine (C19.out _).mono ?_; rintro e w2 ⟨rfl, rfl⟩))
  refine (C18'.out _).mono ?_
  rintro e w2 ⟨rfl, rfl⟩
  go_wp2_with (first | (go_at_call 12; refine C12.out.mono ?_; rintro e w1 ⟨rfl, hb1⟩) | (go_at_call 13; refine (C13.out _).mono ?_; rintro e w2 ⟨rfl, rfl⟩) | (go_at_call 14; refine (C14.out _).mono ?_; rintro e w2 ⟨rfl, rfl⟩) | (go_at_call 15; refine (C15.out _).mono ?_; rintro e w2 ⟨rfl, rfl⟩) | (go_at_call 16; refine (C16.out _).mono ?_; rintro e w2 ⟨rfl, rfl⟩) | (go_at_call 20; refine (C20.out _).mono ?_; rintro e w2 ⟨rfl, rfl⟩) | (go_at_call 19; refine (C19.out _).mono ?_; rintro e w2 ⟨rfl, rfl⟩))
  all_goals first | (exfalso; omega) | skip
  all_goals (go_ret; exact ⟨rfl, hb1⟩)

set_option maxRecDepth 100000 in
set_option maxHeartbeats 2000000 in
theorem parts_unfin_ok (b : Nat) (neg : Bool) (xx fr : Nat) (hb : b < 18446744073709551616) (hx : expo b = 2047) (hxx : xx ≤ 2047) (hff : fr ≤ 4503599627370495)
    (w : World) (hG : Glob w) (hT : TabAt 2 Go.Lib.deBruijn64tab w) (_hz : 2 < w.heap.size) :
    Calls Tryd.prog 4 #[.float .f64 b, .bool neg, .int .i64 xx, .int .u64 fr] w fun e w' => e = .returned (.bool true) ∧ Below w.heap.size w w' := by
  obtain ⟨r1, r2, r3⟩ := rung_parts b hb
  have cb := call_bits
  have a1 : bits .and .u64 ((b : Int) / 4503599627370496) 2047 = ((expo b : Nat) : Int) := and_2047 (b / 4503599627370496) (by omega)
  have a2 : bits .and .u64 (b : Int) 4503599627370495 = ((frac b : Nat) : Int) := and_frac b hb
  have zn := zero_neq
  have C12 := Lib.hid (made_any w hG.g0 hG.g1 hG.sz hT)
  have C13 := Lib.hid (fun w => split_any b hb w)
  have C14 := Lib.hid (fun w => kind_any b hb w)
  have C15 := Lib.hid (fun w => kindof_any b hb w)
  have C16 := Lib.hid (fun w => signbit_any b hb w)
  have C18 := Lib.hid (fun w => join_back b hb w)
  have C20 := Lib.hid (fun w => finite_any b hb w)
  have C18' := Lib.hid (fun w => join_ok neg xx fr w hxx hff)
  have C13' := Lib.hid (fun w => split_word neg xx fr hxx hff w)
  have kn : (neg != neg) = false := by simp
  have C19 := Lib.hid (fun w => whole_unfin b hb hx w)
  have hfin : (!nanB b && !infB b) = false := by
    unfold nanB infB
    by_cases q : 9218868437227405312 < PL.rung b
    · rw [decide_eq_true q]; rfl
    · rw [decide_eq_false q, decide_eq_true (by omega)]; rfl
  rw [hfin] at C20
  have k1 : (kindS b != kindS b) = false := by simp
  have k2 : (sgn b != sgn b) = false := by simp
  have k3 : ((expo b : Int) != expo b) = false := by simp
  have k4 : ((frac b : Int) != frac b) = false := by simp
  have k5 : ((b : Int) != b) = false := by simp
  have k6 : ((xx : Int) != xx) = false := by simp
  have k7 : ((fr : Int) != fr) = false := by simp
  have HT := Lib.hid hT
  have HG := Lib.hid hG
  clear hfin r1 hT hG hx
  generalize kindS b = kk at *
  generalize sgn b = s at *
  generalize expo b = x at *
  generalize frac b = f at *
  go_enter Tryd.func4, Tryd.ntmps4
  go_wp2_with (first | (go_at_call 12; refine C12.out.mono ?_; rintro e w1 ⟨rfl, hb1⟩) | (go_at_call 13; refine (C13.out _).mono ?_; rintro e w2 ⟨rfl, rfl⟩) | (go_at_call 14; refine (C14.out _).mono ?_; rintro e w2 ⟨rfl, rfl⟩) | (go_at_call 15; refine (C15.out _).mono ?_; rintro e w2 ⟨rfl, rfl⟩) | (go_at_call 16; refine (C16.out _).mono ?_; rintro e w2 ⟨rfl, rfl⟩) | (go_at_call 20; refine (C20.out _).mono ?_; rintro e w2 ⟨rfl, rfl⟩) | (go_at_call 19; refine (C19.out _).mono ?_; rintro e w2 ⟨rfl, rfl⟩))
  refine (C18.out _).mono ?_
  rintro e w2 ⟨rfl, rfl⟩
  go_wp2_with (first | (go_at_call 12; refine C12.out.mono ?_; rintro e w1 ⟨rfl, hb1⟩) | (go_at_call 13; refine (C13.out _).mono ?_; rintro e w2 ⟨rfl, rfl⟩) | (go_at_call 14; refine (C14.out _).mono ?_; rintro e w2 ⟨rfl, rfl⟩) | (go_at_call 15; refine (C15.out _).mono ?_; rintro e w2 ⟨rfl, rfl⟩) | (go_at_call 16; refine (C16.out _).mono ?_; rintro e w2 ⟨rfl, rfl⟩) | (go_at_call 20; refine (C20.out _).mono ?_; rintro e w2 ⟨rfl, rfl⟩) | (go_at_call 19; refine (C19.out _).mono ?_; rintro e w2 ⟨rfl, rfl⟩))
  refine (C18'.out _).mono ?_
  rintro e w2 ⟨rfl, rfl⟩
  clear C13
  have C13 := C13'
  go_wp2_with (first | (go_at_call 12; refine C12.out.mono ?_; rintro e w1 ⟨rfl, hb1⟩) | (go_at_call 13; refine (C13.out _).mono ?_; rintro e w2 ⟨rfl, rfl⟩) | (go_at_call 14; refine (C14.out _).mono ?_; rintro e w2 ⟨rfl, rfl⟩) | (go_at_call 15; refine (C15.out _).mono ?_; rintro e w2 ⟨rfl, rfl⟩) | (go_at_call 16; refine (C16.out _).mono ?_; rintro e w2 ⟨rfl, rfl⟩) | (go_at_call 20; refine (C20.out _).mono ?_; rintro e w2 ⟨rfl, rfl⟩) | (go_at_call 19; refine (C19.out _).mono ?_; rintro e w2 ⟨rfl, rfl⟩))
  all_goals first | (exfalso; omega) | skip
  all_goals (go_ret; exact ⟨rfl, hb1⟩)

set_option maxRecDepth 100000 in
set_option maxHeartbeats 2000000 in
theorem parts_zero_bad (b : Nat) (neg : Bool) (exp : Int) (fr : Nat) (hb : b < 18446744073709551616) (hx : PL.rung b = 0) (h : exp < 0 ∨ 2047 < exp ∨ 4503599627370495 < fr)
    (w : World) (hG : Glob w) (hT : TabAt 2 Go.Lib.deBruijn64tab w) (_hz : 2 < w.heap.size) :
    Calls Tryd.prog 4 #[.float .f64 b, .bool neg, .int .i64 exp, .int .u64 fr] w fun e w' => e = .returned (.bool true) ∧ Below w.heap.size w w' := by
  obtain ⟨r1, r2, r3⟩ := rung_parts b hb
  have cb := call_bits
  have a1 : bits .and .u64 ((b : Int) / 4503599627370496) 2047 = ((expo b : Nat) : Int) := and_2047 (b / 4503599627370496) (by omega)
  have a2 : bits .and .u64 (b : Int) 4503599627370495 = ((frac b : Nat) : Int) := and_frac b hb
  have zn := zero_neq
  have C12 := Lib.hid (made_any w hG.g0 hG.g1 hG.sz hT)
  have C13 := Lib.hid (fun w => split_any b hb w)
  have C14 := Lib.hid (fun w => kind_any b hb w)
  have C15 := Lib.hid (fun w => kindof_any b hb w)
  have C16 := Lib.hid (fun w => signbit_any b hb w)
  have C18 := Lib.hid (fun w => join_back b hb w)
  have C20 := Lib.hid (fun w => finite_any b hb w)
  have C18' := Lib.hid (fun w => join_bad neg exp fr w h)
  have hfin : (!nanB b && !infB b) = true := by
    unfold nanB infB
    rw [decide_eq_false (by omega), decide_eq_false (by omega)]; rfl
  have hadd : ∀ w, (binOp .add 33 (.float .f64 b) (.float .f64 0)).run Tryd.prog w = .ok (.float .f64 0) w := fun w => run_float_arith w .add 33 .f64 _ _ _ (by rw [add_zero b hb (by omega), if_pos hx])
  have C19 := Lib.hid (fun w => whole_zero b hb (by omega) (by omega) w)
  have C21 := Lib.hid (fun w => odd_zero b hb hx w)
  have C23 := Lib.hid (fun w (hG : Glob w) => make_nought w hG.g0 hG.g1 hG.sz)
  have C22 := Lib.hid (fun w => bits_same 0 w)
  rw [hfin] at C20
  have k1 : (kindS b != kindS b) = false := by simp
  have k2 : (sgn b != sgn b) = false := by simp
  have k3 : ((expo b : Int) != expo b) = false := by simp
  have k4 : ((frac b : Int) != frac b) = false := by simp
  have k5 : ((b : Int) != b) = false := by simp
  have HT := Lib.hid hT
  have HG := Lib.hid hG
  clear hfin r1 hT hG hx
  generalize kindS b = kk at *
  generalize sgn b = s at *
  generalize expo b = x at *
  generalize frac b = f at *
  by_cases h1 : exp < 0
  · clear h
    go_enter Tryd.func4, Tryd.ntmps4
    go_wp2_with (first | (go_at_call 12; refine C12.out.mono ?_; rintro e w1 ⟨rfl, hb1⟩) | (go_at_call 13; refine (C13.out _).mono ?_; rintro e w2 ⟨rfl, rfl⟩) | (go_at_call 14; refine (C14.out _).mono ?_; rintro e w2 ⟨rfl, rfl⟩) | (go_at_call 15; refine (C15.out _).mono ?_; rintro e w2 ⟨rfl, rfl⟩) | (go_at_call 16; refine (C16.out _).mono ?_; rintro e w2 ⟨rfl, rfl⟩) | (go_at_call 20; refine (C20.out _).mono ?_; rintro e w2 ⟨rfl, rfl⟩) | (go_at_call 19; refine (C19.out _).mono ?_; rintro e w2 ⟨rfl, rfl⟩) | (go_at_call 21; refine (C21.out _).mono ?_; rintro e w2 ⟨rfl, rfl⟩) | (go_at_call 22; refine (C22.out _).mono ?_; rintro e w2 ⟨rfl, rfl⟩) | (go_at_call 23; refine (C23.out _ (HG.out.below hb1)).mono ?_; rintro e w3 ⟨rfl, hb2⟩))
    refine (C18.out _).mono ?_
    rintro e w2 ⟨rfl, rfl⟩
    go_wp2_with (first | (go_at_call 12; refine C12.out.mono ?_; rintro e w1 ⟨rfl, hb1⟩) | (go_at_call 13; refine (C13.out _).mono ?_; rintro e w2 ⟨rfl, rfl⟩) | (go_at_call 14; refine (C14.out _).mono ?_; rintro e w2 ⟨rfl, rfl⟩) | (go_at_call 15; refine (C15.out _).mono ?_; rintro e w2 ⟨rfl, rfl⟩) | (go_at_call 16; refine (C16.out _).mono ?_; rintro e w2 ⟨rfl, rfl⟩) | (go_at_call 20; refine (C20.out _).mono ?_; rintro e w2 ⟨rfl, rfl⟩) | (go_at_call 19; refine (C19.out _).mono ?_; rintro e w2 ⟨rfl, rfl⟩) | (go_at_call 21; refine (C21.out _).mono ?_; rintro e w2 ⟨rfl, rfl⟩) | (go_at_call 22; refine (C22.out _).mono ?_; rintro e w2 ⟨rfl, rfl⟩) | (go_at_call 23; refine (C23.out _ (HG.out.below hb1)).mono ?_; rintro e w3 ⟨rfl, hb2⟩))
    refine (C18'.out _).mono ?_
    rintro e w2 ⟨rfl, rfl⟩
    go_wp2_with (first | (go_at_call 12; refine C12.out.mono ?_; rintro e w1 ⟨rfl, hb1⟩) | (go_at_call 13; refine (C13.out _).mono ?_; rintro e w2 ⟨rfl, rfl⟩) | (go_at_call 14; refine (C14.out _).mono ?_; rintro e w2 ⟨rfl, rfl⟩) | (go_at_call 15; refine (C15.out _).mono ?_; rintro e w2 ⟨rfl, rfl⟩) | (go_at_call 16; refine (C16.out _).mono ?_; rintro e w2 ⟨rfl, rfl⟩) | (go_at_call 20; refine (C20.out _).mono ?_; rintro e w2 ⟨rfl, rfl⟩) | (go_at_call 19; refine (C19.out _).mono ?_; rintro e w2 ⟨rfl, rfl⟩) | (go_at_call 21; refine (C21.out _).mono ?_; rintro e w2 ⟨rfl, rfl⟩) | (go_at_call 22; refine (C22.out _).mono ?_; rintro e w2 ⟨rfl, rfl⟩) | (go_at_call 23; refine (C23.out _ (HG.out.below hb1)).mono ?_; rintro e w3 ⟨rfl, hb2⟩))
    all_goals first | (exfalso; omega) | skip
    all_goals (go_ret; exact ⟨rfl, hb1.trans (hb2.mono hb1.size)⟩)
  by_cases h2 : 2047 < exp
  · clear h
    go_enter Tryd.func4, Tryd.ntmps4
    go_wp2_with (first | (go_at_call 12; refine C12.out.mono ?_; rintro e w1 ⟨rfl, hb1⟩) | (go_at_call 13; refine (C13.out _).mono ?_; rintro e w2 ⟨rfl, rfl⟩) | (go_at_call 14; refine (C14.out _).mono ?_; rintro e w2 ⟨rfl, rfl⟩) | (go_at_call 15; refine (C15.out _).mono ?_; rintro e w2 ⟨rfl, rfl⟩) | (go_at_call 16; refine (C16.out _).mono ?_; rintro e w2 ⟨rfl, rfl⟩) | (go_at_call 20; refine (C20.out _).mono ?_; rintro e w2 ⟨rfl, rfl⟩) | (go_at_call 19; refine (C19.out _).mono ?_; rintro e w2 ⟨rfl, rfl⟩) | (go_at_call 21; refine (C21.out _).mono ?_; rintro e w2 ⟨rfl, rfl⟩) | (go_at_call 22; refine (C22.out _).mono ?_; rintro e w2 ⟨rfl, rfl⟩) | (go_at_call 23; refine (C23.out _ (HG.out.below hb1)).mono ?_; rintro e w3 ⟨rfl, hb2⟩))
    refine (C18.out _).mono ?_
    rintro e w2 ⟨rfl, rfl⟩
    go_wp2_with (first | (go_at_call 12; refine C12.out.mono ?_; rintro e w1 ⟨rfl, hb1⟩) | (go_at_call 13; refine (C13.out _).mono ?_; rintro e w2 ⟨rfl, rfl⟩) | (go_at_call 14; refine (C14.out _).mono ?_; rintro e w2 ⟨rfl, rfl⟩) | (go_at_call 15; refine (C15.out _).mono ?_; rintro e w2 ⟨rfl, rfl⟩) | (go_at_call 16; refine (C16.out _).mono ?_; rintro e w2 ⟨rfl, rfl⟩) | (go_at_call 20; refine (C20.out _).mono ?_; rintro e w2 ⟨rfl, rfl⟩) | (go_at_call 19; refine (C19.out _).mono ?_; rintro e w2 ⟨rfl, rfl⟩) | (go_at_call 21; refine (C21.out _).mono ?_; rintro e w2 ⟨rfl, rfl⟩) | (go_at_call 22; refine (C22.out _).mono ?_; rintro e w2 ⟨rfl, rfl⟩) | (go_at_call 23; refine (C23.out _ (HG.out.below hb1)).mono ?_; rintro e w3 ⟨rfl, hb2⟩))
    refine (C18'.out _).mono ?_
    rintro e w2 ⟨rfl, rfl⟩
    go_wp2_with (first | (go_at_call 12; refine C12.out.mono ?_; rintro e w1 ⟨rfl, hb1⟩) | (go_at_call 13; refine (C13.out _).mono ?_; rintro e w2 ⟨rfl, rfl⟩) | (go_at_call 14; refine (C14.out _).mono ?_; rintro e w2 ⟨rfl, rfl⟩) | (go_at_call 15; refine (C15.out _).mono ?_; rintro e w2 ⟨rfl, rfl⟩) | (go_at_call 16; refine (C16.out _).mono ?_; rintro e w2 ⟨rfl, rfl⟩) | (go_at_call 20; refine (C20.out _).mono ?_; rintro e w2 ⟨rfl, rfl⟩) | (go_at_call 19; refine (C19.out _).mono ?_; rintro e w2 ⟨rfl, rfl⟩) | (go_at_call 21; refine (C21.out _).mono ?_; rintro e w2 ⟨rfl, rfl⟩) | (go_at_call 22; refine (C22.out _).mono ?_; rintro e w2 ⟨rfl, rfl⟩) | (go_at_call 23; refine (C23.out _ (HG.out.below hb1)).mono ?_; rintro e w3 ⟨rfl, hb2⟩))
    all_goals first | (exfalso; omega) | skip
    all_goals (go_ret; exact ⟨rfl, hb1.trans (hb2.mono hb1.size)⟩)
  have h3 : 4503599627370495 < fr := by omega
  clear h
  go_enter Tryd.func4, Tryd.ntmps4
  go_wp2_with (first | (go_at_call 12; refine C12.out.mono ?_; rintro e w1 ⟨rfl, hb1⟩) | (go_at_call 13; refine (C13.out _).mono ?_; rintro e w2 ⟨rfl, rfl⟩) | (go_at_call 14; refine (C14.out _).mono ?_; rintro e w2 ⟨rfl, rfl⟩) | (go_at_call 15; refine (C15.out _).mono ?_; rintro e w2 ⟨rfl, rfl⟩) | (go_at_call 16; refine (C16.out _).mono ?_; rintro e w2 ⟨rfl, rfl⟩) | (go_at_call 20; refine (C20.out _).mono ?_; rintro e w2 ⟨rfl, rfl⟩) | (go_at_call 19; refine (C19.out _).mono ?_; rintro e w2 ⟨rfl, rfl⟩) | (go_at_call 21; refine (C21.out _).mono ?_; rintro e w2 ⟨rfl, rfl⟩) | (go_at_call 22; refine (C22.out _).mono ?_; rintro e w2 ⟨rfl, rfl⟩) | (go_at_call 23; refine (C23.out _ (HG.out.below hb1)).mono ?_; rintro e w3 ⟨rfl, hb2⟩))
  refine (C18.out _).mono ?_
  rintro e w2 ⟨rfl, rfl⟩
  go_wp2_with (first | (go_at_call 12; refine C12.out.mono ?_; rintro e w1 ⟨rfl, hb1⟩) | (go_at_call 13; refine (C13.out _).mono ?_; rintro e w2 ⟨rfl, rfl⟩) | (go_at_call 14; refine (C14.out _).mono ?_; rintro e w2 ⟨rfl, rfl⟩) | (go_at_call 15; refine (C15.out _).mono ?_; rintro e w2 ⟨rfl, rfl⟩) | (go_at_call 16; refine (C16.out _).mono ?_; rintro e w2 ⟨rfl, rfl⟩) | (go_at_call 20; refine (C20.out _).mono ?_; rintro e w2 ⟨rfl, rfl⟩) | (go_at_call 19; refine (C19.out _).mono ?_; rintro e w2 ⟨rfl, rfl⟩) | (go_at_call 21; refine (C21.out _).mono ?_; rintro e w2 ⟨rfl, rfl⟩) | (go_at_call 22; refine (C22.out _).mono ?_; rintro e w2 ⟨rfl, rfl⟩) | (go_at_call 23; refine (C23.out _ (HG.out.below hb1)).mono ?_; rintro e w3 ⟨rfl, hb2⟩))
  refine (C18'.out _).mono ?_
  rintro e w2 ⟨rfl, rfl⟩
  go_wp2_with (first | (go_at_call 12; refine C12.out.mono ?_; rintro e w1 ⟨rfl, hb1⟩) | (go_at_call 13; refine (C13.out _).mono ?_; rintro e w2 ⟨rfl, rfl⟩) | (go_at_call 14; refine (C14.out _).mono ?_; rintro e w2 ⟨rfl, rfl⟩) | (go_at_call 15; refine (C15.out _).mono ?_; rintro e w2 ⟨rfl, rfl⟩) | (go_at_call 16; refine (C16.out _).mono ?_; rintro e w2 ⟨rfl, rfl⟩) | (go_at_call 20; refine (C20.out _).mono ?_; rintro e w2 ⟨rfl, rfl⟩) | (go_at_call 19; refine (C19.out _).mono ?_; rintro e w2 ⟨rfl, rfl⟩) | (go_at_call 21; refine (C21.out _).mono ?_; rintro e w2 ⟨rfl, rfl⟩) | (go_at_call 22; refine (C22.out _).mono ?_; rintro e w2 ⟨rfl, rfl⟩) | (go_at_call 23; refine (C23.out _ (HG.out.below hb1)).mono ?_; rintro e w3 ⟨rfl, hb2⟩))
  all_goals first | (exfalso; omega) | skip
  all_goals (go_ret; exact ⟨rfl, hb1.trans (hb2.mono hb1.size)⟩)

set_option maxRecDepth 100000 in
set_option maxHeartbeats 2000000 in
theorem parts_zero_ok (b : Nat) (neg : Bool) (xx fr : Nat) (hb : b < 18446744073709551616) (hx : PL.rung b = 0) (hxx : xx ≤ 2047) (hff : fr ≤ 4503599627370495)
    (w : World) (hG : Glob w) (hT : TabAt 2 Go.Lib.deBruijn64tab w) (_hz : 2 < w.heap.size) :
    Calls Tryd.prog 4 #[.float .f64 b, .bool neg, .int .i64 xx, .int .u64 fr] w fun e w' => e = .returned (.bool true) ∧ Below w.heap.size w w' := by
  obtain ⟨r1, r2, r3⟩ := rung_parts b hb
  have cb := call_bits
  have a1 : bits .and .u64 ((b : Int) / 4503599627370496) 2047 = ((expo b : Nat) : Int) := and_2047 (b / 4503599627370496) (by omega)
  have a2 : bits .and .u64 (b : Int) 4503599627370495 = ((frac b : Nat) : Int) := and_frac b hb
  have zn := zero_neq
  have C12 := Lib.hid (made_any w hG.g0 hG.g1 hG.sz hT)
  have C13 := Lib.hid (fun w => split_any b hb w)
  have C14 := Lib.hid (fun w => kind_any b hb w)
  have C15 := Lib.hid (fun w => kindof_any b hb w)
  have C16 := Lib.hid (fun w => signbit_any b hb w)
  have C18 := Lib.hid (fun w => join_back b hb w)
  have C20 := Lib.hid (fun w => finite_any b hb w)
  have C18' := Lib.hid (fun w => join_ok neg xx fr w hxx hff)
  have C13' := Lib.hid (fun w => split_word neg xx fr hxx hff w)
  have kn : (neg != neg) = false := by simp
  have hfin : (!nanB b && !infB b) = true := by
    unfold nanB infB
    rw [decide_eq_false (by omega), decide_eq_false (by omega)]; rfl
  have hadd : ∀ w, (binOp .add 33 (.float .f64 b) (.float .f64 0)).run Tryd.prog w = .ok (.float .f64 0) w := fun w => run_float_arith w .add 33 .f64 _ _ _ (by rw [add_zero b hb (by omega), if_pos hx])
  have C19 := Lib.hid (fun w => whole_zero b hb (by omega) (by omega) w)
  have C21 := Lib.hid (fun w => odd_zero b hb hx w)
  have C23 := Lib.hid (fun w (hG : Glob w) => make_nought w hG.g0 hG.g1 hG.sz)
  have C22 := Lib.hid (fun w => bits_same 0 w)
  rw [hfin] at C20
  have k1 : (kindS b != kindS b) = false := by simp
  have k2 : (sgn b != sgn b) = false := by simp
  have k3 : ((expo b : Int) != expo b) = false := by simp
  have k4 : ((frac b : Int) != frac b) = false := by simp
  have k5 : ((b : Int) != b) = false := by simp
  have k6 : ((xx : Int) != xx) = false := by simp
  have k7 : ((fr : Int) != fr) = false := by simp
  have HT := Lib.hid hT
  have HG := Lib.hid hG
  clear hfin r1 hT hG hx
  generalize kindS b = kk at *
  generalize sgn b = s at *
  generalize expo b = x at *
  generalize frac b = f at *
  go_enter Tryd.func4, Tryd.ntmps4
  go_wp2_with (first | (go_at_call 12; refine C12.out.mono ?_; rintro e w1 ⟨rfl, hb1⟩) | (go_at_call 13; refine (C13.out _).mono ?_; rintro e w2 ⟨rfl, rfl⟩) | (go_at_call 14; refine (C14.out _).mono ?_; rintro e w2 ⟨rfl, rfl⟩) | (go_at_call 15; refine (C15.out _).mono ?_; rintro e w2 ⟨rfl, rfl⟩) | (go_at_call 16; refine (C16.out _).mono ?_; rintro e w2 ⟨rfl, rfl⟩) | (go_at_call 20; refine (C20.out _).mono ?_; rintro e w2 ⟨rfl, rfl⟩) | (go_at_call 19; refine (C19.out _).mono ?_; rintro e w2 ⟨rfl, rfl⟩) | (go_at_call 21; refine (C21.out _).mono ?_; rintro e w2 ⟨rfl, rfl⟩) | (go_at_call 22; refine (C22.out _).mono ?_; rintro e w2 ⟨rfl, rfl⟩) | (go_at_call 23; refine (C23.out _ (HG.out.below hb1)).mono ?_; rintro e w3 ⟨rfl, hb2⟩))
  refine (C18.out _).mono ?_
  rintro e w2 ⟨rfl, rfl⟩
  go_wp2_with (first | (go_at_call 12; refine C12.out.mono ?_; rintro e w1 ⟨rfl, hb1⟩) | (go_at_call 13; refine (C13.out _).mono ?_; rintro e w2 ⟨rfl, rfl⟩) | (go_at_call 14; refine (C14.out _).mono ?_; rintro e w2 ⟨rfl, rfl⟩) | (go_at_call 15; refine (C15.out _).mono ?_; rintro e w2 ⟨rfl, rfl⟩) | (go_at_call 16; refine (C16.out _).mono ?_; rintro e w2 ⟨rfl, rfl⟩) | (go_at_call 20; refine (C20.out _).mono ?_; rintro e w2 ⟨rfl, rfl⟩) | (go_at_call 19; refine (C19.out _).mono ?_; rintro e w2 ⟨rfl, rfl⟩) | (go_at_call 21; refine (C21.out _).mono ?_; rintro e w2 ⟨rfl, rfl⟩) | (go_at_call 22; refine (C22.out _).mono ?_; rintro e w2 ⟨rfl, rfl⟩) | (go_at_call 23; refine (C23.out _ (HG.out.below hb1)).mono ?_; rintro e w3 ⟨rfl, hb2⟩))
  refine (C18'.out _).mono ?_
  rintro e w2 ⟨rfl, rfl⟩
  clear C13
  have C13 := C13'
  go_wp2_with (first | (go_at_call 12; refine C12.out.mono ?_; rintro e w1 ⟨rfl, hb1⟩) | (go_at_call 13; refine (C13.out _).mono ?_; rintro e w2 ⟨rfl, rfl⟩) | (go_at_call 14; refine (C14.out _).mono ?_; rintro e w2 ⟨rfl, rfl⟩) | (go_at_call 15; refine (C15.out _).mono ?_; rintro e w2 ⟨rfl, rfl⟩) | (go_at_call 16; refine (C16.out _).mono ?_; rintro e w2 ⟨rfl, rfl⟩) | (go_at_call 20; refine (C20.out _).mono ?_; rintro e w2 ⟨rfl, rfl⟩) | (go_at_call 19; refine (C19.out _).mono ?_; rintro e w2 ⟨rfl, rfl⟩) | (go_at_call 21; refine (C21.out _).mono ?_; rintro e w2 ⟨rfl, rfl⟩) | (go_at_call 22; refine (C22.out _).mono ?_; rintro e w2 ⟨rfl, rfl⟩) | (go_at_call 23; refine (C23.out _ (HG.out.below hb1)).mono ?_; rintro e w3 ⟨rfl, hb2⟩))
  all_goals first | (exfalso; omega) | skip
  all_goals (go_ret; exact ⟨rfl, hb1.trans (hb2.mono hb1.size)⟩)

set_option maxRecDepth 100000 in
set_option maxHeartbeats 2000000 in
theorem parts_fin_bad (b : Nat) (neg : Bool) (exp : Int) (fr : Nat) (hb : b < 18446744073709551616) (h0 : 0 < PL.rung b) (hx : PL.rung b < 9218868437227405312) (h : exp < 0 ∨ 2047 < exp ∨ 4503599627370495 < fr)
    (w : World) (hG : Glob w) (hT : TabAt 2 Go.Lib.deBruijn64tab w) (hz : 2 < w.heap.size) :
    Calls Tryd.prog 4 #[.float .f64 b, .bool neg, .int .i64 exp, .int .u64 fr] w fun e w' => e = .returned (.bool true) ∧ Below w.heap.size w w' := by
  obtain ⟨r1, r2, r3⟩ := rung_parts b hb
  have cb := call_bits
  have a1 : bits .and .u64 ((b : Int) / 4503599627370496) 2047 = ((expo b : Nat) : Int) := and_2047 (b / 4503599627370496) (by omega)
  have a2 : bits .and .u64 (b : Int) 4503599627370495 = ((frac b : Nat) : Int) := and_frac b hb
  have zn := zero_neq
  have C12 := Lib.hid (made_any w hG.g0 hG.g1 hG.sz hT)
  have C13 := Lib.hid (fun w => split_any b hb w)
  have C14 := Lib.hid (fun w => kind_any b hb w)
  have C15 := Lib.hid (fun w => kindof_any b hb w)
  have C16 := Lib.hid (fun w => signbit_any b hb w)
  have C18 := Lib.hid (fun w => join_back b hb w)
  have C20 := Lib.hid (fun w => finite_any b hb w)
  have C18' := Lib.hid (fun w => join_bad neg exp fr w h)
  have hfin : (!nanB b && !infB b) = true := by
    unfold nanB infB
    rw [decide_eq_false (by omega), decide_eq_false (by omega)]; rfl
  have hadd : ∀ w, (binOp .add 33 (.float .f64 b) (.float .f64 0)).run Tryd.prog w = .ok (.float .f64 b) w := fun w => run_float_arith w .add 33 .f64 _ _ _ (by rw [add_zero b hb hx, if_neg (by omega)])
  obtain ⟨n, q, q1, q2, q3, q4, q5, q6⟩ := whole_odd b hb h0 hx
  have hmk := make_back b n q hb h0 hx q1 q4 q2
  have C19 := Lib.hid q5
  have C21 := Lib.hid q6
  have C22 := Lib.hid (fun w => bits_same b w)
  have hm1 : -9007199254740992 ≤ (if sgn b then -(q : Int) else q) ∧ (if sgn b then -(q : Int) else q) ≤ 9007199254740992 := by cases sgn b <;> simp <;> omega
  clear q1 q5 q6
  generalize (if sgn b then -(q : Int) else q) = m at *
  generalize PL.place (PL.rung b) + n = kk2 at *
  obtain ⟨m1, m2⟩ := hm1
  have C23 := Lib.hid (fun w (hG : Glob w) => make_any m kk2 (by omega) (by omega) w hG.g0 hG.g1 hG.sz)
  rw [hmk] at C23
  have km : (m == m) = true := by simp
  have kk3 : (kk2 == kk2) = true := by simp
  clear hmk
  rw [hfin] at C20
  have k1 : (kindS b != kindS b) = false := by simp
  have k2 : (sgn b != sgn b) = false := by simp
  have k3 : ((expo b : Int) != expo b) = false := by simp
  have k4 : ((frac b : Int) != frac b) = false := by simp
  have k5 : ((b : Int) != b) = false := by simp
  have HT := Lib.hid hT
  have HG := Lib.hid hG
  clear hfin r1 hT hG hx h0
  generalize kindS b = kk at *
  generalize sgn b = s at *
  generalize expo b = x at *
  generalize frac b = f at *
  by_cases h1 : exp < 0
  · clear h
    go_enter Tryd.func4, Tryd.ntmps4
    go_wp2_with (first | (go_at_call 12; refine C12.out.mono ?_; rintro e w1 ⟨rfl, hb1⟩) | (go_at_call 13; refine (C13.out _).mono ?_; rintro e w2 ⟨rfl, rfl⟩) | (go_at_call 14; refine (C14.out _).mono ?_; rintro e w2 ⟨rfl, rfl⟩) | (go_at_call 15; refine (C15.out _).mono ?_; rintro e w2 ⟨rfl, rfl⟩) | (go_at_call 16; refine (C16.out _).mono ?_; rintro e w2 ⟨rfl, rfl⟩) | (go_at_call 20; refine (C20.out _).mono ?_; rintro e w2 ⟨rfl, rfl⟩) | (go_at_call 21; refine (C21.out _).mono ?_; rintro e w2 ⟨rfl, rfl⟩) | (go_at_call 22; refine (C22.out _).mono ?_; rintro e w2 ⟨rfl, rfl⟩) | (go_at_call 19; refine (C19.out _ (tab_below HT.out hz hb1)).mono ?_; rintro e w2 ⟨rfl, rfl⟩) | (go_at_call 23; refine (C23.out _ (HG.out.below hb1)).mono ?_; rintro e w3 ⟨rfl, hb2⟩))
    refine (C18.out _).mono ?_
    rintro e w2 ⟨rfl, rfl⟩
    go_wp2_with (first | (go_at_call 12; refine C12.out.mono ?_; rintro e w1 ⟨rfl, hb1⟩) | (go_at_call 13; refine (C13.out _).mono ?_; rintro e w2 ⟨rfl, rfl⟩) | (go_at_call 14; refine (C14.out _).mono ?_; rintro e w2 ⟨rfl, rfl⟩) | (go_at_call 15; refine (C15.out _).mono ?_; rintro e w2 ⟨rfl, rfl⟩) | (go_at_call 16; refine (C16.out _).mono ?_; rintro e w2 ⟨rfl, rfl⟩) | (go_at_call 20; refine (C20.out _).mono ?_; rintro e w2 ⟨rfl, rfl⟩) | (go_at_call 21; refine (C21.out _).mono ?_; rintro e w2 ⟨rfl, rfl⟩) | (go_at_call 22; refine (C22.out _).mono ?_; rintro e w2 ⟨rfl, rfl⟩) | (go_at_call 19; refine (C19.out _ (tab_below HT.out hz hb1)).mono ?_; rintro e w2 ⟨rfl, rfl⟩) | (go_at_call 23; refine (C23.out _ (HG.out.below hb1)).mono ?_; rintro e w3 ⟨rfl, hb2⟩))
    refine (C18'.out _).mono ?_
    rintro e w2 ⟨rfl, rfl⟩
    go_wp2_with (first | (go_at_call 12; refine C12.out.mono ?_; rintro e w1 ⟨rfl, hb1⟩) | (go_at_call 13; refine (C13.out _).mono ?_; rintro e w2 ⟨rfl, rfl⟩) | (go_at_call 14; refine (C14.out _).mono ?_; rintro e w2 ⟨rfl, rfl⟩) | (go_at_call 15; refine (C15.out _).mono ?_; rintro e w2 ⟨rfl, rfl⟩) | (go_at_call 16; refine (C16.out _).mono ?_; rintro e w2 ⟨rfl, rfl⟩) | (go_at_call 20; refine (C20.out _).mono ?_; rintro e w2 ⟨rfl, rfl⟩) | (go_at_call 21; refine (C21.out _).mono ?_; rintro e w2 ⟨rfl, rfl⟩) | (go_at_call 22; refine (C22.out _).mono ?_; rintro e w2 ⟨rfl, rfl⟩) | (go_at_call 19; refine (C19.out _ (tab_below HT.out hz hb1)).mono ?_; rintro e w2 ⟨rfl, rfl⟩) | (go_at_call 23; refine (C23.out _ (HG.out.below hb1)).mono ?_; rintro e w3 ⟨rfl, hb2⟩))
    all_goals first | (exfalso; omega) | skip
    all_goals (go_ret; exact ⟨rfl, hb1.trans (hb2.mono hb1.size)⟩)
  by_cases h2 : 2047 < exp
  · clear h
    go_enter Tryd.func4, Tryd.ntmps4
    go_wp2_with (first | (go_at_call 12; refine C12.out.mono ?_; rintro e w1 ⟨rfl, hb1⟩) | (go_at_call 13; refine (C13.out _).mono ?_; rintro e w2 ⟨rfl, rfl⟩) | (go_at_call 14; refine (C14.out _).mono ?_; rintro e w2 ⟨rfl, rfl⟩) | (go_at_call 15; refine (C15.out _).mono ?_; rintro e w2 ⟨rfl, rfl⟩) | (go_at_call 16; refine (C16.out _).mono ?_; rintro e w2 ⟨rfl, rfl⟩) | (go_at_call 20; refine (C20.out _).mono ?_; rintro e w2 ⟨rfl, rfl⟩) | (go_at_call 21; refine (C21.out _).mono ?_; rintro e w2 ⟨rfl, rfl⟩) | (go_at_call 22; refine (C22.out _).mono ?_; rintro e w2 ⟨rfl, rfl⟩) | (go_at_call 19; refine (C19.out _ (tab_below HT.out hz hb1)).mono ?_; rintro e w2 ⟨rfl, rfl⟩) | (go_at_call 23; refine (C23.out _ (HG.out.below hb1)).mono ?_; rintro e w3 ⟨rfl, hb2⟩))
    refine (C18.out _).mono ?_
    rintro e w2 ⟨rfl, rfl⟩
    go_wp2_with (first | (go_at_call 12; refine C12.out.mono ?_; rintro e w1 ⟨rfl, hb1⟩) | (go_at_call 13; refine (C13.out _).mono ?_; rintro e w2 ⟨rfl, rfl⟩) | (go_at_call 14; refine (C14.out _).mono ?_; rintro e w2 ⟨rfl, rfl⟩) | (go_at_call 15; refine (C15.out _).mono ?_; rintro e w2 ⟨rfl, rfl⟩) | (go_at_call 16; refine (C16.out _).mono ?_; rintro e w2 ⟨rfl, rfl⟩) | (go_at_call 20; refine (C20.out _).mono ?_; rintro e w2 ⟨rfl, rfl⟩) | (go_at_call 21; refine (C21.out _).mono ?_; rintro e w2 ⟨rfl, rfl⟩) | (go_at_call 22; refine (C22.out _).mono ?_; rintro e w2 ⟨rfl, rfl⟩) | (go_at_call 19; refine (C19.out _ (tab_below HT.out hz hb1)).mono ?_; rintro e w2 ⟨rfl, rfl⟩) | (go_at_call 23; refine (C23.out _ (HG.out.below hb1)).mono ?_; rintro e w3 ⟨rfl, hb2⟩))
    refine (C18'.out _).mono ?_
    rintro e w2 ⟨rfl, rfl⟩
    go_wp2_with (first | (go_at_call 12; refine C12.out.mono ?_; rintro e w1 ⟨rfl, hb1⟩) | (go_at_call 13; refine (C13.out _).mono ?_; rintro e w2 ⟨rfl, rfl⟩) | (go_at_call 14; refine (C14.out _).mono ?_; rintro e w2 ⟨rfl, rfl⟩) | (go_at_call 15; refine (C15.out _).mono ?_; rintro e w2 ⟨rfl, rfl⟩) | (go_at_call 16; refine (C16.out _).mono ?_; rintro e w2 ⟨rfl, rfl⟩) | (go_at_call 20; refine (C20.out _).mono ?_; rintro e w2 ⟨rfl, rfl⟩) | (go_at_call 21; refine (C21.out _).mono ?_; rintro e w2 ⟨rfl, rfl⟩) | (go_at_call 22; refine (C22.out _).mono ?_; rintro e w2 ⟨rfl, rfl⟩) | (go_at_call 19; refine (C19.out _ (tab_below HT.out hz hb1)).mono ?_; rintro e w2 ⟨rfl, rfl⟩) | (go_at_call 23; refine (C23.out _ (HG.out.below hb1)).mono ?_; rintro e w3 ⟨rfl, hb2⟩))
    all_goals first | (exfalso; omega) | skip
    all_goals (go_ret; exact ⟨rfl, hb1.trans (hb2.mono hb1.size)⟩)
  have h3 : 4503599627370495 < fr := by omega
  clear h
  go_enter Tryd.func4, Tryd.ntmps4
  go_wp2_with (first | (go_at_call 12; refine C12.out.mono ?_; rintro e w1 ⟨rfl, hb1⟩) | (go_at_call 13; refine (C13.out _).mono ?_; rintro e w2 ⟨rfl, rfl⟩) | (go_at_call 14; refine (C14.out _).mono ?_; rintro e w2 ⟨rfl, rfl⟩) | (go_at_call 15; refine (C15.out _).mono ?_; rintro e w2 ⟨rfl, rfl⟩) | (go_at_call 16; refine (C16.out _).mono ?_; rintro e w2 ⟨rfl, rfl⟩) | (go_at_call 20; refine (C20.out _).mono ?_; rintro e w2 ⟨rfl, rfl⟩) | (go_at_call 21; refine (C21.out _).mono ?_; rintro e w2 ⟨rfl, rfl⟩) | (go_at_call 22; refine (C22.out _).mono ?_; rintro e w2 ⟨rfl, rfl⟩) | (go_at_call 19; refine (C19.out _ (tab_below HT.out hz hb1)).mono ?_; rintro e w2 ⟨rfl, rfl⟩) | (go_at_call 23; refine (C23.out _ (HG.out.below hb1)).mono ?_; rintro e w3 ⟨rfl, hb2⟩))
  refine (C18.out _).mono ?_
  rintro e w2 ⟨rfl, rfl⟩
  go_wp2_with (first | (go_at_call 12; refine C12.out.mono ?_; rintro e w1 ⟨rfl, hb1⟩) | (go_at_call 13; refine (C13.out _).mono ?_; rintro e w2 ⟨rfl, rfl⟩) | (go_at_call 14; refine (C14.out _).mono ?_; rintro e w2 ⟨rfl, rfl⟩) | (go_at_call 15; refine (C15.out _).mono ?_; rintro e w2 ⟨rfl, rfl⟩) | (go_at_call 16; refine (C16.out _).mono ?_; rintro e w2 ⟨rfl, rfl⟩) | (go_at_call 20; refine (C20.out _).mono ?_; rintro e w2 ⟨rfl, rfl⟩) | (go_at_call 21; refine (C21.out _).mono ?_; rintro e w2 ⟨rfl, rfl⟩) | (go_at_call 22; refine (C22.out _).mono ?_; rintro e w2 ⟨rfl, rfl⟩) | (go_at_call 19; refine (C19.out _ (tab_below HT.out hz hb1)).mono ?_; rintro e w2 ⟨rfl, rfl⟩) | (go_at_call 23; refine (C23.out _ (HG.out.below hb1)).mono ?_; rintro e w3 ⟨rfl, hb2⟩))
  refine (C18'.out _).mono ?_
  rintro e w2 ⟨rfl, rfl⟩
  go_wp2_with (first | (go_at_call 12; refine C12.out.mono ?_; rintro e w1 ⟨rfl, hb1⟩) | (go_at_call 13; refine (C13.out _).mono ?_; rintro e w2 ⟨rfl, rfl⟩) | (go_at_call 14; refine (C14.out _).mono ?_; rintro e w2 ⟨rfl, rfl⟩) | (go_at_call 15; refine (C15.out _).mono ?_; rintro e w2 ⟨rfl, rfl⟩) | (go_at_call 16; refine (C16.out _).mono ?_; rintro e w2 ⟨rfl, rfl⟩) | (go_at_call 20; refine (C20.out _).mono ?_; rintro e w2 ⟨rfl, rfl⟩) | (go_at_call 21; refine (C21.out _).mono ?_; rintro e w2 ⟨rfl, rfl⟩) | (go_at_call 22; refine (C22.out _).mono ?_; rintro e w2 ⟨rfl, rfl⟩) | (go_at_call 19; refine (C19.out _ (tab_below HT.out hz hb1)).mono ?_; rintro e w2 ⟨rfl, rfl⟩) | (go_at_call 23; refine (C23.out _ (HG.out.below hb1)).mono ?_; rintro e w3 ⟨rfl, hb2⟩))
  all_goals first | (exfalso; omega) | skip
  all_goals (go_ret; exact ⟨rfl, hb1.trans (hb2.mono hb1.size)⟩)

set_option maxRecDepth 100000 in
set_option maxHeartbeats 2000000 in
theorem parts_fin_ok (b : Nat) (neg : Bool) (xx fr : Nat) (hb : b < 18446744073709551616) (h0 : 0 < PL.rung b) (hx : PL.rung b < 9218868437227405312) (hxx : xx ≤ 2047) (hff : fr ≤ 4503599627370495)
    (w : World) (hG : Glob w) (hT : TabAt 2 Go.Lib.deBruijn64tab w) (hz : 2 < w.heap.size) :
    Calls Tryd.prog 4 #[.float .f64 b, .bool neg, .int .i64 xx, .int .u64 fr] w fun e w' => e = .returned (.bool true) ∧ Below w.heap.size w w' := by
  obtain ⟨r1, r2, r3⟩ := rung_parts b hb
  have cb := call_bits
  have a1 : bits .and .u64 ((b : Int) / 4503599627370496) 2047 = ((expo b : Nat) : Int) := and_2047 (b / 4503599627370496) (by omega)
  have a2 : bits .and .u64 (b : Int) 4503599627370495 = ((frac b : Nat) : Int) := and_frac b hb
  have zn := zero_neq
  have C12 := Lib.hid (made_any w hG.g0 hG.g1 hG.sz hT)
  have C13 := Lib.hid (fun w => split_any b hb w)
  have C14 := Lib.hid (fun w => kind_any b hb w)
  have C15 := Lib.hid (fun w => kindof_any b hb w)
  have C16 := Lib.hid (fun w => signbit_any b hb w)
  have C18 := Lib.hid (fun w => join_back b hb w)
  have C20 := Lib.hid (fun w => finite_any b hb w)
  have C18' := Lib.hid (fun w => join_ok neg xx fr w hxx hff)
  have C13' := Lib.hid (fun w => split_word neg xx fr hxx hff w)
  have kn : (neg != neg) = false := by simp
  have hfin : (!nanB b && !infB b) = true := by
    unfold nanB infB
    rw [decide_eq_false (by omega), decide_eq_false (by omega)]; rfl
  have hadd : ∀ w, (binOp .add 33 (.float .f64 b) (.float .f64 0)).run Tryd.prog w = .ok (.float .f64 b) w := fun w => run_float_arith w .add 33 .f64 _ _ _ (by rw [add_zero b hb hx, if_neg (by omega)])
  obtain ⟨n, q, q1, q2, q3, q4, q5, q6⟩ := whole_odd b hb h0 hx
  have hmk := make_back b n q hb h0 hx q1 q4 q2
  have C19 := Lib.hid q5
  have C21 := Lib.hid q6
  have C22 := Lib.hid (fun w => bits_same b w)
  have hm1 : -9007199254740992 ≤ (if sgn b then -(q : Int) else q) ∧ (if sgn b then -(q : Int) else q) ≤ 9007199254740992 := by cases sgn b <;> simp <;> omega
  clear q1 q5 q6
  generalize (if sgn b then -(q : Int) else q) = m at *
  generalize PL.place (PL.rung b) + n = kk2 at *
  obtain ⟨m1, m2⟩ := hm1
  have C23 := Lib.hid (fun w (hG : Glob w) => make_any m kk2 (by omega) (by omega) w hG.g0 hG.g1 hG.sz)
  rw [hmk] at C23
  have km : (m == m) = true := by simp
  have kk3 : (kk2 == kk2) = true := by simp
  clear hmk
  rw [hfin] at C20
  have k1 : (kindS b != kindS b) = false := by simp
  have k2 : (sgn b != sgn b) = false := by simp
  have k3 : ((expo b : Int) != expo b) = false := by simp
  have k4 : ((frac b : Int) != frac b) = false := by simp
  have k5 : ((b : Int) != b) = false := by simp
  have k6 : ((xx : Int) != xx) = false := by simp
  have k7 : ((fr : Int) != fr) = false := by simp
  have HT := Lib.hid hT
  have HG := Lib.hid hG
  clear hfin r1 hT hG hx h0
  generalize kindS b = kk at *
  generalize sgn b = s at *
  generalize expo b = x at *
  generalize frac b = f at *
  go_enter Tryd.func4, Tryd.ntmps4
  go_wp2_with (first | (go_at_call 12; refine C12.out.mono ?_; rintro e w1 ⟨rfl, hb1⟩) | (go_at_call 13; refine (C13.out _).mono ?_; rintro e w2 ⟨rfl, rfl⟩) | (go_at_call 14; refine (C14.out _).mono ?_; rintro e w2 ⟨rfl, rfl⟩) | (go_at_call 15; refine (C15.out _).mono ?_; rintro e w2 ⟨rfl, rfl⟩) | (go_at_call 16; refine (C16.out _).mono ?_; rintro e w2 ⟨rfl, rfl⟩) | (go_at_call 20; refine (C20.out _).mono ?_; rintro e w2 ⟨rfl, rfl⟩) | (go_at_call 21; refine (C21.out _).mono ?_; rintro e w2 ⟨rfl, rfl⟩) | (go_at_call 22; refine (C22.out _).mono ?_; rintro e w2 ⟨rfl, rfl⟩) | (go_at_call 19; refine (C19.out _ (tab_below HT.out hz hb1)).mono ?_; rintro e w2 ⟨rfl, rfl⟩) | (go_at_call 23; refine (C23.out _ (HG.out.below hb1)).mono ?_; rintro e w3 ⟨rfl, hb2⟩))
  refine (C18.out _).mono ?_
  rintro e w2 ⟨rfl, rfl⟩
  go_wp2_with (first | (go_at_call 12; refine C12.out.mono ?_; rintro e w1 ⟨rfl, hb1⟩) | (go_at_call 13; refine (C13.out _).mono ?_; rintro e w2 ⟨rfl, rfl⟩) | (go_at_call 14; refine (C14.out _).mono ?_; rintro e w2 ⟨rfl, rfl⟩) | (go_at_call 15; refine (C15.out _).mono ?_; rintro e w2 ⟨rfl, rfl⟩) | (go_at_call 16; refine (C16.out _).mono ?_; rintro e w2 ⟨rfl, rfl⟩) | (go_at_call 20; refine (C20.out _).mono ?_; rintro e w2 ⟨rfl, rfl⟩) | (go_at_call 21; refine (C21.out _).mono ?_; rintro e w2 ⟨rfl, rfl⟩) | (go_at_call 22; refine (C22.out _).mono ?_; rintro e w2 ⟨rfl, rfl⟩) | (go_at_call 19; refine (C19.out _ (tab_below HT.out hz hb1)).mono ?_; rintro e w2 ⟨rfl, rfl⟩) | (go_at_call 23; refine (C23.out _ (HG.out.below hb1)).mono ?_; rintro e w3 ⟨rfl, hb2⟩))
  refine (C18'.out _).mono ?_
  rintro e w2 ⟨rfl, rfl⟩
  clear C13
  have C13 := C13'
  go_wp2_with (first | (go_at_call 12; refine C12.out.mono ?_; rintro e w1 ⟨rfl, hb1⟩) | (go_at_call 13; refine (C13.out _).mono ?_; rintro e w2 ⟨rfl, rfl⟩) | (go_at_call 14; refine (C14.out _).mono ?_; rintro e w2 ⟨rfl, rfl⟩) | (go_at_call 15; refine (C15.out _).mono ?_; rintro e w2 ⟨rfl, rfl⟩) | (go_at_call 16; refine (C16.out _).mono ?_; rintro e w2 ⟨rfl, rfl⟩) | (go_at_call 20; refine (C20.out _).mono ?_; rintro e w2 ⟨rfl, rfl⟩) | (go_at_call 21; refine (C21.out _).mono ?_; rintro e w2 ⟨rfl, rfl⟩) | (go_at_call 22; refine (C22.out _).mono ?_; rintro e w2 ⟨rfl, rfl⟩) | (go_at_call 19; refine (C19.out _ (tab_below HT.out hz hb1)).mono ?_; rintro e w2 ⟨rfl, rfl⟩) | (go_at_call 23; refine (C23.out _ (HG.out.below hb1)).mono ?_; rintro e w3 ⟨rfl, hb2⟩))
  all_goals first | (exfalso; omega) | skip
  all_goals (go_ret; exact ⟨rfl, hb1.trans (hb2.mono hb1.size)⟩)

end Go.Proofs.YtjjfkidddjcdcaaDoor
