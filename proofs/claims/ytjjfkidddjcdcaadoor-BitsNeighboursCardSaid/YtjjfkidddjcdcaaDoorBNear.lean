/- Proved here: the walk of enclosurelaw.BitsNeighbours at this program. Conditions: words of 64 bits; the listed variables hold what is laid. -/
import Derived.Test.YtjjfkidddjcdcaaDoorUlp
namespace Go.Proofs.YtjjfkidddjcdcaaDoor
open Go.ChangeShapes Go.WideShapes Go.ChangeAt Go.RowKit
open Go.Proofs (TabAt)

theorem next_lt (b : Nat) (hb : b < 18446744073709551616) : nextS b < 18446744073709551616 := by
  have := sval_cases b hb
  unfold nextS
  split
  · exact hb
  · split
    · omega
    · split <;> omega
theorem flip_lt (b : Nat) (hb : b < 18446744073709551616) : flip b < 18446744073709551616 := by unfold flip; split <;> omega
theorem rung_flip (b : Nat) (hb : b < 18446744073709551616) : PL.rung (flip b) = PL.rung b := by unfold flip PL.rung; split <;> omega
theorem flip_flip (b : Nat) (hb : b < 18446744073709551616) : flip (flip b) = b := by
  unfold flip
  by_cases h : b < 9223372036854775808
  · rw [if_pos h, if_neg (by omega)]; omega
  · rw [if_neg h, if_pos (by omega)]; omega

theorem prev_down (b : Nat) (hb : b < 18446744073709551616) (h : ¬ 9218868437227405312 < PL.rung b) : flip (nextS (flip b)) = downS b := by
  have hs := sval_cases b hb
  have hr := rung_flip b hb
  unfold downS
  by_cases h1 : b = 18442240474082181120
  · rw [if_pos h1]
    have e : flip b = 9218868437227405312 := by unfold flip; rw [if_neg (by omega)]; omega
    have : nextS (flip b) = flip b := by unfold nextS; rw [if_pos (.inr e)]
    rw [this, flip_flip b hb]
  rw [if_neg h1]
  have e : ¬ flip b = 9218868437227405312 := by unfold flip; split <;> omega
  have e2 : nextS (flip b) = if PL.rung b = 0 then 1 else if flip b < 9223372036854775808 then flip b + 1 else flip b - 1 := by
    unfold nextS
    rw [hr, if_neg (by omega)]
  rw [e2]
  by_cases h3 : PL.rung b = 0
  · rw [if_pos h3, if_pos h3]; rfl
  rw [if_neg h3, if_neg h3]
  by_cases h4 : b < 9223372036854775808
  · have f1 : flip b = b + 9223372036854775808 := by unfold flip; rw [if_pos h4]
    rw [if_pos h4, f1, if_neg (by omega)]
    unfold flip
    rw [if_neg (by omega)]
    omega
  · have f1 : flip b = b - 9223372036854775808 := by unfold flip; rw [if_neg h4]
    rw [if_neg h4, f1, if_pos (by omega)]
    unfold flip
    rw [if_pos (by omega)]
    omega

theorem nan_zero : (FloatKind.f64.format.order 9221120237041090561 0 == some .eq) = false := by decide +kernel

theorem eq_self (b : Nat) (hb : b < 18446744073709551616) : (FloatKind.f64.format.order b b == some .eq) = !nanB b := by
  have h := neq_self b hb
  have : ∀ o : Option Ordering, (o == some .eq) = !(o != some .eq) := fun o => by simp [bne]
  rw [this, h]

set_option maxRecDepth 100000 in
set_option maxHeartbeats 1000000 in
theorem near_nan (b c : Nat) (hb : b < 18446744073709551616) (h : 9218868437227405312 < PL.rung b) (w : World) (hG : Glob w) (hT : TabAt 2 Go.Lib.deBruijn64tab w) :
    Calls Tryd.prog 7 #[.float .f64 b, .float .f64 c] w fun e w' => e = .returned (.bool true) ∧ Below w.heap.size w w' := by
  have hn : nextS b = b := by unfold nextS; rw [if_pos (.inl h)]
  have hp : flip (nextS (flip b)) = b := by
    have : nextS (flip b) = flip b := by unfold nextS; rw [rung_flip b hb, if_pos (.inl h)]
    rw [this, flip_flip b hb]
  have C12 := Lib.hid (made_any w hG.g0 hG.g1 hG.sz hT)
  have C29 := Lib.hid (fun c w => nextafter_nan b c hb h w)
  have C32 := Lib.hid (fun w => next_any b hb w)
  have C33 := Lib.hid (fun w => prev_any b hb w)
  rw [hn] at C32
  rw [hp] at C33
  have C22 := Lib.hid (fun w => bits_nan b 9221120237041090561 hb (by omega) h (by unfold PL.isNaN PL.rung; omega) w)
  have C34 := Lib.hid (fun w hG => ulp_any b hb w hG)
  have C35 := Lib.hid (fun w => ulpof_any b hb w)
  have C36 := Lib.hid (fun w => key_any b hb w)
  have C37 := Lib.hid (fun w => keyof_any b hb w)
  have hs := eq_self b hb
  rw [show nanB b = true from decide_eq_true h] at hs
  have nz := nan_zero
  have HG := Lib.hid hG
  clear hG hT h hn hp
  generalize ulpS b = u at *
  generalize keyS b = kk at *
  have k1 : (kk != kk) = false := by simp
  go_enter Tryd.func7, Tryd.ntmps7
  go_wp2_with (first | (go_at_call 12; refine C12.out.mono ?_; rintro e w1 ⟨rfl, hb1⟩) | (go_at_call 30; refine (inf_pos _).mono ?_; rintro e w2 ⟨rfl, rfl⟩))
  refine (C29.out _ _).mono ?_
  rintro e w2 ⟨rfl, rfl⟩
  go_wp2_with fail
  refine (inf_neg _).mono ?_
  rintro e w2 ⟨rfl, rfl⟩
  go_wp2_with fail
  refine (C29.out _ _).mono ?_
  rintro e w2 ⟨rfl, rfl⟩
  go_wp2_with (first | (go_at_call 32; refine (C32.out _).mono ?_; rintro e w2 ⟨rfl, rfl⟩) | (go_at_call 33; refine (C33.out _).mono ?_; rintro e w2 ⟨rfl, rfl⟩) | (go_at_call_of 22 (Value.float .f64 b); refine (C22.out _).mono ?_; rintro e w2 ⟨rfl, rfl⟩) | (go_at_call 34; refine (C34.out _ (HG.out.below hb1)).mono ?_; rintro e w3 ⟨rfl, hb2⟩) | (go_at_call 35; refine (C35.out _).mono ?_; rintro e w2 ⟨rfl, rfl⟩) | (go_at_call 36; refine (C36.out _).mono ?_; rintro e w2 ⟨rfl, rfl⟩) | (go_at_call 37; refine (C37.out _).mono ?_; rintro e w2 ⟨rfl, rfl⟩))
  refine (bits_same _ _).mono ?_
  rintro e w4 ⟨rfl, rfl⟩
  go_wp2_with (first | (go_at_call 36; refine (C36.out _).mono ?_; rintro e w2 ⟨rfl, rfl⟩) | (go_at_call 37; refine (C37.out _).mono ?_; rintro e w2 ⟨rfl, rfl⟩))
  go_ret
  exact ⟨rfl, hb1.trans (hb2.mono hb1.size)⟩

set_option maxRecDepth 100000 in
set_option maxHeartbeats 4000000 in
theorem near_walk (b c : Nat) (hb : b < 18446744073709551616) (hc : c < 18446744073709551616) (h : ¬ 9218868437227405312 < PL.rung b) (w : World) (hG : Glob w) (hT : TabAt 2 Go.Lib.deBruijn64tab w)
    (zu zd : Bool) (hzu : (FloatKind.f64.format.order (nextS b) 0 == some .eq) = zu) (hzd : (FloatKind.f64.format.order (downS b) 0 == some .eq) = zd) (hU : zu = true → nextS b = 9223372036854775808) (hD : zd = true → downS b = 0) :
    Calls Tryd.prog 7 #[.float .f64 b, .float .f64 c] w fun e w' => e = .returned (.bool true) ∧ Below w.heap.size w w' := by
  have C12 := Lib.hid (made_any w hG.g0 hG.g1 hG.sz hT)
  have C29 := Lib.hid (fun w => nextafter_up b 9218868437227405312 hb rfl h w)
  have C29' := Lib.hid (fun w => nextafter_down b 18442240474082181120 hb rfl h w)
  have C31 := Lib.hid (fun w => copysign_any 0 13830554455654793216 (by omega) (by omega) w)
  rw [show sgn 13830554455654793216 = true from decide_eq_true (by omega), show PL.rung 0 = 0 from rung_small 0 (by omega)] at C31
  simp only [if_true, Nat.add_zero] at C31
  have C32 := Lib.hid (fun w => next_any b hb w)
  have C33 := Lib.hid (fun w => prev_any b hb w)
  rw [prev_down b hb h] at C33
  have C34 := Lib.hid (fun w hG => ulp_any b hb w hG)
  have C35 := Lib.hid (fun w => ulpof_any b hb w)
  have C36 := Lib.hid (fun w => key_any b hb w)
  have C37 := Lib.hid (fun w => keyof_any b hb w)
  have C36' := Lib.hid (fun w => key_any c hc w)
  have hs := eq_self b hb
  have hs' := eq_self c hc
  rw [show nanB b = false from decide_eq_false h] at hs
  have HG := Lib.hid hG
  have hcmp : nanB c = false → (((FloatKind.f64.format.order b c == some .lt) = true ∧ keyS b < keyS c ∧ (FloatKind.f64.format.order b c != some .eq) = true) ∨ ((FloatKind.f64.format.order b c == some .lt) = false ∧ keyS b < keyS c ∧ (FloatKind.f64.format.order b c != some .eq) = false) ∨ ((FloatKind.f64.format.order b c == some .lt) = false ∧ ¬ keyS b < keyS c)) := by
    intro hnc
    have h' : ¬ PL.isNaN c := by unfold nanB at hnc; unfold PL.isNaN; simpa using hnc
    have e1 := ord_lt b c hb hc h h'
    have e2 := ord_eq b c hb hc h h'
    have e3 : ∀ o : Option Ordering, (o != some .eq) = !(o == some .eq) := fun o => rfl
    rw [e3, e1, e2]
    have s1 := sval_cases b hb
    have s2 := sval_cases c hc
    unfold PL.isNaN at h'
    have k1 : keyS b = if b < 9223372036854775808 then (b : Int) else -1 - (PL.rung b : Int) := if_neg h
    have k2 : keyS c = if c < 9223372036854775808 then (c : Int) else -1 - (PL.rung c : Int) := if_neg h'
    rw [k1, k2]
    by_cases q1 : PL.sval b < PL.sval c
    · left
      rw [decide_eq_true q1, decide_eq_false (by omega)]
      refine ⟨rfl, ?_, rfl⟩
      split <;> split <;> omega
    · right
      rw [decide_eq_false q1]
      by_cases q2 : (if b < 9223372036854775808 then (b : Int) else -1 - (PL.rung b : Int)) < (if c < 9223372036854775808 then (c : Int) else -1 - (PL.rung c : Int))
      · left
        refine ⟨rfl, q2, ?_⟩
        rw [decide_eq_true]
        · rfl
        · revert q2; split <;> split <;> omega
      · right
        exact ⟨rfl, q2⟩
  have HC := Lib.hid hcmp
  clear hcmp hG hT h
  generalize nextS b = U at *
  generalize downS b = D at *
  generalize ulpS b = u at *
  generalize keyS b = kb at *
  generalize keyS c = kc at *
  have k1 : (kb != kb) = false := by simp
  cases hnc : nanB c
  · rw [hnc] at hs'
    have hcmp := HC.out hnc
    clear HC hnc
    rcases hcmp with ⟨t1, t2, t3⟩ | ⟨t1, t2, t3⟩ | ⟨t1, t2⟩
    all_goals first | (have t2' := decide_eq_false t2) | (have t2' := decide_eq_true t2)
    all_goals (cases zu <;> cases zd)
    all_goals first | (obtain rfl := hU rfl) | (clear hU)
    all_goals first | (obtain rfl := hD rfl) | (clear hD)
    all_goals (go_enter Tryd.func7, Tryd.ntmps7)
    all_goals (
    go_wp2_with (first | (go_at_call 12; refine C12.out.mono ?_; rintro e w1 ⟨rfl, hb1⟩) | (go_at_call 30; refine (inf_pos _).mono ?_; rintro e w2 ⟨rfl, rfl⟩))
    refine (C29.out _).mono ?_
    rintro e w2 ⟨rfl, rfl⟩
    go_wp2_with fail
    refine (inf_neg _).mono ?_
    rintro e w2 ⟨rfl, rfl⟩
    go_wp2_with fail
    refine (C29'.out _).mono ?_
    rintro e w2 ⟨rfl, rfl⟩
    go_wp2_with (first | (go_at_call 31; refine (C31.out _).mono ?_; rintro e w2 ⟨rfl, rfl⟩) | (go_at_call 32; refine (C32.out _).mono ?_; rintro e w2 ⟨rfl, rfl⟩) | (go_at_call 33; refine (C33.out _).mono ?_; rintro e w2 ⟨rfl, rfl⟩) | (go_at_call 22; refine (bits_same _ _).mono ?_; rintro e w2 ⟨rfl, rfl⟩) | (go_at_call 34; refine (C34.out _ (HG.out.below hb1)).mono ?_; rintro e w3 ⟨rfl, hb2⟩) | (go_at_call 35; refine (C35.out _).mono ?_; rintro e w2 ⟨rfl, rfl⟩) | (go_at_call_of 36 (Value.float .f64 b); refine (C36.out _).mono ?_; rintro e w2 ⟨rfl, rfl⟩) | (go_at_call 37; refine (C37.out _).mono ?_; rintro e w2 ⟨rfl, rfl⟩))
    refine (C36'.out _).mono ?_
    rintro e w2 ⟨rfl, rfl⟩
    go_wp2_with fail
    go_ret
    first | exact ⟨rfl, hb1.trans (hb2.mono hb1.size)⟩ | (refine ⟨?_, hb1.trans (hb2.mono hb1.size)⟩; show Ending.returned (Value.bool (!(FloatKind.f64.format.order b c != some .eq))) = _; rw [t3]; rfl))
  · rw [hnc] at hs'
    clear HC hnc
    all_goals (cases zu <;> cases zd)
    all_goals first | (obtain rfl := hU rfl) | (clear hU)
    all_goals first | (obtain rfl := hD rfl) | (clear hD)
    all_goals (go_enter Tryd.func7, Tryd.ntmps7)
    all_goals (
    go_wp2_with (first | (go_at_call 12; refine C12.out.mono ?_; rintro e w1 ⟨rfl, hb1⟩) | (go_at_call 30; refine (inf_pos _).mono ?_; rintro e w2 ⟨rfl, rfl⟩))
    refine (C29.out _).mono ?_
    rintro e w2 ⟨rfl, rfl⟩
    go_wp2_with fail
    refine (inf_neg _).mono ?_
    rintro e w2 ⟨rfl, rfl⟩
    go_wp2_with fail
    refine (C29'.out _).mono ?_
    rintro e w2 ⟨rfl, rfl⟩
    go_wp2_with (first | (go_at_call 31; refine (C31.out _).mono ?_; rintro e w2 ⟨rfl, rfl⟩) | (go_at_call 32; refine (C32.out _).mono ?_; rintro e w2 ⟨rfl, rfl⟩) | (go_at_call 33; refine (C33.out _).mono ?_; rintro e w2 ⟨rfl, rfl⟩) | (go_at_call 22; refine (bits_same _ _).mono ?_; rintro e w2 ⟨rfl, rfl⟩) | (go_at_call 34; refine (C34.out _ (HG.out.below hb1)).mono ?_; rintro e w3 ⟨rfl, hb2⟩) | (go_at_call 35; refine (C35.out _).mono ?_; rintro e w2 ⟨rfl, rfl⟩) | (go_at_call_of 36 (Value.float .f64 b); refine (C36.out _).mono ?_; rintro e w2 ⟨rfl, rfl⟩) | (go_at_call 37; refine (C37.out _).mono ?_; rintro e w2 ⟨rfl, rfl⟩))
    go_ret
    exact ⟨rfl, hb1.trans (hb2.mono hb1.size)⟩)

theorem zero_of (b : Nat) (hb : b < 18446744073709551616) (h : PL.rung b = 0) : b = 0 ∨ b = 9223372036854775808 := by
  have := sval_cases b hb
  omega

theorem near_any (b c : Nat) (hb : b < 18446744073709551616) (hc : c < 18446744073709551616) (w : World) (hG : Glob w) (hT : TabAt 2 Go.Lib.deBruijn64tab w) :
    Calls Tryd.prog 7 #[.float .f64 b, .float .f64 c] w fun e w' => e = .returned (.bool true) ∧ Below w.heap.size w w' := by
  by_cases h : 9218868437227405312 < PL.rung b
  · exact near_nan b c hb h w hG hT
  · have hs := sval_cases b hb
    have hn := next_lt b hb
    have hd : downS b < 18446744073709551616 := by
      rw [← prev_down b hb h]
      exact flip_lt _ (next_lt _ (flip_lt b hb))
    refine near_walk b c hb hc h w hG hT _ _ (eq_zero _ hn) (eq_zero _ hd) ?_ ?_
    · intro hz
      have hz' := zero_of _ hn (by simpa using hz)
      rcases hz' with e | e
      · exfalso
        revert e
        unfold nextS
        split
        · omega
        · split
          · omega
          · split <;> omega
      · exact e
    · intro hz
      have hz' := zero_of _ hd (by simpa using hz)
      rcases hz' with e | e
      · exact e
      · exfalso
        revert e
        unfold downS
        split
        · omega
        · split
          · omega
          · split <;> omega
end Go.Proofs.YtjjfkidddjcdcaaDoor
