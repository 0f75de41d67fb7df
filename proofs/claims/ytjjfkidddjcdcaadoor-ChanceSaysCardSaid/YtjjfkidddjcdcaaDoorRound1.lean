/- Proved here: the contract of the document's Round (mode 1) over a power of two at this program. Conditions: as each theorem says. -/
import Derived.Test.YtjjfkidddjcdcaaDoorRatFloat
import Derived.Test.YtjjfkidddjcdcaaDoorPow2
namespace Go.Proofs.YtjjfkidddjcdcaaDoor
open Go.ChangeShapes Go.WideShapes Go.ChangeAt Go.RowKit

theorem fltW_lt (a : Int) (k : Nat) : fltW a k < 18446744073709551616 ∧ PL.rung (fltW a k) = PL.rungOf Ieee.double a.natAbs (-(k : Int)) ∧ sgn (fltW a k) = decide (a < 0) := by
  have h := rung_lt a.natAbs (-(k : Int))
  have h' : PL.rungOf Ieee.double a.natAbs (-(k : Int)) < 9223372036854775808 := h
  unfold fltW PL.rung sgn
  generalize PL.rungOf Ieee.double a.natAbs (-(k : Int)) = r at *
  by_cases hn : a < 0
  · rw [if_pos hn, decide_eq_true hn]
    refine ⟨by omega, by omega, by simp⟩
  · rw [if_neg hn, decide_eq_false hn]
    refine ⟨by omega, by omega, by simp; omega⟩

theorem float_pos1 : floatOfInt .f64 1 = 4607182418800017408 := by decide +kernel
theorem float_neg1 : floatOfInt .f64 (-1) = 13830554455654793216 := by decide +kernel

theorem round_nil (g k : Nat) (w : World) (h : RatAt w g 0 k) :
    Calls Tryd.prog 68 #[.pointer (some ⟨g, 0, none⟩), .int .i64 1] w fun e w' => Below w.heap.size w w' ∧ e = .returned (.float .f64 0) := by
  have HH := Lib.hid h
  clear h
  go_enter Tryd.func68, Tryd.ntmps68
  go_wp2_with fail
  refine (float_nil g k w HH.out).mono ?_
  rintro e w1 ⟨hb1, ex, rfl⟩
  have C := Lib.hid (ratsign_z g k 0 w1 (HH.out.below hb1) (by decide))
  go_wp2_with fail
  refine C.out.mono ?_
  rintro e wx ⟨rfl, rfl⟩
  go_wp2_with fail
  go_ret
  exact ⟨hb1, rfl⟩

set_option maxRecDepth 100000 in
set_option maxHeartbeats 1000000 in
theorem round_more (g k : Nat) (a : Int) (w : World) (h : RatAt w g a k) (h0 : a ≠ 0) (hal : a.natAbs < 2 ^ 20000) (hk : k ≤ 20000) :
    Calls Tryd.prog 68 #[.pointer (some ⟨g, 0, none⟩), .int .i64 1] w fun e w' => Below w.heap.size w w' ∧ e = .returned (.float .f64 (fltW a k)) := by
  have HH := Lib.hid h
  have hwa := wc_of_lt hal
  obtain ⟨f1, f2, f3⟩ := fltW_lt a k
  have C0 := Lib.hid (float_more g k a w h h0 hal hk)
  have CS := Lib.hid (fun w' hb => ratsign_z g k a w' (h.below hb) (by omega))
  have hz := eq_zero (fltW a k) f1
  have F2 := Lib.hid f2
  have F3 := Lib.hid f3
  generalize hV : fltW a k = V at *
  clear h hal hwa hV f2 f3
  have CC := Lib.hid (fun c hc w' => copysign_any 0 c (by omega) hc w')
  rw [show PL.rung 0 = 0 from rung_small 0 (by omega)] at CC
  have hsV : PL.rung V = 0 → V = (if sgn V then 9223372036854775808 else 0) := fun h => by
    unfold PL.rung at h
    unfold sgn
    by_cases h2 : 9223372036854775808 ≤ V
    · rw [decide_eq_true h2, if_pos rfl]; omega
    · rw [decide_eq_false h2, if_neg (by simp)]; omega
  have HSV := Lib.hid hsV
  clear hsV
  have hp1 := float_pos1
  have hn1 := float_neg1
  obtain ⟨zb, hzb⟩ : ∃ zb, decide (PL.rung V = 0) = zb := ⟨_, rfl⟩
  rw [hzb] at hz
  have HZB := Lib.hid hzb
  clear hzb
  rcases Int.lt_trichotomy a 0 with hs | hs | hs
  · rw [Int.sign_eq_neg_one_of_neg hs] at CS
    rw [decide_eq_true hs] at F3
    clear hs h0
    cases zb
    · go_enter Tryd.func68, Tryd.ntmps68
      go_wp2_with fail
      refine C0.out.mono ?_
      rintro e w1 ⟨hb1, ex, rfl⟩
      go_wp2_with fail
      refine (CS.out w1 hb1).mono ?_
      rintro e wx ⟨rfl, rfl⟩
      go_wp2_with fail
      go_ret
      exact ⟨hb1, rfl⟩
    · have hv : Hid (V = 9223372036854775808 + 0) := by
        have := HSV.out (of_decide_eq_true HZB.out)
        rw [F3.out, if_pos rfl] at this
        exact this
      go_enter Tryd.func68, Tryd.ntmps68
      go_wp2_with fail
      refine C0.out.mono ?_
      rintro e w1 ⟨hb1, ex, rfl⟩
      go_wp2_with fail
      refine (CS.out w1 hb1).mono ?_
      rintro e wx ⟨rfl, rfl⟩
      go_wp2_with fail
      refine (CS.out wx hb1).mono ?_
      rintro e wy ⟨rfl, rfl⟩
      go_wp2_with fail
      refine (CC.out 13830554455654793216 (by omega) wy).mono ?_
      rw [show (if sgn 13830554455654793216 then 9223372036854775808 else 0) + 0 = V from by rw [show sgn 13830554455654793216 = true from by decide, if_pos rfl]; exact hv.out.symm]
      rintro e wz ⟨rfl, rfl⟩
      go_wp2_with fail
      go_ret
      exact ⟨hb1, rfl⟩
  · exact absurd hs h0
  · rw [Int.sign_eq_one_of_pos hs] at CS
    rw [decide_eq_false (show ¬ a < 0 by omega)] at F3
    clear hs h0
    cases zb
    · go_enter Tryd.func68, Tryd.ntmps68
      go_wp2_with fail
      refine C0.out.mono ?_
      rintro e w1 ⟨hb1, ex, rfl⟩
      go_wp2_with fail
      refine (CS.out w1 hb1).mono ?_
      rintro e wx ⟨rfl, rfl⟩
      go_wp2_with fail
      go_ret
      exact ⟨hb1, rfl⟩
    · have hv : Hid (V = 0) := by
        have := HSV.out (of_decide_eq_true HZB.out)
        rw [F3.out, if_neg (by simp)] at this
        exact this
      go_enter Tryd.func68, Tryd.ntmps68
      go_wp2_with fail
      refine C0.out.mono ?_
      rintro e w1 ⟨hb1, ex, rfl⟩
      go_wp2_with fail
      refine (CS.out w1 hb1).mono ?_
      rintro e wx ⟨rfl, rfl⟩
      go_wp2_with fail
      refine (CS.out wx hb1).mono ?_
      rintro e wy ⟨rfl, rfl⟩
      go_wp2_with fail
      refine (CC.out 4607182418800017408 (by omega) wy).mono ?_
      rw [show (if sgn 4607182418800017408 then 9223372036854775808 else 0) + 0 = V from by rw [show sgn 4607182418800017408 = false from by decide, if_neg (by simp)]; exact hv.out.symm]
      rintro e wz ⟨rfl, rfl⟩
      go_wp2_with fail
      go_ret
      exact ⟨hb1, rfl⟩

theorem fltW_nil (k : Nat) : fltW 0 k = 0 := by
  unfold fltW
  rw [if_neg (by omega), show (0 : Int).natAbs = 0 from rfl, PL.rung_zero]

theorem round_one (g k : Nat) (a : Int) (w : World) (h : RatAt w g a k) (hal : a.natAbs < 2 ^ 20000) (hk : k ≤ 20000) :
    Calls Tryd.prog 68 #[.pointer (some ⟨g, 0, none⟩), .int .i64 1] w fun e w' => Below w.heap.size w w' ∧ e = .returned (.float .f64 (fltW a k)) := by
  by_cases h0 : a = 0
  · subst h0
    rw [fltW_nil]
    exact round_nil g k w h
  · exact round_more g k a w h h0 hal hk
end Go.Proofs.YtjjfkidddjcdcaaDoor
