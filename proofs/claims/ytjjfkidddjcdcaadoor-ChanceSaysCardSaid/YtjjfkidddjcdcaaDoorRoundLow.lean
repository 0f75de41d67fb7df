/- Proved here: the contract of the document's Round (mode 2) of a ratio that is just a float, not below 0, at this program. Conditions: as each theorem says. -/
import Derived.Test.YtjjfkidddjcdcaaDoorRound1
import Derived.Test.YtjjfkidddjcdcaaDoorRatCmp
import Derived.Test.YtjjfkidddjcdcaaDoorSmallQuo
import Derived.Test.YtjjfkidddjcdcaaDoorSumPlain
namespace Go.Proofs.YtjjfkidddjcdcaaDoor
open Go.ChangeShapes Go.WideShapes Go.ChangeAt Go.RowKit

theorem isinf_pos (V : Nat) (hV : V < 9218868437227405312) (w : World) :
    Calls Tryd.prog 61 #[.float .f64 V, .int .i64 1] w fun e w' => e = .returned (.bool false) ∧ w' = w := by
  have h := gt_max V
  have hr : PL.rung V = V := rung_small V (by omega)
  rw [hr, show infB V = false from by unfold infB; rw [hr]; exact decide_eq_false (by omega)] at h
  clear hr hV
  go_enter Tryd.func61, Tryd.ntmps61
  go_wp2_with fail
  go_ret
  exact ⟨rfl, rfl⟩

theorem gt_neg_core (V c : Nat) (h0 : 0 < V) (hV : V < 9218868437227405312) (hc : c < 9218868437227405312) : (Ieee.double.order (V + 9223372036854775808) c == some .gt) = false := by
  have hr : PL.rung (V + 9223372036854775808) = V := by unfold PL.rung; omega
  have hn : ¬ PL.isNaN (V + 9223372036854775808) := by unfold PL.isNaN; rw [hr]; omega
  rw [PL.order_eq _ _ (by omega) (by omega) hn (notNaN_small _ (by omega)), sval_small c (by omega)]
  have hs : PL.sval (V + 9223372036854775808) = -(V : Int) := by unfold PL.sval; rw [if_pos (by omega), hr]
  rw [hs]
  have : ¬ compare (-(V : Int)) (c : Int) = .gt := by rw [Int.compare_eq_gt]; omega
  simpa using this

theorem isinf_neg (V : Nat) (h0 : 0 < V) (hV : V < 9218868437227405312) (w : World) :
    Calls Tryd.prog 61 #[.float .f64 V, .int .i64 (-1)] w fun e w' => e = .returned (.bool false) ∧ w' = w := by
  have h := gt_neg_core V 9218868437227405311 h0 hV (by omega)
  rw [← f64_fmt] at h
  have hng := run_neg V (by omega)
  have hfv : flip V = V + 9223372036854775808 := if_pos (by omega)
  rw [hfv] at hng
  clear hfv hV h0
  go_enter Tryd.func61, Tryd.ntmps61
  go_wp2_with fail
  go_ret
  exact ⟨rfl, rfl⟩

theorem round_none (g k : Nat) (w : World) (h : RatAt w g 0 k) :
    Calls Tryd.prog 68 #[.pointer (some ⟨g, 0, none⟩), .int .i64 2] w fun e w' => Below w.heap.size w w' ∧ e = .returned (.float .f64 0) := by
  have HH := Lib.hid h
  clear h
  go_enter Tryd.func68, Tryd.ntmps68
  go_wp2_with fail
  refine (float_nil g k w HH.out).mono ?_
  rintro e w1 ⟨hb1, ex, rfl⟩
  have C := Lib.hid (ratsign_z g k 0 w1 (HH.out.below hb1) (by decide))
  go_wp2_with fail
  refine C.out.mono ?_
  rintro e wx ⟨rfl, rfl⟩
  go_wp2_with fail
  go_ret
  exact ⟨hb1, rfl⟩

/-- The ratio of the float that was found is just as great. -/
theorem near_same (g g2 k V : Nat) (a : Nat) (w : World) (h : RatAt w g (a : Int) k) (h2 : RatIs w g2 ((fltA V : Nat) : Int) (fltK V)) (hV : V < 9218868437227405312) (hex : ((fltA V : Nat) : Int) * ((2 ^ k : Nat) : Int) = (a : Int) * ((2 ^ fltK V : Nat) : Int)) (ha : wc a ≤ 20000) (hk : k ≤ 20000) :
    Calls Tryd.prog 100 #[.pointer (some ⟨g2, 0, none⟩), .pointer (some ⟨g, 0, none⟩)] w fun e w' => Below w.heap.size w w' ∧ e = .returned (.int .i64 0) := by
  obtain ⟨a2, j2, r2, e2, l2, l3, _, p2⟩ := h2
  obtain ⟨⟨n, hn, hA⟩, hK⟩ := flt_bounds V hV
  have p2' := p2 (Int.natCast_nonneg _)
  have hlt : a2.natAbs < 2 ^ n := Nat.lt_of_le_of_lt l2 hA
  have hw2 := wc_of_lt hlt
  have hprod : (a2 * ((2 ^ k : Nat) : Int)).natAbs < 2 ^ (n + k) := by
    rw [Int.natAbs_mul, Int.natAbs_natCast, Nat.pow_add]
    exact Nat.mul_lt_mul_of_pos_right hlt (Nat.two_pow_pos k)
  have hw3 := wc_of_lt hprod
  refine ratcmp_same g2 g j2 k a2 (a : Int) w r2 h p2' (Int.natCast_nonneg _) ?_ (by omega) (by rw [Int.natAbs_natCast]; exact ha) (by omega) (by omega) (by omega)
  have hpos : (0 : Int) < ((2 ^ fltK V : Nat) : Int) := by have := Nat.two_pow_pos (fltK V); omega
  refine Int.eq_of_mul_eq_mul_right (Int.ne_of_gt hpos) ?_
  rw [pow_cast, pow_cast] at e2
  calc a2 * ((2 ^ k : Nat) : Int) * ((2 ^ fltK V : Nat) : Int) = (a2 * ((2 ^ fltK V : Nat) : Int)) * ((2 ^ k : Nat) : Int) := by grind
    _ = ((fltA V : Nat) : Int) * ((2 ^ j2 : Nat) : Int) * ((2 ^ k : Nat) : Int) := by rw [e2]
    _ = (((fltA V : Nat) : Int) * ((2 ^ k : Nat) : Int)) * ((2 ^ j2 : Nat) : Int) := by grind
    _ = (a : Int) * ((2 ^ fltK V : Nat) : Int) * ((2 ^ j2 : Nat) : Int) := by rw [hex]
    _ = (a : Int) * ((2 ^ j2 : Nat) : Int) * ((2 ^ fltK V : Nat) : Int) := by grind

set_option maxRecDepth 100000 in
set_option maxHeartbeats 2000000 in
theorem round_low (g k a V : Nat) (w : World) (h : RatAt w g (a : Int) k) (h0 : 0 < a) (hal : a < 2 ^ 20000) (ha : wc a ≤ 20000) (hk : k ≤ 20000) (hVe : Hid (PL.rungOf Ieee.double a (-(k : Int)) = V)) (hV0 : 0 < V) (hV : V < 9218868437227405312) (hex : Hid (((fltA V : Nat) : Int) * ((2 ^ k : Nat) : Int) = (a : Int) * ((2 ^ fltK V : Nat) : Int))) :
    Calls Tryd.prog 68 #[.pointer (some ⟨g, 0, none⟩), .int .i64 2] w fun e w' => Below w.heap.size w w' ∧ e = .returned (.float .f64 V) := by
  have HH := Lib.hid h
  have C0 := float_more g k (a : Int) w h (by omega) (by rw [Int.natAbs_natCast]; exact hal) hk
  have hfw : fltW (a : Int) k = V := by
    unfold fltW
    rw [if_neg (by omega), Int.natAbs_natCast, Nat.zero_add]
    exact hVe.out
  rw [hfw] at C0
  have CF := Lib.hid C0
  have CS := Lib.hid (fun w' hb => ratsign_z g k (a : Int) w' (h.below hb) (by rw [Int.natAbs_natCast]; omega))
  rw [Int.sign_eq_one_of_pos (by omega)] at CS
  have z0 := eq_zero V (by omega)
  rw [rung_small V (by omega), decide_eq_false (show ¬ V = 0 by omega)] at z0
  have CN := Lib.hid (fun w' g2 hb h2 => near_same g g2 k V a w' (h.below hb) h2 hV hex.out ha hk)
  have CR := Lib.hid (fun w' => rat_pos V w' hV)
  have CI := Lib.hid (isinf_pos V hV)
  have CJ := Lib.hid (isinf_neg V hV0 hV)
  clear h hal ha hk hfw C0 hV0 hV h0
  go_enter Tryd.func68, Tryd.ntmps68
  go_wp2_with fail
  refine CF.out.mono ?_
  rintro e w1 ⟨hb1, ex, rfl⟩
  go_wp2_with fail
  refine (CS.out w1 hb1).mono ?_
  rintro e wx ⟨rfl, rfl⟩
  go_wp2_with fail
  refine (CI.out wx).mono ?_
  rintro e wy ⟨rfl, rfl⟩
  go_wp2_with fail
  refine (CJ.out wy).mono ?_
  rintro e wz ⟨rfl, rfl⟩
  go_wp2_with fail
  refine (CR.out wz).mono ?_
  rintro e w2 ⟨rfl, hb2, hr2⟩
  have hb02 := hb1.trans (hb2.mono hb1.size)
  have HB02 := Lib.hid hb02
  have CN2 := Lib.hid (CN.out w2 _ hb02 hr2)
  clear hb02 hr2 hb2
  go_wp2_with fail
  refine CN2.out.mono ?_
  rintro e w3 ⟨hb3, rfl⟩
  have HB03 := Lib.hid (HB02.out.trans (hb3.mono HB02.out.size))
  clear hb3 CN2 HB02
  go_wp2_with fail
  refine (CR.out w3).mono ?_
  rintro e w4 ⟨rfl, hb4, hr4⟩
  have hb04 := HB03.out.trans (hb4.mono HB03.out.size)
  have HB04 := Lib.hid hb04
  have CN4 := Lib.hid (CN.out w4 _ hb04 hr4)
  clear hb04 hr4 hb4
  go_wp2_with fail
  refine CN4.out.mono ?_
  rintro e w5 ⟨hb5, rfl⟩
  have HB05 := Lib.hid (HB04.out.trans (hb5.mono HB04.out.size))
  clear hb5 CN4 HB04
  go_wp2_with fail
  go_ret
  exact ⟨HB05.out, rfl⟩
end Go.Proofs.YtjjfkidddjcdcaaDoor
