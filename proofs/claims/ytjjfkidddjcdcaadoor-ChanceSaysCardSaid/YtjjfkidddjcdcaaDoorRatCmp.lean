/- Proved here: the contract of package enclosurebig's Rat.Cmp (of equal ratios over powers of two, not below 0) at this program. Conditions: as the theorem says. (Printed by tools/gen_ratcmp.py.) -/
import Derived.Test.YtjjfkidddjcdcaaDoorPow2
import Derived.Test.YtjjfkidddjcdcaaDoorNewInts
namespace Go.Proofs.YtjjfkidddjcdcaaDoor
open Go.ChangeShapes Go.WideShapes Go.ChangeAt Go.RowKit

theorem cmpN_self (u : Nat) : cmpN u u = 0 := by
  unfold cmpN
  rw [if_neg (by omega), if_neg (by omega)]
theorem cmpN_ne {u v : Nat} (h : u ≠ v) : cmpN u v ≠ 0 := by
  unfold cmpN
  split
  · decide
  · rw [if_pos (by omega)]; decide

theorem pow_ne {m n : Nat} (h : m ≠ n) : 2 ^ m ≠ 2 ^ n := by
  rcases Nat.lt_or_gt_of_ne h with h | h
  · exact Nat.ne_of_lt (Nat.pow_lt_pow_right (by omega) h)
  · exact (Nat.ne_of_lt (Nat.pow_lt_pow_right (by omega) h)).symm

set_option maxRecDepth 100000 in
set_option maxHeartbeats 8000000 in
theorem ratcmp_same (gx gy kx ky : Nat) (x y : Int) (w : World) (hx : RatAt w gx x kx) (hy : RatAt w gy y ky) (hx0 : 0 ≤ x) (hy0 : 0 ≤ y) (he : x * ((2 ^ ky : Nat) : Int) = y * ((2 ^ kx : Nat) : Int)) (h1 : wc x.natAbs ≤ 20000) (h2 : wc y.natAbs ≤ 20000) (h3 : wc (x * ((2 ^ ky : Nat) : Int)).natAbs ≤ 50000) (hk1 : kx ≤ 300000) (hk2 : ky ≤ 300000) :
    Calls Tryd.prog 100 #[.pointer (some ⟨gx, 0, none⟩), .pointer (some ⟨gy, 0, none⟩)] w fun e w' => Below w.heap.size w w' ∧ e = .returned (.int .i64 0) := by
  have HX := Lib.hid hx
  have HY := Lib.hid hy
  have wx2 : wc ((2 ^ kx : Nat) : Int).natAbs ≤ 50000 := by show wc (2 ^ kx) ≤ 50000; rw [wc_pow]; omega
  have wy2 : wc ((2 ^ ky : Nat) : Int).natAbs ≤ 50000 := by show wc (2 ^ ky) ≤ 50000; rw [wc_pow]; omega
  have CD := Lib.hid (cmp_z gx 2 gy 2 _ _ w hx.2 hy.2 (Int.natCast_nonneg _) (Int.natCast_nonneg _) wx2 wy2)
  rw [Int.natAbs_natCast, Int.natAbs_natCast] at CD
  by_cases hk : kx = ky
  · subst hk
    have hxy : x = y := Int.eq_of_mul_eq_mul_right (by have := Nat.two_pow_pos kx; omega) he
    subst hxy
    rw [cmpN_self] at CD
    have CA := Lib.hid (fun w' hb => cmp_z gx 0 gy 0 x x w' (hx.1.below hb) (hy.1.below hb) hx0 hx0 (by omega) (by omega))
    rw [cmpN_self] at CA
    clear hx hy he h1 h2 h3 wx2 wy2
    go_enter Tryd.func100, Tryd.ntmps100
    go_wp2_with fail
    refine (den_z gx kx x w HX.out).mono ?_
    rintro e wa ⟨rfl, rfl⟩
    go_wp2_with fail
    refine (den_z gy kx x wa HY.out).mono ?_
    rintro e wb ⟨rfl, rfl⟩
    go_wp2_with fail
    refine CD.out.mono ?_
    rintro e w1 ⟨hb1, rfl⟩
    have hd1 : Below wb.heap.size wb w1.drew := hb1.drew
    go_wp2_with fail
    go_region_with (go_at_call 80; refine (CA.out _ hd1).mono ?_; rintro e w2 ⟨hb2, rfl⟩)
    go_wp2_with fail
    go_ret
    exact ⟨hd1.trans (hb2.mono hd1.size), rfl⟩
  · have hne : cmpN (2 ^ kx) (2 ^ ky) ≠ 0 := cmpN_ne (pow_ne hk)
    obtain ⟨cv, hcv⟩ : ∃ cv, cmpN (2 ^ kx) (2 ^ ky) = cv := ⟨_, rfl⟩
    rw [hcv] at hne CD
    have z : (cv == 0) = false := by simpa using hne
    clear hcv hne hk
    have hp1 : 0 ≤ x * ((2 ^ ky : Nat) : Int) := Int.mul_nonneg hx0 (Int.natCast_nonneg _)
    have CM := Lib.hid (fun w' b1 b2 (q1 : At w' b1 0 (x * ((2 ^ ky : Nat) : Int))) (q2 : At w' b2 0 (y * ((2 ^ kx : Nat) : Int))) => cmp_z b1 0 b2 0 _ _ w' q1 q2 hp1 (he ▸ hp1) h3 (he ▸ h3))
    rw [← he, cmpN_self] at CM
    go_enter Tryd.func100, Tryd.ntmps100
    go_wp2_with fail
    refine (den_z gx kx x w HX.out).mono ?_
    rintro e wa ⟨rfl, rfl⟩
    go_wp2_with fail
    refine (den_z gy ky y wa HY.out).mono ?_
    rintro e wb ⟨rfl, rfl⟩
    go_wp2_with fail
    refine CD.out.mono ?_
    rintro e wc' ⟨hb0, rfl⟩
    obtain ⟨w0, hw0⟩ : ∃ w0, w0 = wc' := ⟨_, rfl⟩
    subst hw0
    have HXX := hx.below hb0
    have HYY := hy.below hb0
    have M1 := Lib.hid (fun wq b hb hz hge => mul_nw w0 wq b gx 0 gy 2 x _ HXX.1 HYY.2 (by omega) wy2 hb hz hge)
    have M2 := Lib.hid (fun wq b hb hz hge => mul_nw w0 wq b gy 0 gx 2 y _ HYY.1 HXX.2 (by omega) wx2 hb hz hge)
    rw [← he] at M2
    have HX := Lib.hid HXX
    have HY := Lib.hid HYY
    have HB0 := Lib.hid hb0
    have KD0 := Lib.hid (Below.refl w0.heap.size w0).drew
    have KD1 := Lib.hid (below_up (Below.refl w0.heap.size w0)).drew
    have KD2 := Lib.hid (below_up (below_up (Below.refl w0.heap.size w0))).drew
    have tok1 : True := trivial
    have tok2 : True := trivial
    clear hx hy h1 h2 h3 wx2 wy2 hx0 hy0 hp1 he hb0 HXX HYY CD
    generalize x * ((2 ^ ky : Nat) : Int) = X at *
    go_wp2_with fail
    as_aux_lemma =>
      go_region_with (first
        | (go_at_call 103; have _t := tok1; clear tok1; refine (den_z gy ky y _ (HY.out.below (by (first | (with_reducible exact KD0.out) | (with_reducible exact KD1.out) | (with_reducible exact KD2.out))))).mono ?_; rintro e wq ⟨rfl, rfl⟩)
        | (go_at_call 102; have _t := tok2; clear tok2; refine (M1.out _ _ ?hb ?hz ?hg).mono ?_; (case hb => (first | (with_reducible exact KD0.out) | (with_reducible exact KD1.out) | (with_reducible exact KD2.out))); (case hz => (first | (with_reducible refine (zero_new ?q).drew; (case q => simp; done)) | (with_reducible refine ((zero_new ?q).up).drew; (case q => simp; done)))); (case hg => (first | (exact Nat.le_refl _) | (omega))); rintro e w1 ⟨⟨rfl, hb1, ha1, hk1⟩, s1⟩; (try simp at s1))
        | (go_at_call 103; refine (den_z gx kx x _ (HX.out.below (by (first | (with_reducible exact hb1) | (with_reducible exact below_up hb1))))).mono ?_; rintro e wq ⟨rfl, rfl⟩)
        | (go_at_call 102; refine (M2.out _ _ ?hb ?hz ?hg).mono ?_; (case hb => (first | (with_reducible exact hb1) | (with_reducible exact below_up hb1))); (case hz => (first | (with_reducible refine zero_new ?q; (case q => simp; done)) | (with_reducible refine hk1 _ _ ?ne ((zero_new ?q).drew); (case ne => omega); (case q => simp; done)) | (with_reducible refine hk1 _ _ ?ne (((zero_new ?q).up).drew); (case ne => omega); (case q => simp; done)))); (case hg => (first | (exact Nat.le_refl _) | (omega))); rintro e w2 ⟨⟨rfl, hb2, ha2, hk2⟩, s2⟩; (try simp at s2))
        | (go_at_call 80; refine (CM.out _ _ _ ?q1 ?q2).mono ?_; (case q1 => (first | (with_reducible refine hk2 _ _ ?ne (ha1); (case ne => omega)) | (with_reducible refine hk2 _ _ ?ne ((ha1).up); (case ne => omega)))); (case q2 => exact ha2); rintro e w3 ⟨hb3, rfl⟩; have b3 := hb2.trans (hb3.mono hb2.size)))
      all_goals (go_wp2_with fail; go_ret; exact ⟨HB0.out.trans (b3.mono HB0.out.size), rfl⟩)
end Go.Proofs.YtjjfkidddjcdcaaDoor
