/- Proved here: contracts of package enclosurebig's Rat.SetInt64, Rat.SetInt, Rat.Mul at this program. Conditions: as each theorem says. -/
import Derived.Test.YtjjfkidddjcdcaaDoorRatSet
namespace Go.Proofs.YtjjfkidddjcdcaaDoor
open Go.ChangeShapes Go.WideShapes Go.ChangeAt Go.RowKit

theorem RatPut.from {w w1 w' : World} {g k : Nat} {a : Int} (hb : Below w.heap.size w w1) (h : RatPut w1 w' g a k) : RatPut w w' g a k :=
  ⟨grown_trans (grown_below (grown_refl w (some g)) hb) h.1, h.2⟩

theorem setint64_r (g : Nat) (z1 z2 x : Int) (w : World) (hz1 : At w g 0 z1) (hz2 : At w g 2 z2) (h1 : -9223372036854775808 ≤ x) (h2 : x ≤ 9223372036854775807) :
    Calls Tryd.prog 70 #[.pointer (some ⟨g, 0, none⟩), .int .i64 x] w fun e w' => e = .returned (.pointer (some ⟨g, 0, none⟩)) ∧ RatPut w w' g x 0 := by
  have HZ1 := Lib.hid hz1
  have HZ2 := Lib.hid hz2
  have hw : wc x.natAbs ≤ 50000 := by
    have := wc_le (v := x.natAbs) (n := 2) (by show x.natAbs < 18446744073709551616; omega)
    omega
  have HW := Lib.hid hw
  clear hz1 hz2 hw
  go_enter Tryd.func70, Tryd.ntmps70
  go_wp2_with fail
  refine (newint_z x w h1 h2).mono ?_
  rintro e w1 ⟨hb1, rfl, ha⟩
  generalize hga : w.heap.size = ga at *
  go_wp2_with fail
  refine (newint_z 1 w1 (by omega) (by omega)).mono ?_
  rintro e w2 ⟨hb2, rfl, hb⟩
  have hb02 : Below w.heap.size w w2 := by rw [hga]; exact hb1.trans (hb2.mono (by rw [← hga]; exact hb1.size))
  go_wp2_with fail
  refine (setfrac_z g ga 0 w1.heap.size 0 0 z1 z2 x w2 (HZ1.out.below hb02) (HZ2.out.below hb02) (ha.below hb2) hb HW.out (by omega)).mono ?_
  rintro e w3 ⟨rfl, hP⟩
  go_wp2_with fail
  go_ret
  exact ⟨rfl, hP.from hb02⟩

theorem setint_r (g ga oa : Nat) (z1 z2 x : Int) (w : World) (hz1 : At w g 0 z1) (hz2 : At w g 2 z2) (ha : At w ga oa x) (hs : wc x.natAbs ≤ 50000) :
    Calls Tryd.prog 104 #[.pointer (some ⟨g, 0, none⟩), .pointer (some ⟨ga, oa, none⟩)] w fun e w' => e = .returned (.pointer (some ⟨g, 0, none⟩)) ∧ RatPut w w' g x 0 := by
  have HZ1 := Lib.hid hz1
  have HZ2 := Lib.hid hz2
  have HA := Lib.hid ha
  clear hz1 hz2 ha
  go_enter Tryd.func104, Tryd.ntmps104
  go_wp2_with fail
  refine (newint_z 1 w (by omega) (by omega)).mono ?_
  rintro e w2 ⟨hb2, rfl, hb⟩
  go_wp2_with fail
  refine (setfrac_z g ga oa w.heap.size 0 0 z1 z2 x w2 (HZ1.out.below hb2) (HZ2.out.below hb2) (HA.out.below hb2) hb hs (by omega)).mono ?_
  rintro e w3 ⟨rfl, hP⟩
  go_wp2_with fail
  go_ret
  exact ⟨rfl, hP.from hb2⟩

theorem RatAt.below {w w' : World} {g k : Nat} {a : Int} (h : RatAt w g a k) (hb : Below w.heap.size w w') : RatAt w' g a k := ⟨h.1.below hb, h.2.below hb⟩
theorem At.drew {w : World} {g o : Nat} {z : Int} (h : At w g o z) : At w.drew g o z := h.below (Below.refl _ w).drew

/-- What is put beside b stays, in the words of a product that is made in a new Int. -/
def MulNew (w wc : World) (b : Nat) (z : Int) (e : Ending) (w' : World) : Prop :=
  e = .returned (.pointer (some ⟨b, 0, none⟩)) ∧ Below w.heap.size w w' ∧ At w' b 0 z ∧ (∀ b' y, b' ≠ b → At wc b' 0 y → At w' b' 0 y)

theorem mul_new (w wc : World) (b gx ox gy oy : Nat) (x y : Int) (hx : At w gx ox x) (hy : At w gy oy y) (h1 : Go.Proofs.YtjjfkidddjcdcaaDoor.wc x.natAbs ≤ 50000) (h2 : Go.Proofs.YtjjfkidddjcdcaaDoor.wc y.natAbs ≤ 50000)
    (hb : Below w.heap.size w wc) (hz : At wc b 0 0) (hge : w.heap.size ≤ b) :
    Calls Tryd.prog 102 #[.pointer (some ⟨b, 0, none⟩), .pointer (some ⟨gx, ox, none⟩), .pointer (some ⟨gy, oy, none⟩)] wc (MulNew w wc b (x * y)) := by
  have l1 := hx.lt
  have l2 := hy.lt
  refine (mul_z b 0 gx ox gy oy 0 x y wc hz (hx.below hb) (hy.below hb) (by omega) (by omega) h1 h2).mono ?_
  rintro e w' ⟨rfl, hP⟩
  exact ⟨rfl, hP.below hb hge hb.size, hP.at_, fun b' y' hne h => h.put hz hP (by omega)⟩

set_option maxRecDepth 100000 in
set_option maxHeartbeats 2000000 in
theorem ratmul_z (g gx gy kx ky : Nat) (z1 z2 x y : Int) (w : World) (hz1 : At w g 0 z1) (hz2 : At w g 2 z2) (hx : RatAt w gx x kx) (hy : RatAt w gy y ky) (h1 : wc x.natAbs ≤ 20000) (h2 : wc y.natAbs ≤ 20000) (h3 : wc (x * y).natAbs ≤ 50000) (hk1 : kx ≤ 300000) (hk2 : ky ≤ 300000) :
    Calls Tryd.prog 69 #[.pointer (some ⟨g, 0, none⟩), .pointer (some ⟨gx, 0, none⟩), .pointer (some ⟨gy, 0, none⟩)] w fun e w' => e = .returned (.pointer (some ⟨g, 0, none⟩)) ∧ RatPut w w' g (x * y) (kx + ky) := by
  have HZ1 := Lib.hid hz1
  have HZ2 := Lib.hid hz2
  have HX := Lib.hid hx
  have HY := Lib.hid hy
  have M1 := Lib.hid (fun wq b hb hz hge => mul_new w wq b gx 0 gy 0 x y hx.1 hy.1 (by omega) (by omega) hb hz hge)
  have M2 := Lib.hid (fun wq b hb hz hge => mul_new w wq b gx 2 gy 2 _ _ hx.2 hy.2 (by show wc (2 ^ kx) ≤ 50000; rw [wc_pow]; omega) (by show wc (2 ^ ky) ≤ 50000; rw [wc_pow]; omega) hb hz hge)
  rw [show ((2 ^ kx : Nat) : Int) * ((2 ^ ky : Nat) : Int) = ((2 ^ (kx + ky) : Nat) : Int) by rw [← Int.natCast_mul, ← Nat.pow_add]] at M2
  have SF := Lib.hid (fun wq ga gb h1 h2 ha hb => setfrac_z g ga 0 gb 0 (kx + ky) z1 z2 (x * y) wq h1 h2 ha hb h3 (by omega))
  have zA := At.zero w
  have zB2 := At.zero (w.alloc (Obj.cells #[.bool false, .slice none 0 0] 101))
  have zB1 := zA.below (below_new _ (Obj.cells #[.bool false, .slice none 0 0] 101))
  have kA : Below w.heap.size w (w.alloc (Obj.cells #[.bool false, .slice none 0 0] 101)) := below_new w _
  have kB : Below w.heap.size w ((w.alloc (Obj.cells #[.bool false, .slice none 0 0] 101)).alloc (Obj.cells #[.bool false, .slice none 0 0] 101)) := kA.alloc kA.size _
  rw [show (w.alloc (Obj.cells #[.bool false, .slice none 0 0] 101)).heap.size = w.heap.size + 1 by simp] at zB2
  have ZA := Lib.hid zA.drew
  have ZB1 := Lib.hid zB1.drew
  have ZB2 := Lib.hid zB2.drew
  have KA := Lib.hid kA.drew
  have KB := Lib.hid kB.drew
  have tok1 : True := trivial
  have tok2 : True := trivial
  clear zA zB1 zB2 kA kB hz1 hz2 hx hy h1 h2 h3
  generalize x * y = xy at *
  go_enter Tryd.func69, Tryd.ntmps69
  go_wp2_with fail
  go_region_with (first | (go_at_call 102; have _t := tok1; clear tok1; refine (M1.out _ _ (by first | exact KA.out | exact KB.out) (by first | exact ZA.out | exact ZB1.out | exact ZB2.out) (by first | exact Nat.le_refl _ | omega)).mono ?_; rintro e w1 ⟨rfl, hb1, ha1, hk1⟩) | (go_at_call 102; refine (M2.out _ _ (by first | exact hb1 | exact hb1.alloc hb1.size _) (by first | exact hk1 _ _ (by omega) ZB2.out | exact hk1 _ _ (by omega) ZB1.out | exact At.zero _) (by first | exact Nat.le_refl _ | exact hb1.size | omega)).mono ?_; rintro e w2 ⟨rfl, hb2, ha2, hk2⟩) | (go_at_call 103; have _t := tok2; clear tok2; refine (den_z gx kx x _ (HX.out.below (by first | exact hb1 | exact hb1.alloc hb1.size _))).mono ?_; rintro e wq ⟨rfl, rfl⟩) | (go_at_call 103; refine (den_z gy ky y _ (HY.out.below (by first | exact hb1 | exact hb1.alloc hb1.size _))).mono ?_; rintro e wq ⟨rfl, rfl⟩) | (go_at_call 101; refine (SF.out _ _ _ (HZ1.out.below hb2) (HZ2.out.below hb2) (by first | exact hk2 _ _ (by omega) ha1 | exact hk2 _ _ (by have := hb1.size; have := ha1.lt; omega) (ha1.below (below_new _ _))) ha2).mono ?_; rintro e w3 ⟨rfl, hP⟩))
  all_goals (go_wp2_with fail; go_ret; exact ⟨rfl, hP.from hb2⟩)
end Go.Proofs.YtjjfkidddjcdcaaDoor
