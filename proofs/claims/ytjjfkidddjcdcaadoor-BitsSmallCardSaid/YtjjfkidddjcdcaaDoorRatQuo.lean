/- Proved here: the contract of package enclosurebig's Rat.Quo (by a ratio whose upper part is a power of two) at this program. Conditions: as the theorem says. -/
import Derived.Test.YtjjfkidddjcdcaaDoorRatMul
namespace Go.Proofs.YtjjfkidddjcdcaaDoor
open Go.ChangeShapes Go.WideShapes Go.ChangeAt Go.RowKit

set_option maxRecDepth 100000 in
set_option maxHeartbeats 4000000 in
theorem ratquo_z (g gx gy kx ky s : Nat) (x : Int) (w : World) (hz1 : At w g 0 0) (hz2 : At w g 2 0) (hx : RatAt w gx x kx) (hy : RatAt w gy ((2 ^ s : Nat) : Int) ky) (h1 : wc x.natAbs ≤ 20000) (h3 : wc (x * ((2 ^ ky : Nat) : Int)).natAbs ≤ 50000) (hk1 : kx ≤ 300000) (hk2 : ky ≤ 300000) (hk3 : s ≤ 300000) :
    Calls Tryd.prog 74 #[.pointer (some ⟨g, 0, none⟩), .pointer (some ⟨gx, 0, none⟩), .pointer (some ⟨gy, 0, none⟩)] w fun e w' => e = .returned (.pointer (some ⟨g, 0, none⟩)) ∧ RatPut w w' g (x * ((2 ^ ky : Nat) : Int)) (kx + s) := by
  have HZ1 := Lib.hid hz1
  have HZ2 := Lib.hid hz2
  have HX := Lib.hid hx
  have HY := Lib.hid hy
  have M1 := Lib.hid (fun wq b hb hz hge => mul_new w wq b gx 0 gy 2 x _ hx.1 hy.2 (by omega) (by show wc (2 ^ ky) ≤ 50000; rw [wc_pow]; omega) hb hz hge)
  have M2 := Lib.hid (fun wq b hb hz hge => mul_new w wq b gx 2 gy 0 _ _ hx.2 hy.1 (by show wc (2 ^ kx) ≤ 50000; rw [wc_pow]; omega) (by show wc (2 ^ s) ≤ 50000; rw [wc_pow]; omega) hb hz hge)
  rw [show ((2 ^ kx : Nat) : Int) * ((2 ^ s : Nat) : Int) = ((2 ^ (kx + s) : Nat) : Int) by rw [← Int.natCast_mul, ← Nat.pow_add]] at M2
  have SF := Lib.hid (fun wq ga gb h1 h2 ha hb => setfrac_z g ga 0 gb 0 (kx + s) 0 0 (x * ((2 ^ ky : Nat) : Int)) wq h1 h2 ha hb h3 (by omega))
  have zA := At.zero w
  have zB2 := At.zero (w.alloc (Obj.cells #[.bool false, .slice none 0 0] 101))
  have zB1 := zA.below (below_new _ (Obj.cells #[.bool false, .slice none 0 0] 101))
  have kA : Below w.heap.size w (w.alloc (Obj.cells #[.bool false, .slice none 0 0] 101)) := below_new w _
  have kB : Below w.heap.size w ((w.alloc (Obj.cells #[.bool false, .slice none 0 0] 101)).alloc (Obj.cells #[.bool false, .slice none 0 0] 101)) := kA.alloc kA.size _
  rw [show (w.alloc (Obj.cells #[.bool false, .slice none 0 0] 101)).heap.size = w.heap.size + 1 by simp] at zB2
  have ZA := Lib.hid zA.drew
  have ZB1 := Lib.hid zB1.drew
  have ZB2 := Lib.hid zB2.drew
  have KW := Lib.hid (Below.refl w.heap.size w).drew
  have KA := Lib.hid kA.drew
  have KB := Lib.hid kB.drew
  have tok1 : True := trivial
  have tok2 : True := trivial
  clear zA zB1 zB2 kA kB hz1 hz2 hx hy h1 h3
  generalize x * ((2 ^ ky : Nat) : Int) = xy at *
  go_enter Tryd.func74, Tryd.ntmps74
  go_wp2_with fail
  go_region_with (first | (go_at_call 102; have _t := tok1; clear tok1; refine (M1.out _ _ (by first | exact KA.out | exact KB.out) (by first | exact ZA.out | exact ZB1.out | exact ZB2.out) (by first | exact Nat.le_refl _ | omega)).mono ?_; rintro e w1 ⟨rfl, hb1, ha1, hk1⟩) | (go_at_call 102; refine (M2.out _ _ (by first | exact hb1 | exact hb1.alloc hb1.size _) (by first | exact hk1 _ _ (by omega) ZB2.out | exact hk1 _ _ (by omega) ZB1.out | exact At.zero _) (by first | exact Nat.le_refl _ | exact hb1.size | omega)).mono ?_; rintro e w2 ⟨rfl, hb2, ha2, hk2⟩) | (go_at_call 103; have _t := tok2; clear tok2; refine (den_z gy ky _ _ (HY.out.below (by first | exact KW.out | exact KA.out | exact KB.out))).mono ?_; rintro e wq ⟨rfl, rfl⟩) | (go_at_call 103; refine (den_z gx kx x _ (HX.out.below (by first | exact hb1 | exact hb1.alloc hb1.size _))).mono ?_; rintro e wq ⟨rfl, rfl⟩) | (go_at_call 101; refine (SF.out _ _ _ (HZ1.out.below hb2) (HZ2.out.below hb2) (by first | exact hk2 _ _ (by omega) ha1 | exact hk2 _ _ (by have := hb1.size; have := ha1.lt; omega) (ha1.below (below_new _ _))) ha2).mono ?_; rintro e w3 ⟨rfl, hP⟩))
  all_goals (go_wp2_with fail; go_ret; exact ⟨rfl, hP.from hb2⟩)
end Go.Proofs.YtjjfkidddjcdcaaDoor
