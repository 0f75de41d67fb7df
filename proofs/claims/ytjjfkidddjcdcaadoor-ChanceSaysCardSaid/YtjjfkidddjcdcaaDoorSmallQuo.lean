/- Proved here: the contract of package enclosurebig's Rat.Quo (by a ratio whose upper part is a power of two) at this program. Conditions: as the theorem says.
   Proved here: the contract of the document's nearInt (of a ratio that is not below 0, over a power of two) at this program. Conditions: as the theorem says.
   Proved here: plain facts on the word of a small format that the document's Small gives; no program in sight. Conditions: as each theorem says.
   Proved here: the quotient in the document's Small at this program. Conditions: as each theorem says. -/
import Derived.Test.YtjjfkidddjcdcaaDoorRatMul
import Derived.Test.YtjjfkidddjcdcaaDoorRatOf
import Derived.Test.YtjjfkidddjcdcaaDoorOdd
namespace Go.Proofs.YtjjfkidddjcdcaaDoor
open Go.ChangeShapes Go.WideShapes Go.ChangeAt Go.RowKit

set_option maxRecDepth 100000 in
set_option maxHeartbeats 4000000 in
theorem ratquo_z (g gx gy kx ky s : Nat) (x : Int) (w : World) (hz1 : At w g 0 0) (hz2 : At w g 2 0) (hx : RatAt w gx x kx) (hy : RatAt w gy ((2 ^ s : Nat) : Int) ky) (h1 : wc x.natAbs ≤ 20000) (h3 : wc (x * ((2 ^ ky : Nat) : Int)).natAbs ≤ 50000) (hk1 : kx ≤ 300000) (hk2 : ky ≤ 300000) (hk3 : s ≤ 300000) :
    Calls Tryd.prog 74 #[.pointer (some ⟨g, 0, none⟩), .pointer (some ⟨gx, 0, none⟩), .pointer (some ⟨gy, 0, none⟩)] w fun e w' => e = .returned (.pointer (some ⟨g, 0, none⟩)) ∧ RatPut w w' g (x * ((2 ^ ky : Nat) : Int)) (kx + s) := by
  have HZ1 := Lib.hid hz1
  have HZ2 := Lib.hid hz2
  have HX := Lib.hid hx
  have HY := Lib.hid hy
  have M1 := Lib.hid (fun wq b hb hz hge => mul_new w wq b gx 0 gy 2 x _ hx.1 hy.2 (by omega) (by show wc (2 ^ ky) ≤ 50000; rw [wc_pow]; omega) hb hz hge)
  have M2 := Lib.hid (fun wq b hb hz hge => mul_new w wq b gx 2 gy 0 _ _ hx.2 hy.1 (by show wc (2 ^ kx) ≤ 50000; rw [wc_pow]; omega) (by show wc (2 ^ s) ≤ 50000; rw [wc_pow]; omega) hb hz hge)
  rw [show ((2 ^ kx : Nat) : Int) * ((2 ^ s : Nat) : Int) = ((2 ^ (kx + s) : Nat) : Int) by rw [← Int.natCast_mul, ← Nat.pow_add]] at M2
  have SF := Lib.hid (fun wq ga gb h1 h2 ha hb => setfrac_z g ga 0 gb 0 (kx + s) 0 0 (x * ((2 ^ ky : Nat) : Int)) wq h1 h2 ha hb h3 (by omega))
  have zA := At.zero w
  have zB2 := At.zero (w.alloc (Obj.cells #[.bool false, .slice none 0 0] 101))
  have zB1 := zA.below (below_new _ (Obj.cells #[.bool false, .slice none 0 0] 101))
  have kA : Below w.heap.size w (w.alloc (Obj.cells #[.bool false, .slice none 0 0] 101)) := below_new w _
  have kB : Below w.heap.size w ((w.alloc (Obj.cells #[.bool false, .slice none 0 0] 101)).alloc (Obj.cells #[.bool false, .slice none 0 0] 101)) := kA.alloc kA.size _
  rw [show (w.alloc (Obj.cells #[.bool false, .slice none 0 0] 101)).heap.size = w.heap.size + 1 by simp] at zB2
  have ZA := Lib.hid zA.drew
  have ZB1 := Lib.hid zB1.drew
  have ZB2 := Lib.hid zB2.drew
  have KW := Lib.hid (Below.refl w.heap.size w).drew
  have KA := Lib.hid kA.drew
  have KB := Lib.hid kB.drew
  have tok1 : True := trivial
  have tok2 : True := trivial
  clear zA zB1 zB2 kA kB hz1 hz2 hx hy h1 h3
  generalize x * ((2 ^ ky : Nat) : Int) = xy at *
  go_enter Tryd.func74, Tryd.ntmps74
  go_wp2_with fail
  go_region_with (first | (go_at_call 102; have _t := tok1; clear tok1; refine (M1.out _ _ (by first | exact KA.out | exact KB.out) (by first | exact ZA.out | exact ZB1.out | exact ZB2.out) (by first | exact Nat.le_refl _ | omega)).mono ?_; rintro e w1 ⟨rfl, hb1, ha1, hk1⟩) | (go_at_call 102; refine (M2.out _ _ (by first | exact hb1 | exact hb1.alloc hb1.size _) (by first | exact hk1 _ _ (by omega) ZB2.out | exact hk1 _ _ (by omega) ZB1.out | exact At.zero _) (by first | exact Nat.le_refl _ | exact hb1.size | omega)).mono ?_; rintro e w2 ⟨rfl, hb2, ha2, hk2⟩) | (go_at_call 103; have _t := tok2; clear tok2; refine (den_z gy ky _ _ (HY.out.below (by first | exact KW.out | exact KA.out | exact KB.out))).mono ?_; rintro e wq ⟨rfl, rfl⟩) | (go_at_call 103; refine (den_z gx kx x _ (HX.out.below (by first | exact hb1 | exact hb1.alloc hb1.size _))).mono ?_; rintro e wq ⟨rfl, rfl⟩) | (go_at_call 101; refine (SF.out _ _ _ (HZ1.out.below hb2) (HZ2.out.below hb2) (by first | exact hk2 _ _ (by omega) ha1 | exact hk2 _ _ (by have := hb1.size; have := ha1.lt; omega) (ha1.below (below_new _ _))) ha2).mono ?_; rintro e w3 ⟨rfl, hP⟩))
  all_goals (go_wp2_with fail; go_ret; exact ⟨rfl, hP.from hb2⟩)
end Go.Proofs.YtjjfkidddjcdcaaDoor

namespace Go.Proofs.YtjjfkidddjcdcaaDoor
open Go.ChangeShapes Go.WideShapes Go.ChangeAt Go.RowKit

set_option maxRecDepth 100000 in
set_option maxHeartbeats 1000000 in
theorem nearint_z (g n k : Nat) (w : World) (h : RatAt w g (n : Int) k) (hn : wc n ≤ 10000) (hk : k ≤ 300000) :
    Calls Tryd.prog 76 #[.pointer (some ⟨g, 0, none⟩)] w fun e w' => Below w.heap.size w w' ∧ ∃ gz, e = .returned (.pointer (some ⟨gz, 0, none⟩)) ∧ At w' gz 0 ((PL.rneG n (2 ^ k) : Nat) : Int) := by
  have HH := Lib.hid h
  have hlt := h.1.lt
  have hF : Fair (2 ^ k) := ⟨Nat.two_pow_pos k, by rw [wc_pow]; omega, .inr ⟨k, rfl⟩⟩
  have HFa := Lib.hid hF
  have hwd : wc (2 ^ k) ≤ 10000 := by rw [wc_pow]; omega
  have HUp := Lib.hid (round_up n (2 ^ k))
  have hr2 : wc (n % 2 ^ k * 2 ^ 1) ≤ 20000 := by
    have h1 : n % 2 ^ k < 2 ^ k := Nat.mod_lt _ (Nat.two_pow_pos k)
    have h2 := wc_shift 1 1 h1 (Nat.le_refl _)
    rw [wc_pow] at hwd
    omega
  have hrb : wc (n % 2 ^ k) ≤ 20000 := Nat.le_trans (wc_mono (Nat.mod_le n _)) (by omega)
  have hqb : wc (n / 2 ^ k) ≤ 20000 := Nat.le_trans (wc_mono (Nat.div_le_self n _)) (by omega)
  clear h hF
  obtain ⟨d, hd⟩ : ∃ d, 2 ^ k = d := ⟨_, rfl⟩
  have HDe := Lib.hid hd
  rw [hd] at HFa hwd HUp hr2 hrb hqb ⊢
  clear hd
  obtain ⟨Q, hQ0⟩ : ∃ Q, PL.rneG n d = Q := ⟨_, rfl⟩
  rw [hQ0] at HUp ⊢
  clear hQ0
  have z0 := At.zero w
  have b0 := below_new w (Obj.cells #[.bool false, .slice none 0 0] 101)
  go_enter Tryd.func76, Tryd.ntmps76
  go_wp2_with fail
  generalize w.alloc (Obj.cells #[.bool false, .slice none 0 0] 101) = w1 at *
  refine (num_z g w1).mono ?_
  rintro e wx ⟨rfl, rfl⟩
  go_wp2_with fail
  refine (denom_z g k (n : Int) wx (HH.out.below b0) (by omega)).mono ?_
  rw [HDe.out]
  rintro e w2 ⟨rfl, hb2, hd2⟩
  have b2 := b0.trans (hb2.mono b0.size)
  have z2 := z0.below hb2
  have hz0 : w.heap.size < wx.heap.size := z0.lt
  generalize hgd : wx.heap.size = gd at *
  have b3 : Below w.heap.size w (w2.alloc (Obj.cells #[.bool false, .slice none 0 0] 101)) := b2.alloc b2.size _
  have k3 := below_new w2 (Obj.cells #[.bool false, .slice none 0 0] 101)
  have z3 := At.zero w2
  have z23 := z2.below k3
  have d3 := hd2.below k3
  have hs2 : gd < w2.heap.size := hd2.lt
  clear hd2 hb2 z0 z2 k3
  go_wp2_with fail
  generalize w2.alloc (Obj.cells #[.bool false, .slice none 0 0] 101) = w3 at *
  generalize hgr : w2.heap.size = gr at *
  refine (quorem_z w.heap.size 0 gr 0 g 0 gd 0 0 0 (n : Int) (d : Int) w3 z23 z3 (HH.out.below b3).1 d3 (by omega) (by omega) (Nat.le_trans hn (by omega)) HFa.out (by omega)).mono ?_
  rintro e w4 ⟨rfl, wn, wm, hbn, hP, hP2⟩
  have hzn := z23.below hbn
  have hrn := z3.below hbn
  have hbm : Below w.heap.size w wm := hP.below (b3.trans (hbn.mono b3.size)) (Nat.le_refl _) (Nat.le_trans b3.size hbn.size)
  have hq4 : At w4 w.heap.size 0 ((n / d : Nat) : Int) := At.put hP.at_ (hrn.put hzn hP (by omega)) hP2 (by omega)
  have hr4 : At w4 gr 0 ((n % d : Nat) : Int) := hP2.at_
  have hb4 : Below w.heap.size w w4 := hP2.below hbm (by omega) hbm.size
  clear hP hP2 hzn hrn hbm hbn b2 z23 z3 d3
  obtain ⟨q, hq⟩ : ∃ q, n / d = q := ⟨_, rfl⟩
  obtain ⟨r, hr⟩ : ∃ r, n % d = r := ⟨_, rfl⟩
  rw [hq] at hq4 HUp hqb
  rw [hr] at hr4 HUp hr2 hrb
  clear hq hr
  have HQ4 := Lib.hid hq4
  have C6 := Lib.hid (lsh_n w4.heap.size 0 gr 0 1 r 0 _ (At.zero w4) (hr4.below (below_new w4 _)) (by omega) (by omega))
  clear hq4 hr4
  go_wp2_with fail
  refine C6.out.mono ?_
  rintro e w5 ⟨rfl, hP⟩
  obtain ⟨hb5, hl5⟩ := new_put hP
  have hb05 := hb4.trans (hb5.mono hb4.size)
  clear hP C6
  go_wp2_with fail
  refine (denom_z g k (n : Int) w5 (HH.out.below hb05) (by omega)).mono ?_
  rw [HDe.out]
  rintro e w6 ⟨rfl, hb6, hd6⟩
  have hl6 := hl5.below hb6
  have hb06 := hb05.trans (hb6.mono hb05.size)
  have hq6 := (HQ4.out.below hb5).below hb6
  have C7 := Lib.hid (cmp_z w4.heap.size 0 w5.heap.size 0 _ _ w6 hl6 hd6 (by omega) (by omega) (Nat.le_trans hr2 (by omega)) (Nat.le_trans hwd (by omega)))
  rw [show ((r * 2 ^ 1 : Nat) : Int).natAbs = r * 2 ^ 1 from rfl, show (d : Int).natAbs = d from rfl] at C7
  obtain ⟨cm, hcm⟩ : ∃ cm, cmpN (r * 2 ^ 1) d = cm := ⟨_, rfl⟩
  rw [hcm] at C7 HUp
  clear hcm hl6 hd6 hl5
  go_wp2_with fail
  refine C7.out.mono ?_
  rintro e w7 ⟨hb7, rfl⟩
  have HQ7 := Lib.hid (hq6.below hb7)
  have HB7 := Lib.hid (hb06.trans (hb7.mono hb06.size))
  clear C7 hb7 hb06 hq6 hb05 hb6 hb5 hb4 HQ4
  have C8 := Lib.hid (bit_z w.heap.size 0 (q : Int) w7 HQ7.out (by omega) (by show wc q ≤ 50000; omega))
  rw [show (q : Int).natAbs = q from rfl] at C8
  have hup : (Q = q + 1 ∧ (0 < cm ∨ (cm = 0 ∧ q % 2 = 1))) ∨ (Q = q ∧ (cm < 0 ∨ (cm = 0 ∧ q % 2 = 0))) := by
    rw [HUp.out]
    by_cases h : 0 < cm ∨ (cm = 0 ∧ q % 2 = 1)
    · left; rw [if_pos h]; exact ⟨rfl, h⟩
    · right; rw [if_neg h]; exact ⟨rfl, by omega⟩
  clear HUp
  rcases hup with ⟨hQ, hc⟩ | ⟨rfl, hc⟩
  · have HQe := Lib.hid hQ
    clear hQ
    have fin : Hid (∀ w8 w9, Below w7.heap.size w7 w8 → Puts w8 w9 w.heap.size 0 ((q : Int) + 1) → Below w.heap.size w w9 ∧ At w9 w.heap.size 0 (Q : Int)) := fun w8 w9 h8 h9 => by
      have hb08 := HB7.out.trans (h8.mono HB7.out.size)
      refine ⟨h9.below hb08 (Nat.le_refl _) hb08.size, ?_⟩
      rw [HQe.out]
      exact h9.at_
    rcases hc with hc | ⟨rfl, h2⟩
    · go_wp2_with fail
      refine (newint_z 1 w7 (by omega) (by omega)).mono ?_
      rintro e w8 ⟨hb8, rfl, h8⟩
      have hq8 := HQ7.out.below hb8
      go_wp2_with fail
      refine (add_z w.heap.size 0 w.heap.size 0 w7.heap.size 0 (q : Int) (q : Int) 1 w8 hq8 hq8 h8 (by omega) (by omega) (Nat.le_trans hqb (by omega)) (by decide)).mono ?_
      rintro e w9 ⟨rfl, hP⟩
      obtain ⟨f1, f2⟩ := fin.out w8 w9 hb8 hP
      go_wp2_with fail
      go_ret
      exact ⟨f1, _, rfl, f2⟩
    · rw [h2] at C8
      clear h2
      go_wp2_with fail
      refine C8.out.mono ?_
      rintro e wy ⟨rfl, rfl⟩
      go_wp2_with fail
      refine (newint_z 1 wy (by omega) (by omega)).mono ?_
      rintro e w8 ⟨hb8, rfl, h8⟩
      have hq8 := HQ7.out.below hb8
      go_wp2_with fail
      refine (add_z w.heap.size 0 w.heap.size 0 wy.heap.size 0 (q : Int) (q : Int) 1 w8 hq8 hq8 h8 (by omega) (by omega) (Nat.le_trans hqb (by omega)) (by decide)).mono ?_
      rintro e w9 ⟨rfl, hP⟩
      obtain ⟨f1, f2⟩ := fin.out w8 w9 hb8 hP
      go_wp2_with fail
      go_ret
      exact ⟨f1, _, rfl, f2⟩
  · rcases hc with hc | ⟨rfl, h2⟩
    · have hz : (cm == 0) = false := by simp; omega
      go_wp2_with fail
      go_ret
      exact ⟨HB7.out, _, rfl, HQ7.out⟩
    · rw [h2] at C8
      clear h2
      go_wp2_with fail
      refine C8.out.mono ?_
      rintro e wy ⟨rfl, rfl⟩
      go_wp2_with fail
      go_ret
      exact ⟨HB7.out, _, rfl, HQ7.out⟩
end Go.Proofs.YtjjfkidddjcdcaaDoor

namespace Go.Proofs.YtjjfkidddjcdcaaDoor
open Go.RowKit

theorem rne_same {a a' D D' : Nat} (hD : 0 < D) (hD' : 0 < D') (h : a * D' = a' * D) : PL.rneG a D = PL.rneG a' D' := by
  rw [← PL.rneG_scale a D D' hD', ← PL.rneG_scale a' D' D hD, h, Nat.mul_comm D' D]

/-- The place of the last digit in the format. -/
def lastP (E F r : Nat) : Int := max (PL.place r + (PL.mant r).log2) (1 - (PL.biasOf E : Int)) - F
/-- How many units of that place. -/
def unitsP (E F r : Nat) : Nat := PL.rne (PL.mant r <<< (PL.place r - lastP E F r).toNat) (lastP E F r - PL.place r).toNat

theorem units_of (E F r : Nat) (a1 a3 j1 j2 j3 s : Nat) (h1 : a1 * 2 ^ fltK r = fltA r * 2 ^ j1) (h2 : s + (-lastP E F r).toNat = (lastP E F r).toNat + j2) (h3 : a3 * 2 ^ (j1 + s) = a1 * 2 ^ j2 * 2 ^ j3) : PL.rneG a3 (2 ^ j3) = unitsP E F r := by
  unfold unitsP PL.rne
  refine rne_same (Nat.two_pow_pos _) (Nat.two_pow_pos _) ?_
  unfold fltA fltK at h1
  rw [Nat.shiftLeft_eq]
  generalize PL.place r = p at *
  generalize lastP E F r = c at *
  generalize PL.mant r = m at *
  have hX : 0 < 2 ^ (j1 + s) * 2 ^ (-p).toNat := Nat.mul_pos (Nat.two_pow_pos _) (Nat.two_pow_pos _)
  apply Nat.eq_of_mul_eq_mul_right hX
  have e : p.toNat + j1 + j2 + j3 + (c - p).toNat = (p - c).toNat + j3 + ((j1 + s) + (-p).toNat) := by omega
  have l : a3 * 2 ^ (c - p).toNat * (2 ^ (j1 + s) * 2 ^ (-p).toNat) = m * 2 ^ (p.toNat + j1 + j2 + j3 + (c - p).toNat) := by
    rw [show a3 * 2 ^ (c - p).toNat * (2 ^ (j1 + s) * 2 ^ (-p).toNat) = (a3 * 2 ^ (j1 + s)) * 2 ^ (-p).toNat * 2 ^ (c - p).toNat by
      generalize 2 ^ (c - p).toNat = u
      generalize 2 ^ (j1 + s) = v
      generalize 2 ^ (-p).toNat = x
      grind, h3]
    rw [show a1 * 2 ^ j2 * 2 ^ j3 * 2 ^ (-p).toNat * 2 ^ (c - p).toNat = (a1 * 2 ^ (-p).toNat) * 2 ^ j2 * 2 ^ j3 * 2 ^ (c - p).toNat by
      generalize 2 ^ (c - p).toNat = u
      generalize 2 ^ j2 = v
      generalize 2 ^ j3 = y
      generalize 2 ^ (-p).toNat = x
      grind, h1]
    rw [Nat.pow_add, Nat.pow_add, Nat.pow_add, Nat.pow_add]
    simp only [Nat.mul_assoc]
  rw [l, e, Nat.pow_add, Nat.pow_add, Nat.pow_add]
  simp only [Nat.mul_assoc]

theorem small_word (E F r : Nat) (hm : PL.mant r ≠ 0) (X : Nat) (hX : (X : Int) = lastP E F r + F + PL.biasOf E - 1) :
    PL.rungOf (PL.fmt E F) (PL.mant r) (PL.place r) = min (X * 2 ^ F + unitsP E F r) ((2 ^ E - 1) * 2 ^ F) := by
  have hl : PL.lastOf (PL.fmt E F) (PL.mant r) (PL.place r) = lastP E F r := by
    unfold PL.lastOf lastP
    rw [PL.least_eq]
    show max (PL.place r + (PL.mant r).log2 - (F : Int)) _ = _
    omega
  rw [PL.rung_eq _ _ _ hm, hl, PL.least_eq]
  have e : (lastP E F r - (1 - (PL.biasOf E : Int) - F)).toNat = X := by omega
  rw [e]
  rfl

theorem units_le (E F r : Nat) : unitsP E F r ≤ 2 ^ (F + 1) := by
  unfold unitsP
  have hlt : PL.mant r < 2 ^ ((PL.mant r).log2 + 1) := Nat.lt_log2_self
  refine PL.rneG_le _ _ _ ?_
  rw [Nat.shiftLeft_eq, ← Nat.pow_add]
  refine Nat.lt_of_lt_of_le (Nat.mul_lt_mul_of_pos_right hlt (Nat.two_pow_pos _)) ?_
  rw [← Nat.pow_add]
  refine PL.pow_bound _ _ ?_
  unfold lastP
  omega

theorem big_place (r : Nat) (h0 : 0 < r) (h : r < 9218868437227405312) : bigE r + 52 = PL.place r + (PL.mant r).log2 := by
  have hr : PL.rung r = r := rung_small r (by omega)
  unfold bigE
  rw [hr]
  by_cases hs : r < 4503599627370496
  · rw [if_pos hs, PL.place_small r hs, PL.mant_small r hs]; omega
  · have hx : expo r = r / 4503599627370496 := by unfold expo; omega
    have hm : PL.mant r = 4503599627370496 + r % 4503599627370496 := if_neg hs
    have hl : (PL.mant r).log2 = 52 := by
      have a1 := (PL.le_log2_iff (PL.mant r) 52 (by omega)).2 (by omega)
      have a2 := (PL.log2_lt_iff (PL.mant r) 53 (by omega)).2 (by omega)
      omega
    rw [if_neg hs, hl]
    unfold PL.place
    omega

theorem mant_pos {r : Nat} (h : 0 < r) : 0 < PL.mant r := by
  unfold PL.mant
  split <;> omega
end Go.Proofs.YtjjfkidddjcdcaaDoor

namespace Go.Proofs.YtjjfkidddjcdcaaDoor
open Go.ChangeShapes Go.WideShapes Go.ChangeAt Go.RowKit

theorem two_of {a n k : Nat} (h : a * 2 ^ k = 2 ^ n) : k ≤ n ∧ a = 2 ^ (n - k) := by
  have ha : 0 < a := by
    rcases Nat.eq_zero_or_pos a with h0 | h0
    · rw [h0, Nat.zero_mul] at h; have := Nat.two_pow_pos n; omega
    · exact h0
  have hk : k ≤ n := by
    have : 2 ^ k ≤ 2 ^ n := by rw [← h]; exact Nat.le_mul_of_pos_left _ ha
    exact (Nat.pow_le_pow_iff_right (a := 2) (by omega)).1 this
  refine ⟨hk, ?_⟩
  have h2 : 2 ^ n = 2 ^ (n - k) * 2 ^ k := by rw [← Nat.pow_add]; congr 1; omega
  rw [h2] at h
  exact Nat.eq_of_mul_eq_mul_right (Nat.two_pow_pos k) h

theorem cast_eq2 {a b c d : Nat} (h : (a : Int) * 2 ^ b = (c : Int) * 2 ^ d) : a * 2 ^ b = c * 2 ^ d := by
  rw [pow_cast, pow_cast, ← Int.natCast_mul, ← Int.natCast_mul] at h
  exact Int.ofNat.inj h

theorem shift_lt {x A : Nat} (s : Nat) (h : x < 2 ^ A) : x * 2 ^ s < 2 ^ (A + s) := by
  rw [Nat.pow_add]; exact Nat.mul_lt_mul_of_pos_right h (Nat.two_pow_pos s)
theorem flt_bounds (r : Nat) (hr : r < 9218868437227405312) : (∃ n, n ≤ 1030 ∧ fltA r < 2 ^ n) ∧ fltK r ≤ 1074 := by
  have hm : PL.mant r < 2 ^ 53 := by
    show PL.mant r < 9007199254740992
    unfold PL.mant
    split <;> omega
  have hp : PL.place r ≤ 971 ∧ -1074 ≤ PL.place r := by unfold PL.place; omega
  unfold fltA fltK
  exact ⟨⟨53 + (PL.place r).toNat, by omega, shift_lt _ hm⟩, by omega⟩

def QuoOut (wq : World) (g u : Nat) (e : Ending) (w' : World) : Prop :=
  e = .returned (.pointer (some ⟨g, 0, none⟩)) ∧ wq.grownBy w' (some g) ∧ ∃ a3 j3 : Nat, RatAt w' g (a3 : Int) j3 ∧ PL.rneG a3 (2 ^ j3) = u ∧ wc a3 ≤ 1000 ∧ j3 ≤ 10000

theorem small_quo (g gx gy E F r : Nat) (c : Int) (wq : World) (hz1 : At wq g 0 0) (hz2 : At wq g 2 0) (hr : r < 9218868437227405312) (hc : lastP E F r = c) (hc1 : -5000 ≤ c) (hc2 : c ≤ 5000)
    (hx : RatIs wq gx ((fltA r : Nat) : Int) (fltK r)) (hy : RatIs wq gy ((2 ^ c.toNat : Nat) : Int) (-c).toNat) :
    Calls Tryd.prog 74 #[.pointer (some ⟨g, 0, none⟩), .pointer (some ⟨gx, 0, none⟩), .pointer (some ⟨gy, 0, none⟩)] wq (QuoOut wq g (unitsP E F r)) := by
  obtain ⟨⟨nb, nb1, fb1⟩, fb2⟩ := flt_bounds r hr
  obtain ⟨a1, j1, r1, e1, b1, k1, _, p1⟩ := hx
  obtain ⟨a2, j2, r2, e2, b2, k2, _, p2⟩ := hy
  obtain ⟨A1, rfl⟩ : ∃ n : Nat, a1 = n := ⟨a1.toNat, by have := p1 (Int.natCast_nonneg _); omega⟩
  obtain ⟨A2, rfl⟩ : ∃ n : Nat, a2 = n := ⟨a2.toNat, by have := p2 (Int.natCast_nonneg _); omega⟩
  have e1' := cast_eq2 e1
  have e2' := cast_eq2 e2
  rw [← Nat.pow_add] at e2'
  obtain ⟨t1, t2⟩ := two_of e2'
  obtain ⟨s, hs⟩ : ∃ s, c.toNat + j2 - (-c).toNat = s := ⟨_, rfl⟩
  rw [hs] at t2
  subst t2
  rw [Int.natAbs_natCast, Int.natAbs_natCast] at b1
  have hA1 : A1 < 2 ^ nb := Nat.lt_of_le_of_lt b1 fb1
  have w1 := wc_of_lt hA1
  have w2 := wc_shift j2 5000 hA1 (by omega)
  have hcast : ((A1 : Nat) : Int) * ((2 ^ j2 : Nat) : Int) = ((A1 * 2 ^ j2 : Nat) : Int) := by rw [Int.natCast_mul]
  have C := ratquo_z g gx gy j1 j2 s (A1 : Int) wq hz1 hz2 r1 r2 (Nat.le_trans (show wc A1 ≤ nb / 32 + 1 from w1) (by omega)) (by rw [hcast]; show wc (A1 * 2 ^ j2) ≤ 50000; omega) (by omega) (by omega) (by omega)
  rw [hcast] at C
  refine C.mono ?_
  rintro e w' ⟨rfl, hg, a3, j3, r3, e3, b3, k3, _, p3⟩
  obtain ⟨A3, rfl⟩ : ∃ n : Nat, a3 = n := ⟨a3.toNat, by have := p3 (Int.natCast_nonneg _); omega⟩
  have e3' := cast_eq2 e3
  rw [Int.natAbs_natCast, Int.natAbs_natCast] at b3
  refine ⟨rfl, hg, A3, j3, r3, units_of E F r A1 A3 j1 j2 j3 s e1' (by rw [hc]; omega) e3', Nat.le_trans (wc_mono b3) (by omega), by omega⟩
end Go.Proofs.YtjjfkidddjcdcaaDoor
