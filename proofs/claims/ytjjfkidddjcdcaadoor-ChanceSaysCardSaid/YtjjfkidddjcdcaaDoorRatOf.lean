/- Proved here: contracts of package enclosurebig's Rat.SetFloat64 (of a float above or at 0), Num, Denom, NewRat, and of the document's Rat and nearInt at this program. Conditions: as each theorem says. -/
import Derived.Test.YtjjfkidddjcdcaaDoorPow2
import Derived.Test.YtjjfkidddjcdcaaDoorRatFloat
namespace Go.Proofs.YtjjfkidddjcdcaaDoor
open Go.ChangeShapes Go.WideShapes Go.ChangeAt Go.RowKit

theorem new_int {w w' : World} {z : Int} (hP : Puts (w.alloc (Obj.cells #[.bool false, .slice none 0 0] 101)) w' w.heap.size 0 z) : Below w.heap.size w w' ∧ At w' w.heap.size 0 z := new_put hP

theorem lsh_one (g o gx ox n : Nat) (z0 : Int) (w : World) (hz : At w g o z0) (hx : At w gx ox ((1 : Nat) : Int)) (hn : n ≤ 1000000) :
    Calls Tryd.prog 78 #[.pointer (some ⟨g, o, none⟩), .pointer (some ⟨gx, ox, none⟩), .int .u64 n] w fun e w' => e = .returned (.pointer (some ⟨g, o, none⟩)) ∧ Puts w w' g o ((2 ^ n : Nat) : Int) := by
  have h := lsh_n g o gx ox n 1 z0 w hz hx (by decide) hn
  rw [Nat.one_mul] at h
  exact h

set_option maxRecDepth 100000 in
set_option maxHeartbeats 1000000 in
theorem setfloat_core (g b M X : Nat) (w : World) (hz1 : At w g 0 0) (hz2 : At w g 2 0) (hb : b < 9218868437227405312) (hX : X = if expo b = 0 then 1 else expo b) (hM : M = if expo b = 0 then frac b else 4503599627370496 + frac b) :
    Calls Tryd.prog 105 #[.pointer (some ⟨g, 0, none⟩), .float .f64 b] w fun e w' => e = .returned (.pointer (some ⟨g, 0, none⟩)) ∧ RatPut w w' g ((M * 2 ^ (X - 1075) : Nat) : Int) (1075 - X) := by
  have HZ1 := Lib.hid hz1
  have HZ2 := Lib.hid hz2
  have cb := call_bits
  have a1 : bits .and .u64 ((b : Int) / 4503599627370496) 2047 = ((expo b : Nat) : Int) := and_2047 (b / 4503599627370496) (by omega)
  have a2 : bits .and .u64 (b : Int) 4503599627370495 = ((frac b : Nat) : Int) := and_frac b (by omega)
  have a3 : ((b : Int) / 9223372036854775808 == 1) = false := by simp; omega
  have hf : frac b < 4503599627370496 := by unfold frac; omega
  have hx : expo b < 2047 := by unfold expo; omega
  have a4 := or_lead (frac b) hf
  rw [Nat.add_comm] at a4
  clear hz1 hz2 hb
  generalize expo b = x at *
  generalize frac b = f at *
  rw [Nat.add_comm f] at a4
  have hMb : M < 9007199254740992 := by rw [hM]; split <;> omega
  have hXb : X ≤ 2046 ∧ 1 ≤ X := by rw [hX]; split <;> omega
  have hwM : wc M ≤ 2 := wc_le (by show M < 18446744073709551616; omega)
  have hcase : (x = 0 ∧ X = 1 ∧ M = f) ∨ (((x : Int) == 0) = false ∧ X = x ∧ M = 4503599627370496 + f) := by
    by_cases h : x = 0
    · left; rw [if_pos h] at hX hM; exact ⟨h, hX, hM⟩
    · right; rw [if_neg h] at hX hM; exact ⟨by simp; omega, hX, hM⟩
  clear hX hM
  obtain ⟨x1, x2⟩ := hXb
  have hx47 : ((x : Int) == 2047) = false := by simp; omega
  have z0 := At.zero w
  have b0 := below_new w (Obj.cells #[.bool false, .slice none 0 0] 101)
  have HSET := Lib.hid (setuint_z w.heap.size 0 M 0 _ z0 (by omega))
  clear z0
  rcases hcase with ⟨rfl, rfl, rfl⟩ | ⟨h0, rfl, rfl⟩
  · skip
    go_enter Tryd.func105, Tryd.ntmps105
    go_wp2_with fail
    refine HSET.out.mono ?_
    rintro e w1 ⟨rfl, hP⟩
    obtain ⟨hb1, hn1⟩ := new_put hP
    clear hP HSET
    go_wp2_with fail
    refine (newint_z 1 w1 (by omega) (by omega)).mono ?_
    rintro e w2 ⟨hb2, rfl, hd2⟩
    have hd2' : At w2 w1.heap.size 0 ((1 : Nat) : Int) := hd2
    have hn2 := hn1.below hb2
    have hgn := hn1.lt
    have hb02 := hb1.trans (hb2.mono hb1.size)
    clear hn1 hb2 hd2
    go_wp2_with fail
    refine (lsh_one w1.heap.size 0 w1.heap.size 0 1074 _ w2 hd2' hd2' (by omega)).mono ?_
    rintro e w3 ⟨rfl, hP3⟩
    have hb03 : Below w.heap.size w w3 := hP3.below hb02 hb1.size hb02.size
    have hn3 := hn2.put hd2' hP3 (by omega)
    have hd3 := hP3.at_
    clear hP3
    go_wp2_with fail
    refine (setfrac_z g w.heap.size 0 w1.heap.size 0 1074 0 0 (M : Nat) w3 (HZ1.out.below hb03) (HZ2.out.below hb03) hn3 hd3 (Nat.le_trans hwM (by omega)) (by omega)).mono ?_
    rintro e w4 ⟨rfl, hP4⟩
    go_wp2_with fail
    go_ret
    refine ⟨rfl, ?_⟩
    have := hP4.from hb03
    rw [Nat.pow_zero, Nat.mul_one]
    exact this
  · by_cases hge : 1075 ≤ X
    · obtain ⟨t, ht⟩ : ∃ t, X - 1075 = t := ⟨_, rfl⟩
      have hti : (X : Int) - 1075 = t := by omega
      go_enter Tryd.func105, Tryd.ntmps105
      go_wp2_with fail
      refine HSET.out.mono ?_
      rintro e w1 ⟨rfl, hP⟩
      obtain ⟨hb1, hn1⟩ := new_put hP
      clear hP HSET
      go_wp2_with fail
      refine (newint_z 1 w1 (by omega) (by omega)).mono ?_
      rintro e w2 ⟨hb2, rfl, hd2⟩
      have hd2' : At w2 w1.heap.size 0 ((1 : Nat) : Int) := hd2
      have hn2 := hn1.below hb2
      have hgn := hn1.lt
      have hb02 := hb1.trans (hb2.mono hb1.size)
      clear hn1 hb2 hd2
      go_wp2_with fail
      refine (lsh_n w.heap.size 0 w.heap.size 0 t (4503599627370496 + f) _ w2 hn2 hn2 (by omega) (by omega)).mono ?_
      rintro e w3 ⟨rfl, hP3⟩
      have hb03 : Below w.heap.size w w3 := hP3.below hb02 (Nat.le_refl _) hb02.size
      have hd3 := hd2'.put hn2 hP3 (by omega)
      have hn3 := hP3.at_
      have hwn : wc ((4503599627370496 + f) * 2 ^ t) ≤ 50000 := by
        have := wc_shift (A := 64) t 1000 (show 4503599627370496 + f < 2 ^ 64 by omega) (by omega)
        omega
      clear hP3
      go_wp2_with fail
      refine (setfrac_z g w.heap.size 0 w1.heap.size 0 0 0 0 (((4503599627370496 + f) * 2 ^ t : Nat) : Int) w3 (HZ1.out.below hb03) (HZ2.out.below hb03) hn3 hd3 hwn (by omega)).mono ?_
      rintro e w4 ⟨rfl, hP4⟩
      go_wp2_with fail
      go_ret
      refine ⟨rfl, ?_⟩
      rw [ht, show 1075 - X = 0 by omega]
      exact hP4.from hb03
    · obtain ⟨t, ht⟩ : ∃ t, 1075 - X = t := ⟨_, rfl⟩
      have hti : 1075 - (X : Int) = t := by omega
      go_enter Tryd.func105, Tryd.ntmps105
      go_wp2_with fail
      refine HSET.out.mono ?_
      rintro e w1 ⟨rfl, hP⟩
      obtain ⟨hb1, hn1⟩ := new_put hP
      clear hP HSET
      go_wp2_with fail
      refine (newint_z 1 w1 (by omega) (by omega)).mono ?_
      rintro e w2 ⟨hb2, rfl, hd2⟩
      have hd2' : At w2 w1.heap.size 0 ((1 : Nat) : Int) := hd2
      have hn2 := hn1.below hb2
      have hgn := hn1.lt
      have hb02 := hb1.trans (hb2.mono hb1.size)
      clear hn1 hb2 hd2
      go_wp2_with fail
      refine (lsh_one w1.heap.size 0 w1.heap.size 0 t _ w2 hd2' hd2' (by omega)).mono ?_
      rintro e w3 ⟨rfl, hP3⟩
      have hb03 : Below w.heap.size w w3 := hP3.below hb02 hb1.size hb02.size
      have hn3 := hn2.put hd2' hP3 (by omega)
      have hd3 := hP3.at_
      clear hP3
      go_wp2_with fail
      refine (setfrac_z g w.heap.size 0 w1.heap.size 0 t 0 0 (4503599627370496 + f : Nat) w3 (HZ1.out.below hb03) (HZ2.out.below hb03) hn3 hd3 (Nat.le_trans hwM (by omega)) (by omega)).mono ?_
      rintro e w4 ⟨rfl, hP4⟩
      go_wp2_with fail
      go_ret
      refine ⟨rfl, ?_⟩
      have := hP4.from hb03
      rw [ht, show X - 1075 = 0 by omega, Nat.pow_zero, Nat.mul_one]
      exact this


/-- The numbers of a float above or at 0: whole, and the power of two below the bar. -/
def fltA (b : Nat) : Nat := PL.mant b * 2 ^ (PL.place b).toNat
def fltK (b : Nat) : Nat := (-PL.place b).toNat

theorem setfloat_z (g b : Nat) (w : World) (hz1 : At w g 0 0) (hz2 : At w g 2 0) (hb : b < 9218868437227405312) :
    Calls Tryd.prog 105 #[.pointer (some ⟨g, 0, none⟩), .float .f64 b] w fun e w' => e = .returned (.pointer (some ⟨g, 0, none⟩)) ∧ RatPut w w' g ((fltA b : Nat) : Int) (fltK b) := by
  have he : expo b = b / 4503599627370496 := by unfold expo; omega
  have hfr : frac b = b % 4503599627370496 := rfl
  obtain ⟨X, hX⟩ : ∃ X, X = if expo b = 0 then 1 else expo b := ⟨_, rfl⟩
  have hp : PL.place b = (X : Int) - 1075 := by
    unfold PL.place
    rw [hX, he]
    split <;> omega
  have hm : PL.mant b = if expo b = 0 then frac b else 4503599627370496 + frac b := by
    unfold PL.mant
    rw [he, hfr]
    by_cases h : b < 4503599627370496
    · rw [if_pos h, if_pos (Nat.div_eq_of_lt h)]; omega
    · rw [if_neg h, if_neg (by omega)]
  have e1 : fltA b = (if expo b = 0 then frac b else 4503599627370496 + frac b) * 2 ^ (X - 1075) := by
    unfold fltA
    rw [hm, hp, show ((X : Int) - 1075).toNat = X - 1075 by omega]
  have e2 : fltK b = 1075 - X := by unfold fltK; rw [hp]; omega
  rw [e1, e2]
  exact setfloat_core g b _ X w hz1 hz2 hb hX rfl

theorem rat_pos (b : Nat) (w : World) (hb : b < 9218868437227405312) :
    Calls Tryd.prog 75 #[.float .f64 b] w fun e w' => e = .returned (.pointer (some ⟨w.heap.size, 0, none⟩)) ∧ Below w.heap.size w w' ∧ RatIs w' w.heap.size ((fltA b : Nat) : Int) (fltK b) := by
  have C := Lib.hid (setfloat_z w.heap.size b _ (ratzero1 w) (ratzero2 w) hb)
  have b0 := below_new w (Obj.cells #[.bool false, .slice none 0 0, .bool false, .slice none 0 0] 103)
  go_enter Tryd.func75, Tryd.ntmps75
  go_wp2_with fail
  refine C.out.mono ?_
  rintro e w1 ⟨rfl, hP⟩
  obtain ⟨hb, hr⟩ := new_rat b0 (Nat.le_refl _) hP
  go_wp2_with fail
  go_ret
  exact ⟨rfl, hb, hr⟩

theorem newrat_z (x : Int) (w : World) (h1 : -9223372036854775808 ≤ x) (h2 : x ≤ 9223372036854775807) :
    Calls Tryd.prog 83 #[.int .i64 x, .int .i64 1] w fun e w' => e = .returned (.pointer (some ⟨w.heap.size, 0, none⟩)) ∧ Below w.heap.size w w' ∧ RatIs w' w.heap.size x 0 := by
  have z1 := ratzero1 w
  have z2 := ratzero2 w
  have b0 := below_new w (Obj.cells #[.bool false, .slice none 0 0, .bool false, .slice none 0 0] 103)
  have hw : wc x.natAbs ≤ 50000 := by
    have := wc_le (v := x.natAbs) (n := 2) (by show x.natAbs < 18446744073709551616; omega)
    omega
  go_enter Tryd.func83, Tryd.ntmps83
  go_wp2_with fail
  generalize w.alloc (Obj.cells #[.bool false, .slice none 0 0, .bool false, .slice none 0 0] 103) = w1 at *
  refine (newint_z x w1 h1 h2).mono ?_
  rintro e w2 ⟨hb2, rfl, ha⟩
  have b2 := b0.trans (hb2.mono b0.size)
  have z12 := z1.below hb2
  have z22 := z2.below hb2
  generalize hga : w1.heap.size = ga at *
  go_wp2_with fail
  refine (newint_z 1 w2 (by omega) (by omega)).mono ?_
  rintro e w3 ⟨hb3, rfl, hb⟩
  go_wp2_with fail
  refine (setfrac_z w.heap.size ga 0 w2.heap.size 0 0 0 0 x w3 (z12.below hb3) (z22.below hb3) (ha.below hb3) hb hw (by omega)).mono ?_
  rintro e w4 ⟨rfl, hP⟩
  obtain ⟨hb, hr⟩ := new_rat (b2.trans (hb3.mono b2.size)) (Nat.le_refl _) hP
  go_wp2_with fail
  go_ret
  exact ⟨rfl, hb, hr⟩

theorem num_z (g : Nat) (w : World) : Calls Tryd.prog 106 #[.pointer (some ⟨g, 0, none⟩)] w fun e w' => w' = w ∧ e = .returned (.pointer (some ⟨g, 0, none⟩)) := by
  go_enter Tryd.func106, Tryd.ntmps106
  go_wp2_with fail
  go_ret
  exact ⟨rfl, rfl⟩

theorem denom_z (g k : Nat) (a : Int) (w : World) (h : RatAt w g a k) (hk : k ≤ 600000) :
    Calls Tryd.prog 107 #[.pointer (some ⟨g, 0, none⟩)] w fun e w' => e = .returned (.pointer (some ⟨w.heap.size, 0, none⟩)) ∧ Below w.heap.size w w' ∧ At w' w.heap.size 0 ((2 ^ k : Nat) : Int) := by
  have HH := Lib.hid h
  have CD := Lib.hid (den_z g k a _ (h.below (below_new w (Obj.cells #[.bool false, .slice none 0 0] 101))))
  have CS := Lib.hid (set_new g 2 _ w h.2 (by show wc (2 ^ k) ≤ 50000; rw [wc_pow]; omega))
  clear h
  go_enter Tryd.func107, Tryd.ntmps107
  go_wp2_with fail
  refine CD.out.mono ?_
  rintro e w1 ⟨rfl, rfl⟩
  go_wp2_with fail
  refine CS.out.mono ?_
  rintro e w2 ⟨rfl, hb, hP⟩
  go_wp2_with fail
  go_ret
  exact ⟨rfl, hb, hP⟩
end Go.Proofs.YtjjfkidddjcdcaaDoor
