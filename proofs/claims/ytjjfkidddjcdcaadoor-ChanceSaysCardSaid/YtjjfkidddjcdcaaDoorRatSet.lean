/- Proved here: the contract of package enclosurebig's norm (of a ratio below whose bar stands a power of two) at this program. Conditions: as each theorem says.
   Proved here: contracts of package enclosurebig's den, SetFrac, SetInt, SetInt64 at this program. Conditions: as each theorem says. -/
import Derived.Test.YtjjfkidddjcdcaaDoorIntDo
namespace Go.Proofs.YtjjfkidddjcdcaaDoor
open Go.ChangeShapes Go.WideShapes Go.ChangeAt Go.RowKit

/-- What norm leaves of v over 2^k. -/
def Normed (w w' : World) (g : Nat) (s : Bool) (v k : Nat) : Prop :=
  w.grownBy w' (some g) ∧ ∃ v' j, IntAt w' g 0 s v' ∧ IntAt w' g 2 false (2 ^ j) ∧ v' * 2 ^ k = v * 2 ^ j ∧ v' ≤ v ∧ j ≤ k ∧ (0 < v → 0 < v')

theorem twos_pow {k t : Nat} (h : Twos (2 ^ k) t) : t = k := by
  obtain ⟨o, h1, h2⟩ := h
  have h3 : t ≤ k := by
    have : 2 ^ t ≤ 2 ^ k := by rw [h1]; exact Nat.le_mul_of_pos_right _ (by omega)
    exact (Nat.pow_le_pow_iff_right (a := 2) (by omega)).1 this
  obtain ⟨d, rfl⟩ : ∃ d, k = t + d := ⟨k - t, by omega⟩
  rw [Nat.pow_add] at h1
  have h4 := Nat.eq_of_mul_eq_mul_left (Nat.two_pow_pos t) h1
  rcases d with _ | d
  · rfl
  · rw [Nat.pow_succ] at h4; omega

theorem twos_cut {v t b : Nat} (h : Twos v t) (hb : b ≤ t) : v = v / 2 ^ b * 2 ^ b := by
  obtain ⟨o, rfl, _⟩ := h
  obtain ⟨d, rfl⟩ : ∃ d, t = b + d := ⟨t - b, by omega⟩
  rw [Nat.pow_add, Nat.mul_assoc, Nat.mul_div_cancel_left _ (Nat.two_pow_pos b), Nat.mul_comm]

/-- A new row of words is an Int put, its sign as it was. -/
theorem Put.abs {w : World} {g o v u c : Nat} {s : Bool} {A : Option Addr} (h : IntAt w g o s v) (hR : Row32 w A (wc u) (dig u)) : Put w (w.setCell ⟨g, o + 1, none⟩ (.slice A (wc u) c)) g o s u := by
  obtain ⟨A0, c0, hs, _⟩ := h.num
  have hne2 : (⟨g, o + 1, none⟩ : Addr) ≠ ⟨g, o, none⟩ := by intro e; injection e with _ e _; omega
  refine ⟨⟨by simpa [World.setCell] using h.lt, ?_, ⟨A, c, World.cell?_setCell_same _ _ _ hs, hR.set _ _ (fun x e => ?_)⟩, by simpa using h.f0, by simpa using h.f1⟩, grown_set (grown_refl _ _) _ _, fun i h1 h2 => ⟨?_, by simp⟩⟩
  · rw [World.cell?_setCell_other _ _ _ _ hne2]; exact h.sign
  · rw [hs] at e; cases e
  · rw [World.cell?_setCell_other _ _ _ _ (by intro e; injection e with _ e _; exact h2 e.symm)]

set_option maxRecDepth 100000 in
theorem norm_nil (g k : Nat) (s : Bool) (w : World) (h0 : IntAt w g 0 s 0) (h2 : IntAt w g 2 false (2 ^ k)) (hk : k ≤ 600000) :
    Calls Tryd.prog 124 #[.pointer (some ⟨g, 0, none⟩)] w fun e w' => e = .returned (.pointer (some ⟨g, 0, none⟩)) ∧ Normed w w' g s 0 k := by
  have HZ := Lib.hid h0
  have C := Lib.hid (setint_any g 2 (2 ^ k) false 1 w h2 (by omega) (by omega))
  rw [show (decide ((1 : Int) < 0) && decide (0 < (1 : Int).natAbs)) = false from rfl, show (1 : Int).natAbs = 1 from rfl] at C
  have h2' := Lib.hid h2
  have hw : wc (2 ^ k) = k / 32 + 1 := wc_pow k
  obtain ⟨_, c0, ⟨A, c, c1, hR⟩, _, _⟩ := h0
  obtain ⟨_, d0, ⟨A2, c2, d1, hR2⟩, _, _⟩ := h2
  have c1' : w.cell? ⟨g, 1, none⟩ = some (.slice A 0 c) := c1
  have d1' : w.cell? ⟨g, 3, none⟩ = some (.slice A2 (k / 32 + 1) c2) := by rw [← hw]; exact d1
  clear hR hR2 c1 d1 hw
  generalize k / 32 = q at *
  have hz : ((q : Int) + 1 == 0) = false := by simp; omega
  go_enter Tryd.func124, Tryd.ntmps124
  go_wp2_with fail
  refine C.out.mono ?_
  rintro e w1 ⟨rfl, hP⟩
  go_wp2_with fail
  go_ret
  exact ⟨rfl, hP.grown, 0, 0, HZ.out.put h2'.out hP (by omega), hP.at_, by simp, by omega, by omega, by omega⟩

set_option maxRecDepth 100000 in
theorem norm_one (g v : Nat) (s : Bool) (w : World) (h0 : IntAt w g 0 s v) (h2 : IntAt w g 2 false (2 ^ 0)) (hv : 0 < v) :
    Calls Tryd.prog 124 #[.pointer (some ⟨g, 0, none⟩)] w fun e w' => e = .returned (.pointer (some ⟨g, 0, none⟩)) ∧ Normed w w' g s v 0 := by
  have HZ := Lib.hid h0
  have h2' := Lib.hid h2
  have hn := wc_pos hv
  obtain ⟨_, c0, ⟨A, c, c1, hR⟩, _, _⟩ := h0
  obtain ⟨_, d0, ⟨A2, c2, d1, hR2⟩, _, _⟩ := h2
  have c1' : w.cell? ⟨g, 1, none⟩ = some (.slice A (wc v) c) := c1
  have d1' : w.cell? ⟨g, 3, none⟩ = some (.slice A2 1 c2) := d1
  obtain ⟨b, off, rfl, hb, hcell⟩ := hR2 (by decide)
  have e0 := hcell 0 (by decide)
  rw [dig_low, Nat.add_zero] at e0
  simp only [Nat.pow_zero] at e0
  have e0' : w.cell? ⟨b, off, none⟩ = some (.int .u32 1) := e0
  clear hR hcell c1 d1 e0
  generalize wc v = n at *
  have hz : ((n : Int) == 0) = false := by simp; omega
  go_enter Tryd.func124, Tryd.ntmps124
  go_wp2_with fail
  go_ret
  exact ⟨rfl, grown_refl _ _, v, 0, HZ.out, h2'.out, rfl, Nat.le_refl _, Nat.le_refl _, id⟩

set_option maxRecDepth 100000 in
set_option maxHeartbeats 1000000 in
theorem norm_more (g v k : Nat) (s : Bool) (w : World) (h0 : IntAt w g 0 s v) (h2 : IntAt w g 2 false (2 ^ k)) (hv : 0 < v) (hk0 : 0 < k) (hk : k ≤ 600000) (hs : wc v ≤ 50000) :
    Calls Tryd.prog 124 #[.pointer (some ⟨g, 0, none⟩)] w fun e w' => e = .returned (.pointer (some ⟨g, 0, none⟩)) ∧ Normed w w' g s v k := by
  have HZ := Lib.hid h0
  have h2' := Lib.hid h2
  have hn := wc_pos hv
  have hw : wc (2 ^ k) = k / 32 + 1 := wc_pow k
  have hlt := h0.lt
  obtain ⟨_, c0, ⟨A, c, c1, hR⟩, f0, f1⟩ := h0
  obtain ⟨_, d0, ⟨A2, c2, d1, hR2⟩, f2, f3⟩ := h2
  have c1' : w.cell? ⟨g, 1, none⟩ = some (.slice A (wc v) c) := c1
  have d1' : w.cell? ⟨g, 3, none⟩ = some (.slice A2 (k / 32 + 1) c2) := by rw [← hw]; exact d1
  have f1' : w.frozen? ⟨g, 1, none⟩ = false := f1
  have f3' : w.frozen? ⟨g, 3, none⟩ = false := f3
  have CT := Lib.hid (twos_any A2 c2 (2 ^ k) w hR2 (by omega) (Nat.two_pow_pos k))
  have CA := Lib.hid (twos_any A c v w hR (by omega) hv)
  have CR := Lib.hid (fun n hn => right_any A c v n w hR (by omega) hn)
  have CS := Lib.hid (fun w' n hb hn => right_any A2 c2 (2 ^ k) n w' hb (by omega) hn)
  rw [hw] at CT CS
  have HR2 := Lib.hid hR2
  rw [hw] at HR2
  obtain ⟨b, off, rfl, hb, hcell⟩ := hR2 (by omega)
  have e0 := hcell 0 (by omega)
  rw [Nat.add_zero] at e0
  have hde : 0 < k / 32 ∨ (dig (2 ^ k) 0 ≠ 1) := by
    rcases Nat.eq_zero_or_pos (k / 32) with h | h
    · right
      have h1 : 2 ^ k ≤ 2 ^ 31 := PL.pow_bound _ _ (by omega)
      have h3 : 2 ^ 1 ≤ 2 ^ k := PL.pow_bound _ _ (by omega)
      rw [dig_low, Nat.mod_eq_of_lt (by omega)]
      omega
    · exact .inl h
  generalize dig (2 ^ k) 0 = D at *
  clear hR hR2 c1 d1 hcell f1 f3 hw
  generalize k / 32 = q at *
  generalize wc v = n at *
  have hz : ((n : Int) == 0) = false := by simp; omega
  have hz2 : ((q : Int) + 1 == 0) = false := by simp; omega
  obtain ⟨e1, he1⟩ : ∃ b, ((q : Int) + 1 == 1) = b := ⟨_, rfl⟩
  obtain ⟨e2, he2⟩ : ∃ b, ((D : Int) == 1) = b := ⟨_, rfl⟩
  have hde2 : e1 = false ∨ (e1 = true ∧ e2 = false) := by
    rcases hde with h | h
    · left; rw [← he1]; simp; omega
    · cases e1
      · exact .inl rfl
      · right; exact ⟨rfl, by rw [← he2]; simp; omega⟩
  clear hde
  rcases hde2 with rfl | ⟨rfl, rfl⟩
  all_goals
    go_enter Tryd.func124, Tryd.ntmps124
    go_wp2_with fail
    refine CT.out.mono ?_
    rintro e wa ⟨rfl, t, rfl, ht⟩
    rw [twos_pow ht]
    clear ht CT
    go_wp2_with fail
    refine CA.out.mono ?_
    rintro e w1 ⟨rfl, t, rfl, ht⟩
    clear CA
    obtain ⟨m, hm⟩ : ∃ m : Nat, min (k : Int) (t : Int) = m := ⟨min k t, by omega⟩
    have hmt : m ≤ t := by omega
    have hmk : m ≤ k := by omega
    have HT := Lib.hid ht
    clear ht
    rcases Nat.eq_zero_or_pos m with hm0 | hm0
    · subst hm0
      go_wp2_with fail
      refine (CS.out w1 k HR2.out (by omega)).mono ?_
      rw [Nat.div_self (Nat.two_pow_pos k)]
      rintro e w2 ⟨hb2, _, rfl, A3, c3, rfl, h3⟩
      obtain ⟨b3, off3, rfl, hb3, hcell3⟩ := h3 (by decide)
      have e3 : w2.cell? ⟨b3, off3, none⟩ = some (.int .u32 1) := by
        have := hcell3 0 (by decide)
        rw [dig_low, Nat.add_zero] at this
        exact this
      rw [show wc 1 = 1 from by decide]
      clear hcell3 h3 he1 he2
      go_wp2_with fail
      go_ret
      exact ⟨rfl, grown_below (grown_refl _ _) hb2, v, k, HZ.out.below hb2, h2'.out.below hb2, rfl, Nat.le_refl _, Nat.le_refl _, id⟩
    · go_wp2_with fail
      refine (CR.out m (by omega)).mono ?_
      rintro e w2 ⟨hb2, _, rfl, A3, c3, rfl, h3⟩
      have q1 := (hb2.cell (p := ⟨g, 1, none⟩) hlt).trans c1'
      have q3 := (hb2.cell (p := ⟨g, 3, none⟩) hlt).trans d1'
      have r1 := (hb2.frozen (p := ⟨g, 1, none⟩) hlt).trans f1'
      have r3 := (hb2.frozen (p := ⟨g, 3, none⟩) hlt).trans f3'
      clear he1 he2
      go_wp2_with fail
      have hP1 : Put w2 (w2.setCell ⟨g, 1, none⟩ (.slice A3 (wc (v / 2 ^ m)) c3)) g 0 s (v / 2 ^ m) := Put.abs (HZ.out.below hb2) h3
      have hB1 := (h2'.out.below hb2).put (HZ.out.below hb2) hP1 (by omega)
      have hRb := Row32.put (HR2.out.below hb2) (HZ.out.below hb2) hP1
      clear q1 q3 r1 r3 h3
      generalize w2.setCell ⟨g, 1, none⟩ (.slice A3 (wc (v / 2 ^ m)) c3) = w3 at *
      refine (CS.out w3 m hRb (by omega)).mono ?_
      obtain ⟨d, hd⟩ : ∃ d : Nat, k - m = d := ⟨_, rfl⟩
      have hdi : (k : Int) - m = d := by omega
      rw [Nat.pow_div hmk (by omega), hd]
      rintro e w4 ⟨hb4, _, rfl, A5, c5, rfl, h5⟩
      have hB4 := hB1.below hb4
      have hA4 := hP1.at_.below hb4
      obtain ⟨_, _, ⟨A6, c6, q3, _⟩, _, r3⟩ := hB4
      have q3' : w4.cell? ⟨g, 3, none⟩ = some (.slice A6 (wc (2 ^ k)) c6) := q3
      have r3' : w4.frozen? ⟨g, 3, none⟩ = false := r3
      go_wp2_with fail
      have hP2 : Put w4 (w4.setCell ⟨g, 3, none⟩ (.slice A5 (wc (2 ^ d)) c5)) g 2 false (2 ^ d) := Put.abs (hB1.below hb4) h5
      have hA5 := hA4.put (hB1.below hb4) hP2 (by omega)
      have hR5 := Row32.put h5 (hB1.below hb4) hP2
      clear q3 q3' r3 r3' h5
      generalize w4.setCell ⟨g, 3, none⟩ (.slice A5 (wc (2 ^ d)) c5) = w5 at *
      refine (right_any A5 c5 (2 ^ d) d w5 hR5 (by rw [wc_pow]; omega) (by omega)).mono ?_
      rw [Nat.div_self (Nat.two_pow_pos d)]
      rintro e w6 ⟨hb6, _, rfl, A7, c7, rfl, h7⟩
      obtain ⟨b7, off7, rfl, hb7, hcell7⟩ := h7 (by decide)
      have e7 : w6.cell? ⟨b7, off7, none⟩ = some (.int .u32 1) := by
        have := hcell7 0 (by decide)
        rw [dig_low, Nat.add_zero] at this
        exact this
      rw [show wc 1 = 1 from by decide]
      clear hcell7 h7
      go_wp2_with fail
      go_ret
      refine ⟨rfl, grown_below (grown_trans (grown_below (grown_trans (grown_below (grown_refl _ _) hb2) hP1.grown) hb4) hP2.grown) hb6, v / 2 ^ m, d, hA5.below hb6, hP2.at_.below hb6, ?_, Nat.div_le_self _ _, by omega, fun h => ?_⟩
      · have h1 := twos_cut HT.out hmt
        have h2 : 2 ^ k = 2 ^ m * 2 ^ d := by rw [← Nat.pow_add]; congr 1; omega
        rw [h2, ← Nat.mul_assoc, ← h1]
      · have h1 := twos_cut HT.out hmt
        rcases Nat.eq_zero_or_pos (v / 2 ^ m) with h | h
        · rw [h] at h1; omega
        · exact h

/-- At the head of block g lies the ratio a over 2^k. -/
def RatAt (w : World) (g : Nat) (a : Int) (k : Nat) : Prop := At w g 0 a ∧ At w g 2 ((2 ^ k : Nat) : Int)
/-- A ratio as great as a over 2^k was put there. -/
def RatPut (w w' : World) (g : Nat) (a : Int) (k : Nat) : Prop := w.grownBy w' (some g) ∧ ∃ a' j, RatAt w' g a' j ∧ a' * 2 ^ k = a * 2 ^ j ∧ a'.natAbs ≤ a.natAbs ∧ j ≤ k ∧ (a < 0 → a' < 0) ∧ (0 ≤ a → 0 ≤ a')

theorem at_two {w : World} {g o k : Nat} : At w g o ((2 ^ k : Nat) : Int) ↔ IntAt w g o false (2 ^ k) := by
  unfold At
  rw [decide_eq_false (Int.not_lt.2 (Int.natCast_nonneg (2 ^ k)))]
  exact Iff.rfl

theorem norm_z (g k : Nat) (a : Int) (w : World) (h : RatAt w g a k) (hk : k ≤ 600000) (hs : wc a.natAbs ≤ 50000) :
    Calls Tryd.prog 124 #[.pointer (some ⟨g, 0, none⟩)] w fun e w' => e = .returned (.pointer (some ⟨g, 0, none⟩)) ∧ RatPut w w' g a k := by
  obtain ⟨h0, h2⟩ := h
  have h2 := at_two.1 h2
  have main : Calls Tryd.prog 124 #[.pointer (some ⟨g, 0, none⟩)] w fun e w' => e = .returned (.pointer (some ⟨g, 0, none⟩)) ∧ Normed w w' g (decide (a < 0)) a.natAbs k := by
    unfold At at h0
    rcases Nat.eq_zero_or_pos a.natAbs with hz | hz
    · rw [hz] at h0 ⊢
      exact norm_nil g k _ w h0 h2 hk
    · rcases Nat.eq_zero_or_pos k with hk0 | hk0
      · subst hk0
        exact norm_one g _ _ w h0 h2 hz
      · exact norm_more g _ k _ w h0 h2 hz hk0 hk hs
  refine main.mono ?_
  rintro e w' ⟨rfl, hg, v', j, k0, k2, e1, e2, e3, e4⟩
  refine ⟨rfl, hg, ?_⟩
  by_cases hn : a < 0
  · rw [decide_eq_true hn] at k0
    have hp := e4 (by omega)
    refine ⟨-(v' : Int), j, ⟨?_, at_two.2 k2⟩, ?_, by omega, e3, fun _ => by omega, fun h => by omega⟩
    · unfold At
      rw [decide_eq_true (show -(v' : Int) < 0 by omega), Int.natAbs_neg]
      exact k0
    · have : (v' : Int) * 2 ^ k = (a.natAbs : Int) * 2 ^ j := by
        rw [pow_cast, pow_cast, ← Int.natCast_mul, ← Int.natCast_mul, e1]
      obtain ⟨N, hN⟩ : ∃ N : Nat, a.natAbs = N := ⟨_, rfl⟩
      rw [hN] at this
      rw [show a = -(N : Int) by omega, Int.neg_mul, Int.neg_mul, this]
  · rw [decide_eq_false hn] at k0
    refine ⟨(v' : Int), j, ⟨?_, at_two.2 k2⟩, ?_, by omega, e3, fun h => by omega, fun h => by omega⟩
    · unfold At
      rw [decide_eq_false (show ¬ (v' : Int) < 0 by omega)]
      exact k0
    · have : (v' : Int) * 2 ^ k = (a.natAbs : Int) * 2 ^ j := by
        rw [pow_cast, pow_cast, ← Int.natCast_mul, ← Int.natCast_mul, e1]
      rw [this, show (a.natAbs : Int) = a by omega]
end Go.Proofs.YtjjfkidddjcdcaaDoor

namespace Go.Proofs.YtjjfkidddjcdcaaDoor
open Go.ChangeShapes Go.WideShapes Go.ChangeAt Go.RowKit

theorem den_z (g k : Nat) (a : Int) (w : World) (h : RatAt w g a k) :
    Calls Tryd.prog 103 #[.pointer (some ⟨g, 0, none⟩)] w fun e w' => w' = w ∧ e = .returned (.pointer (some ⟨g, 2, none⟩)) := by
  obtain ⟨_, h2⟩ := h
  obtain ⟨_, d0, ⟨A2, c2, d1, hR2⟩, _, _⟩ := at_two.1 h2
  have d1' : w.cell? ⟨g, 3, none⟩ = some (.slice A2 (wc (2 ^ k)) c2) := d1
  rw [wc_pow] at d1'
  clear h2 hR2 d1
  generalize k / 32 = q at *
  have hz : ((q : Int) + 1 == 0) = false := by simp; omega
  go_enter Tryd.func103, Tryd.ntmps103
  go_wp2_with fail
  go_ret
  exact ⟨rfl, rfl⟩

/-- An Int is put whole. -/
theorem Put.whole {w : World} {g o v u c : Nat} {s b : Bool} {A : Option Addr} (h : IntAt w g o b v) (hR : Row32 w A (wc u) (dig u)) : Put w ((w.setCell ⟨g, o, none⟩ (.bool s)).setCell ⟨g, o + 1, none⟩ (.slice A (wc u) c)) g o s u := by
  obtain ⟨A0, c0, hs, _⟩ := h.num
  have hne2 : (⟨g, o + 1, none⟩ : Addr) ≠ ⟨g, o, none⟩ := by intro e; injection e with _ e _; omega
  have hne : (⟨g, o, none⟩ : Addr) ≠ ⟨g, o + 1, none⟩ := fun e => hne2 e.symm
  have k1 : (w.setCell ⟨g, o, none⟩ (.bool s)).cell? ⟨g, o + 1, none⟩ = some (.slice A0 (wc v) c0) := by rw [World.cell?_setCell_other _ _ _ _ hne]; exact hs
  refine ⟨⟨by simpa [World.setCell] using h.lt, ?_, ⟨A, c, World.cell?_setCell_same _ _ _ k1, (hR.set _ _ (fun x e => ?_)).set _ _ (fun x e => ?_)⟩, by simpa using h.f0, by simpa using h.f1⟩, grown_set (grown_set (grown_refl _ _) _ _) _ _, fun i h1 h2 => ⟨?_, by simp⟩⟩
  · rw [World.cell?_setCell_other _ _ _ _ hne2]; exact World.cell?_setCell_same _ _ _ h.sign
  · rw [h.sign] at e; cases e
  · rw [k1] at e; cases e
  · rw [World.cell?_setCell_other _ _ _ _ (by intro e; injection e with _ e _; exact h2 e.symm), World.cell?_setCell_other _ _ _ _ (by intro e; injection e with _ e _; exact h1 e.symm)]

/-- A new Int is laid, then something is put there. -/
theorem new_put {w w' : World} {z : Int} (hP : Puts (w.alloc (Obj.cells #[.bool false, .slice none 0 0] 101)) w' w.heap.size 0 z) : Below w.heap.size w w' ∧ At w' w.heap.size 0 z :=
  ⟨hP.below ((Below.refl _ _).alloc (Nat.le_refl _) _) (Nat.le_refl _) (by simp), hP.at_⟩
theorem below_new (w : World) (o : Obj) : Below w.heap.size w (w.alloc o) := (Below.refl _ _).alloc (Nat.le_refl _) _
theorem set_new (gx ox : Nat) (x : Int) (w : World) (hx : At w gx ox x) (hs : wc x.natAbs ≤ 50000) :
    Calls Tryd.prog 123 #[.pointer (some ⟨w.heap.size, 0, none⟩), .pointer (some ⟨gx, ox, none⟩)] (w.alloc (Obj.cells #[.bool false, .slice none 0 0] 101)) fun e w' => e = .returned (.pointer (some ⟨w.heap.size, 0, none⟩)) ∧ Below w.heap.size w w' ∧ At w' w.heap.size 0 x := by
  refine (set_z w.heap.size 0 gx ox 0 x _ (At.zero w) (hx.below (below_new w _)) hs).mono ?_
  rintro e w' ⟨rfl, hP⟩
  exact ⟨rfl, new_put hP⟩

set_option maxRecDepth 100000 in
set_option maxHeartbeats 1000000 in
theorem setfrac_z (g ga oa gb ob k : Nat) (z1 z2 a : Int) (w : World) (hz1 : At w g 0 z1) (hz2 : At w g 2 z2) (ha : At w ga oa a) (hb : At w gb ob ((2 ^ k : Nat) : Int)) (hs : wc a.natAbs ≤ 50000) (hk : k ≤ 600000) :
    Calls Tryd.prog 101 #[.pointer (some ⟨g, 0, none⟩), .pointer (some ⟨ga, oa, none⟩), .pointer (some ⟨gb, ob, none⟩)] w fun e w' => e = .returned (.pointer (some ⟨g, 0, none⟩)) ∧ RatPut w w' g a k := by
  have HA := Lib.hid ha
  have HB := Lib.hid hb
  have HZ1 := Lib.hid hz1
  have HZ2 := Lib.hid hz2
  obtain ⟨_, d0, ⟨A2, c2, d1, hR2⟩, _, _⟩ := at_two.1 hb
  rw [wc_pow] at d1
  have hq : k / 32 ≤ 18750 := by omega
  clear ha hb hz1 hz2 hR2
  obtain ⟨q, hqe⟩ : ∃ q, k / 32 = q := ⟨_, rfl⟩
  rw [hqe] at d1 hq
  have hz : ((q : Int) + 1 == 0) = false := by simp; omega
  clear hqe
  have hlg := HZ1.out.lt
  go_enter Tryd.func101, Tryd.ntmps101
  go_wp2_with fail
  refine (set_new ga oa a w HA.out hs).mono ?_
  rintro e w2 ⟨rfl, hb2, hP⟩
  generalize hgp : w.heap.size = gp at *
  go_wp2_with fail
  refine (set_new gb ob ((2 ^ k : Nat) : Int) w2 (HB.out.below (by rw [hgp]; exact hb2)) (by rw [show ((2 ^ k : Nat) : Int).natAbs = 2 ^ k from rfl, wc_pow]; omega)).mono ?_
  rintro e w4 ⟨rfl, hb4, hQ⟩
  have hP4 := hP.below hb4
  have hsz : gp ≤ w2.heap.size := by rw [← hgp]; exact hb2.size
  have hb04 : Below w.heap.size w w4 := by rw [hgp]; exact hb2.trans (hb4.mono hsz)
  clear hb2 hb4 hP
  generalize w2.heap.size = gq at *
  have n1 : ¬ g = gq := by omega
  have n2 : ¬ gq = g := by omega
  have n3 : ¬ g = gp := by omega
  have n4 : ¬ gp = g := by omega
  obtain ⟨_, p0, ⟨A4, c4, p1, hRp⟩, _, _⟩ := hP4
  obtain ⟨_, p2, ⟨A5, c5, p3, hRq⟩, _, _⟩ := at_two.1 hQ
  have Z1 := HZ1.out.below hb04
  have Z2 := HZ2.out.below hb04
  have HZ3 := Lib.hid Z1
  have HZ4 := Lib.hid Z2
  obtain ⟨_, s0, ⟨A6, c6, s1, _⟩, f0, f1⟩ := Z1
  obtain ⟨_, s2, ⟨A7, c7, s3, _⟩, f2, f3⟩ := Z2
  go_wp2_with fail
  have hW1 : Put w4 ((w4.setCell ⟨g, 0, none⟩ (.bool (decide (a < 0)))).setCell ⟨g, 1, none⟩ (.slice A4 (wc a.natAbs) c4)) g 0 (decide (a < 0)) a.natAbs := Put.whole HZ3.out hRp
  have Z5 : At _ g 2 z2 := IntAt.put HZ4.out HZ3.out hW1 (by omega)
  have hRq2 := Row32.put hRq HZ3.out hW1
  clear p0 p1 p2 p3 s0 s1 s2 s3 f0 f1 f2 f3 hRp hRq
  generalize (w4.setCell ⟨g, 0, none⟩ (.bool (decide (a < 0)))).setCell ⟨g, 1, none⟩ (.slice A4 (wc a.natAbs) c4) = w5 at *
  have hW2 : Put w5 ((w5.setCell ⟨g, 2, none⟩ (.bool false)).setCell ⟨g, 3, none⟩ (.slice A5 (wc (2 ^ k)) c5)) g 2 false (2 ^ k) := Put.whole Z5 hRq2
  have hRat : RatAt _ g a k := ⟨IntAt.put hW1.at_ Z5 hW2 (by omega), at_two.2 hW2.at_⟩
  have hgr : w.grownBy _ (some g) := grown_trans (grown_trans (grown_below (grown_refl w (some g)) hb04) hW1.grown) hW2.grown
  clear hW2 hW1 hRq2 Z5 HZ3 HZ4
  generalize (w5.setCell ⟨g, 2, none⟩ (.bool false)).setCell ⟨g, 3, none⟩ (.slice A5 (wc (2 ^ k)) c5) = w6 at *
  refine (norm_z g k a w6 hRat hk hs).mono ?_
  rintro e w7 ⟨rfl, hg7, hN⟩
  go_wp2_with fail
  go_ret
  exact ⟨rfl, grown_trans hgr hg7, hN⟩
end Go.Proofs.YtjjfkidddjcdcaaDoor
