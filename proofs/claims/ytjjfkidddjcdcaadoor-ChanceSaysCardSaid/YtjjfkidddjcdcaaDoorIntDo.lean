/- Proved here: contracts of package enclosurebig's BitLen, Sign, Bit (at 0), TrailingZeroBits, Uint64, Rsh, Cmp at this program. Conditions: as each theorem says.
   Proved here: contracts of package enclosurebig's Mul, Add, QuoRem at this program. Conditions: as each theorem says. -/
import Derived.Test.YtjjfkidddjcdcaaDoorIntSet2
namespace Go.Proofs.YtjjfkidddjcdcaaDoor
open Go.ChangeShapes Go.WideShapes Go.ChangeAt Go.RowKit

theorem bitlen_z (g o : Nat) (x : Int) (w : World) (hx : At w g o x) (hs : wc x.natAbs ≤ 50000) :
    Calls Tryd.prog 90 #[.pointer (some ⟨g, o, none⟩)] w fun e w' => w' = w ∧ e = .returned (.int .i64 (bl x.natAbs : Nat)) := by
  obtain ⟨_, c0, ⟨A, c, c1, hR⟩, _, _⟩ := hx
  have HR := Lib.hid hR
  clear hR
  go_enter Tryd.func90, Tryd.ntmps90
  go_wp2_with fail
  refine (length_any A c x.natAbs w HR.out (by omega)).mono ?_
  rintro e w1 ⟨rfl, rfl⟩
  go_wp2_with fail
  go_ret
  exact ⟨rfl, rfl⟩

theorem sign_z (g o : Nat) (x : Int) (w : World) (hx : At w g o x) (hs : wc x.natAbs ≤ 50000) :
    Calls Tryd.prog 88 #[.pointer (some ⟨g, o, none⟩)] w fun e w' => w' = w ∧ e = .returned (.int .i64 (x.sign)) := by
  obtain ⟨_, c0, ⟨A, c, c1, hR⟩, _, _⟩ := hx
  clear hR
  rcases Int.lt_trichotomy x 0 with h | h | h
  · have hw := wc_pos (show 0 < x.natAbs by omega)
    rw [Int.sign_eq_neg_one_of_neg h]
    rw [decide_eq_true h] at c0
    generalize wc x.natAbs = n at *
    have hn : ((n : Int) == 0) = false := by simp; omega
    clear h
    go_enter Tryd.func88, Tryd.ntmps88
    go_wp2_with fail
    go_ret
    exact ⟨rfl, rfl⟩
  · subst h
    rw [show wc (0 : Int).natAbs = 0 from rfl] at c1
    go_enter Tryd.func88, Tryd.ntmps88
    go_wp2_with fail
    go_ret
    exact ⟨rfl, rfl⟩
  · have hw := wc_pos (show 0 < x.natAbs by omega)
    rw [Int.sign_eq_one_of_pos h]
    rw [decide_eq_false (show ¬ x < 0 by omega)] at c0
    generalize wc x.natAbs = n at *
    have hn : ((n : Int) == 0) = false := by simp; omega
    clear h
    go_enter Tryd.func88, Tryd.ntmps88
    go_wp2_with fail
    go_ret
    exact ⟨rfl, rfl⟩

theorem bit_z (g o : Nat) (x : Int) (w : World) (hx : At w g o x) (h0 : 0 ≤ x) (hs : wc x.natAbs ≤ 50000) :
    Calls Tryd.prog 87 #[.pointer (some ⟨g, o, none⟩), .int .i64 0] w fun e w' => w' = w ∧ e = .returned (.int .u64 (x.natAbs % 2 : Nat)) := by
  obtain ⟨_, c0, ⟨A, c, c1, hR⟩, _, _⟩ := hx
  rw [decide_eq_false (show ¬ x < 0 by omega)] at c0
  have HR := Lib.hid hR
  clear hR
  go_enter Tryd.func87, Tryd.ntmps87
  go_wp2_with fail
  refine (bit_zero A c x.natAbs w HR.out (by omega)).mono ?_
  rintro e w1 ⟨rfl, rfl⟩
  go_wp2_with fail
  go_ret
  exact ⟨rfl, rfl⟩

theorem rsh_z (g o gx ox n : Nat) (z0 x : Int) (w : World) (hz : At w g o z0) (hx : At w gx ox x) (h0 : 0 ≤ x) (hs : wc x.natAbs ≤ 50000) (hn : n ≤ 1000000) :
    Calls Tryd.prog 130 #[.pointer (some ⟨g, o, none⟩), .pointer (some ⟨gx, ox, none⟩), .int .u64 n] w fun e w' => e = .returned (.pointer (some ⟨g, o, none⟩)) ∧ Puts w w' g o ((x.natAbs / 2 ^ n : Nat) : Int) := by
  have HZ := Lib.hid hz
  obtain ⟨_, c0, ⟨A, c, c1, hR⟩, _, _⟩ := hx
  rw [decide_eq_false (show ¬ x < 0 by omega)] at c0
  have C := Lib.hid (right_any A c x.natAbs n w hR (by omega) hn)
  generalize x.natAbs / 2 ^ n = y at *
  have HN := Lib.hid (show (false && decide (0 < (y : Int).natAbs)) = decide ((y : Int) < 0) by simp)
  clear hz hR
  go_enter Tryd.func130, Tryd.ntmps130
  go_wp2_with fail
  refine C.out.mono ?_
  rintro e w1 ⟨hb, _, rfl, A1, c1, rfl, hR1⟩
  go_wp2_with fail
  refine (give_puts w w1 g o c1 z0 (y : Int) false A1 HZ.out hb hR1 HN.out).mono ?_
  rintro e w2 ⟨rfl, hP⟩
  go_wp2_with fail
  go_ret
  exact ⟨rfl, hP⟩

/-- Bit i. -/
theorem dig_bit (v i : Nat) : dig v (i / 32) / 2 ^ (i % 32) % 2 = v / 2 ^ i % 2 := by
  have e : 2 ^ i = B (i / 32) * 2 ^ (i % 32) := by
    unfold B
    rw [← Nat.pow_add]
    congr 1
    omega
  have e2 : 4294967296 = 2 ^ (i % 32) * (2 * 2 ^ (31 - i % 32)) := by
    rw [← Nat.mul_assoc, ← Nat.pow_succ, ← Nat.pow_add, show (i % 32).succ + (31 - i % 32) = 32 by omega]
  unfold dig
  rw [e, ← Nat.div_div_eq_div_mul, e2, Nat.mod_mul_right_div_self, Nat.mod_mul_right_mod]

set_option maxHeartbeats 1000000 in
theorem bit_any (A : Option Addr) (c v i : Nat) (w : World) (hR : Row32 w A (wc v) (dig v)) (hv : wc v ≤ 50000) (hi : i ≤ 1000000) :
    Calls Tryd.prog 118 #[.slice A (wc v) c, .int .i64 i] w fun e w' => w' = w ∧ e = .returned (.int .u64 (v / 2 ^ i % 2 : Nat)) := by
  rw [← dig_bit]
  have hd := dig_lt v (i / 32)
  have hz : wc v ≤ i / 32 → dig v (i / 32) = 0 := fun h => dig_end (Nat.lt_of_lt_of_le (lt_wc v) (B_le h))
  have HZ := Lib.hid hz
  clear hz
  obtain ⟨q, hq⟩ : ∃ q, i / 32 = q := ⟨_, rfl⟩
  obtain ⟨s, hs⟩ : ∃ s, i % 32 = s := ⟨_, rfl⟩
  have hqi : (i : Int) / 32 = q := by omega
  have hsi : (i : Int) % 32 = s := by omega
  have hs32 : s < 32 := by omega
  rw [hq] at HZ hd ⊢
  rw [hs]
  clear hq hs
  rcases Nat.lt_or_ge q (wc v) with h | h
  · obtain ⟨b, off, rfl, hb, hcell⟩ := hR (by omega)
    have c0 := hcell q h
    clear hcell hR
    generalize wc v = n at *
    generalize dig v q = d at *
    have ha := and64_one (d / 2 ^ s) (by have := Nat.div_le_self d (2 ^ s); omega)
    rw [← wrap_u64_nat (d / 2 ^ s) (by have := Nat.div_le_self d (2 ^ s); omega), Int.natCast_ediv, ← pow_cast] at ha
    clear HZ
    generalize d / 2 ^ s % 2 = t at *
    go_enter Tryd.func118, Tryd.ntmps118
    go_wp2_with fail
    go_ret
    exact ⟨rfl, rfl⟩
  · rw [HZ.out h]
    clear hR HZ hd
    generalize wc v = n at *
    rw [Nat.zero_div]
    go_enter Tryd.func118, Tryd.ntmps118
    go_wp2_with fail
    go_ret
    exact ⟨rfl, rfl⟩

theorem tz_lt {v n : Nat} (hv : 0 < v) (h : v % 2 ^ n = 0) : n < bl v := by
  have h1 : 2 ^ n ≤ v := Nat.le_of_dvd hv (Nat.dvd_of_mod_eq_zero h)
  exact (Nat.pow_lt_pow_iff_right (a := 2) (by omega)).1 (Nat.lt_of_le_of_lt h1 (lt_bl v))
theorem tz_step {v n : Nat} (h : v % 2 ^ n = 0) (h2 : v / 2 ^ n % 2 = 0) : v % 2 ^ (n + 1) = 0 := by
  rw [Nat.pow_succ, Nat.mod_mul, h, h2]; simp
theorem tz_end {v n : Nat} (h : v % 2 ^ n = 0) (h2 : v / 2 ^ n % 2 = 1) : Twos v n := ⟨v / 2 ^ n, by have := Nat.div_add_mod v (2 ^ n); rw [h] at this; omega, h2⟩

set_option maxHeartbeats 1000000 in
theorem tzb_z (g o : Nat) (x : Int) (w : World) (hx : At w g o x) (h0 : 0 < x) (hs : wc x.natAbs ≤ 20000) :
    Calls Tryd.prog 129 #[.pointer (some ⟨g, o, none⟩)] w fun e w' => w' = w ∧ ∃ t, e = .returned (.int .u64 (t : Nat)) ∧ Twos x.natAbs t := by
  obtain ⟨_, c0, ⟨A, c, c1, hR⟩, _, _⟩ := hx
  have hn := wc_pos (show 0 < x.natAbs by omega)
  have hv : 0 < x.natAbs := by omega
  have hb : bl x.natAbs ≤ 32 * wc x.natAbs := bl_le (lt_wc _)
  have HB := Lib.hid (fun i hi => bit_any A c x.natAbs i w hR (by omega) hi)
  clear c0 hR
  generalize x.natAbs = v at *
  generalize hm : wc v = m at *
  have HT := Lib.hid (fun n h => @tz_lt v n hv h)
  have hz : ((m : Int) == 0) = false := by simp; omega
  clear hm h0
  go_enter Tryd.func129, Tryd.ntmps129
  go_wp2_with fail
  go_loopg [3] (bl v) (fun gk v3 wr => wr = w ∧ ∃ n : Nat, gk + n = bl v ∧ v3 = .int .u64 n ∧ v % 2 ^ n = 0)
  case atStart => exact ⟨rfl, 0, rfl, rfl, by rw [Nat.pow_zero, Nat.mod_one]⟩
  case round =>
    obtain ⟨rfl, n, hgn, rfl, hm⟩ := hrel
    have hlt := HT.out n hm
    have HM := Lib.hid hm
    clear hm
    have H2 := Lib.hid (Nat.mod_two_eq_zero_or_one (v / 2 ^ n))
    go_wp2_with fail
    refine (HB.out n (by omega)).mono ?_
    rintro e w1 ⟨rfl, rfl⟩
    rcases H2.out with h | h
    · rw [h]
      have HH := Lib.hid h
      clear h
      go_wp2_with fail
      go_roundg (gk - 1)
      case measure => omega
      case rel => exact ⟨rfl, n + 1, by omega, by go_num, tz_step HM.out HH.out⟩
    · rw [h]
      have HH := Lib.hid h
      clear h
      go_wp2_with fail
      go_ret
      exact ⟨rfl, n, rfl, tz_end HM.out HH.out⟩

theorem uint_z (g o : Nat) (x : Int) (w : World) (hx : At w g o x) (hb : x.natAbs < 18446744073709551616) :
    Calls Tryd.prog 82 #[.pointer (some ⟨g, o, none⟩)] w fun e w' => w' = w ∧ e = .returned (.int .u64 (x.natAbs : Nat)) := by
  obtain ⟨_, c0, ⟨A, c, c1, hR⟩, _, _⟩ := hx
  generalize x.natAbs = v at *
  have h2 : wc v ≤ 2 := wc_le hb
  have hw := wv_dig v (wc v) (lt_wc v)
  have HR := Lib.hid hR
  clear hR
  rcases hn : wc v with _ | _ | _ | n
  · rw [hn] at hw c1
    simp only [wv] at hw
    subst hw
    clear HR
    go_enter Tryd.func82, Tryd.ntmps82
    go_wp2_with fail
    go_ret
    exact ⟨rfl, rfl⟩
  · rw [hn] at hw HR c1
    obtain ⟨b, off, rfl, hb2, hcell⟩ := HR.out (by omega)
    have d0 := hcell 0 (by omega)
    rw [Nat.add_zero] at d0
    have hd := dig_lt v 0
    rw [wv_succ, B_zero] at hw
    simp only [wv, Nat.zero_add, Nat.mul_one] at hw
    rw [hw] at d0
    clear hcell HR hw
    go_enter Tryd.func82, Tryd.ntmps82
    go_wp2_with fail
    go_ret
    exact ⟨rfl, rfl⟩
  · rw [hn] at hw HR c1
    obtain ⟨b, off, rfl, hb2, hcell⟩ := HR.out (by omega)
    have d0 := hcell 0 (by omega)
    rw [Nat.add_zero] at d0
    have d1 := hcell 1 (by omega)
    have hd := dig_lt v 0
    have hd1 := dig_lt v 1
    have e : B 1 = 4294967296 := rfl
    rw [wv_succ, wv_succ, B_zero, e] at hw
    simp only [wv, Nat.zero_add, Nat.mul_one] at hw
    clear hcell HR e
    generalize dig v 0 = x0 at *
    generalize dig v 1 = x1 at *
    have ho := or_word x0 x1 hd hd1
    rw [hw] at ho
    clear hn hw
    go_enter Tryd.func82, Tryd.ntmps82
    go_wp2_with fail
    go_ret
    exact ⟨rfl, rfl⟩
  · omega

set_option maxHeartbeats 1000000 in
theorem cmp_z (g o g2 o2 : Nat) (x y : Int) (w : World) (hx : At w g o x) (hy : At w g2 o2 y) (h0 : 0 ≤ x) (h1 : 0 ≤ y) (hs : wc x.natAbs ≤ 50000) (hs2 : wc y.natAbs ≤ 50000) :
    Calls Tryd.prog 80 #[.pointer (some ⟨g, o, none⟩), .pointer (some ⟨g2, o2, none⟩)] w fun e w' => Below w.heap.size w w' ∧ e = .returned (.int .i64 (cmpN x.natAbs y.natAbs)) := by
  have hlt := hx.lt
  have hlt2 := hy.lt
  obtain ⟨_, c0, ⟨A, c, c1, hR⟩, _, _⟩ := hx
  obtain ⟨_, d0, ⟨A2, c2, d1, hR2⟩, _, _⟩ := hy
  rw [decide_eq_false (show ¬ x < 0 by omega)] at c0
  rw [decide_eq_false (show ¬ y < 0 by omega)] at d0
  have C := Lib.hid (fun w' hb => cmp_any A A2 c c2 x.natAbs y.natAbs w' (hR.below hb) (hR2.below hb) (by omega) (by omega))
  generalize cmpN x.natAbs y.natAbs = r at *
  generalize wc x.natAbs = m at *
  generalize wc y.natAbs = n at *
  clear hR hR2 h0 h1
  go_enter Tryd.func80, Tryd.ntmps80
  go_wp2_with fail
  go_quiet (fail)
  go_wp2_with fail
  have hbq : Below w.heap.size w (w.drewN nq).drew := below_drewN (Below.refl _ w) (nq + 1)
  go_region_held3 (fun w' => w'.cell? ⟨g, o + 1, none⟩ = some (.slice A m c) ∧ w'.cell? ⟨g2, o2 + 1, none⟩ = some (.slice A2 n c2)) (first | exact ⟨c1, d1⟩ | exact ⟨(hb.cell (p := ⟨g, o + 1, none⟩) hlt).trans c1, (hb.cell (p := ⟨g2, o2 + 1, none⟩) hlt2).trans d1⟩) (first | (go_at_call 111; refine (C.out _ hbq).mono ?_; rintro e w1 ⟨hb, rfl⟩))
  have q0 : w1.cell? ⟨g, o, none⟩ = some (.bool false) := (hb.cell (p := ⟨g, o, none⟩) hlt).trans c0
  go_wp2_with fail
  go_ret
  exact ⟨hbq.trans hb, rfl⟩
end Go.Proofs.YtjjfkidddjcdcaaDoor

namespace Go.Proofs.YtjjfkidddjcdcaaDoor
open Go.ChangeShapes Go.WideShapes Go.ChangeAt Go.RowKit

theorem mul_flip (x y : Int) : ((decide (x < 0) != decide (y < 0)) && decide (0 < (x * y).natAbs)) = decide (x * y < 0) := by
  rcases Int.lt_trichotomy x 0 with h | h | h
  · rcases Int.lt_trichotomy y 0 with k | k | k
    · have := Int.mul_pos_of_neg_of_neg h k
      rw [decide_eq_true h, decide_eq_true k, decide_eq_false (show ¬ x * y < 0 by omega)]; rfl
    · subst k; simp
    · have := Int.mul_neg_of_neg_of_pos h k
      rw [decide_eq_true h, decide_eq_false (show ¬ y < 0 by omega), decide_eq_true (show x * y < 0 by omega), decide_eq_true (show 0 < (x * y).natAbs by omega)]; rfl
  · subst h; simp
  · rcases Int.lt_trichotomy y 0 with k | k | k
    · have := Int.mul_neg_of_pos_of_neg h k
      rw [decide_eq_true k, decide_eq_false (show ¬ x < 0 by omega), decide_eq_true (show x * y < 0 by omega), decide_eq_true (show 0 < (x * y).natAbs by omega)]; rfl
    · subst k; simp
    · have := Int.mul_pos h k
      rw [decide_eq_false (show ¬ x < 0 by omega), decide_eq_false (show ¬ y < 0 by omega), decide_eq_false (show ¬ x * y < 0 by omega)]; rfl

set_option maxHeartbeats 1000000 in
theorem mul_z (g o gx ox gy oy : Nat) (z0 x y : Int) (w : World) (hz : At w g o z0) (hx : At w gx ox x) (hy : At w gy oy y) (hax : ¬ (gx = g ∧ ox = o)) (hay : ¬ (gy = g ∧ oy = o)) (hs : wc x.natAbs ≤ 50000) (hs2 : wc y.natAbs ≤ 50000) :
    Calls Tryd.prog 102 #[.pointer (some ⟨g, o, none⟩), .pointer (some ⟨gx, ox, none⟩), .pointer (some ⟨gy, oy, none⟩)] w fun e w' => e = .returned (.pointer (some ⟨g, o, none⟩)) ∧ Puts w w' g o (x * y) := by
  have HZ := Lib.hid hz
  have hlt := hx.lt
  have hlt2 := hy.lt
  obtain ⟨a1, a2⟩ := IntAt.apart hz hx hax
  obtain ⟨b1, b2⟩ := IntAt.apart hz hy hay
  obtain ⟨_, c0, ⟨A, c, c1, hR⟩, _, _⟩ := hx
  obtain ⟨_, d0, ⟨A2, c2, d1, hR2⟩, _, _⟩ := hy
  have HF := Lib.hid (mul_flip x y)
  have HC := Lib.hid (fun w' hb => mul_any A A2 c c2 x.natAbs y.natAbs w' (hR.below hb) (hR2.below hb) (by omega) (by omega))
  rw [← Int.natAbs_mul] at HC
  clear hz hR hR2
  obtain ⟨n1, hn1⟩ : ∃ n, decide (x < 0) = n := ⟨_, rfl⟩
  obtain ⟨n2, hn2⟩ : ∃ n, decide (y < 0) = n := ⟨_, rfl⟩
  rw [hn1] at c0 HF
  rw [hn2] at d0 HF
  clear hn1 hn2
  generalize x * y = p at *
  generalize wc x.natAbs = m at *
  generalize wc y.natAbs = n at *
  have KP : Hid (∀ w2, Puts w w2 g o p → (w2.cell? ⟨gx, ox, none⟩ = some (.bool n1) ∧ w2.cell? ⟨gx, ox + 1, none⟩ = some (.slice A m c)) ∧ w2.cell? ⟨gy, oy, none⟩ = some (.bool n2) ∧ w2.cell? ⟨gy, oy + 1, none⟩ = some (.slice A2 n c2)) := fun w2 hP =>
    ⟨⟨(Put.cell hP hlt hax a1).trans c0, (Put.cell hP hlt a2 (fun ⟨e1, e2⟩ => hax ⟨e1, by omega⟩)).trans c1⟩, (Put.cell hP hlt2 hay b1).trans d0, (Put.cell hP hlt2 b2 (fun ⟨e1, e2⟩ => hay ⟨e1, by omega⟩)).trans d1⟩
  have KB : Hid (∀ w2, Below w.heap.size w w2 → (w2.cell? ⟨gx, ox, none⟩ = some (.bool n1) ∧ w2.cell? ⟨gx, ox + 1, none⟩ = some (.slice A m c)) ∧ w2.cell? ⟨gy, oy, none⟩ = some (.bool n2) ∧ w2.cell? ⟨gy, oy + 1, none⟩ = some (.slice A2 n c2)) := fun w2 hb =>
    ⟨⟨(hb.cell (p := ⟨gx, ox, none⟩) hlt).trans c0, (hb.cell (p := ⟨gx, ox + 1, none⟩) hlt).trans c1⟩, (hb.cell (p := ⟨gy, oy, none⟩) hlt2).trans d0, (hb.cell (p := ⟨gy, oy + 1, none⟩) hlt2).trans d1⟩
  have hwd := (Below.refl w.heap.size w).drew
  clear hax hay a1 a2 b1 b2 hlt hlt2
  go_enter Tryd.func102, Tryd.ntmps102
  go_wp2_with fail
  go_region_held3 (fun w' => (w'.cell? ⟨gx, ox, none⟩ = some (.bool n1) ∧ w'.cell? ⟨gx, ox + 1, none⟩ = some (.slice A m c)) ∧ w'.cell? ⟨gy, oy, none⟩ = some (.bool n2) ∧ w'.cell? ⟨gy, oy + 1, none⟩ = some (.slice A2 n c2)) (first | exact KP.out _ hP | exact KB.out _ (hwd.trans hb) | exact KB.out _ hwd) (first | (go_at_call 125; refine (HC.out _ hwd).mono ?_; rintro e w1 ⟨hb, _, rfl, A1, c1, rfl, hR1⟩) | (go_at_call 108; refine (give_puts w _ g o _ z0 p _ _ HZ.out (hwd.trans hb) hR1 HF.out).mono ?_; rintro e w2 ⟨rfl, hP⟩))
  all_goals (go_wp2_with fail; go_ret; exact ⟨rfl, hP⟩)


set_option maxHeartbeats 1000000 in
theorem quorem_z (g o gr orr gx ox gy oy : Nat) (z0 r0 x y : Int) (w : World) (hz : At w g o z0) (hr : At w gr orr r0) (hx : At w gx ox x) (hy : At w gy oy y) (har : ¬ (gr = g ∧ orr = o)) (h0 : 0 ≤ x) (hs : wc x.natAbs ≤ 50000) (hF : Fair y.natAbs) (h1 : 0 ≤ y) :
    Calls Tryd.prog 86 #[.pointer (some ⟨g, o, none⟩), .pointer (some ⟨gx, ox, none⟩), .pointer (some ⟨gy, oy, none⟩), .pointer (some ⟨gr, orr, none⟩)] w fun e w' =>
      e = .returned (.tuple #[.pointer (some ⟨g, o, none⟩), .pointer (some ⟨gr, orr, none⟩)]) ∧ ∃ wn wm, Below w.heap.size w wn ∧ Puts wn wm g o ((x.natAbs / y.natAbs : Nat) : Int) ∧ Puts wm w' gr orr ((x.natAbs % y.natAbs : Nat) : Int) := by
  have HZ := Lib.hid hz
  have HRr := Lib.hid hr
  have hlt := hx.lt
  have hlt2 := hy.lt
  obtain ⟨_, c0, ⟨A, c, c1, hR⟩, _, _⟩ := hx
  obtain ⟨_, d0, ⟨A2, c2, d1, hR2⟩, _, _⟩ := hy
  rw [decide_eq_false (show ¬ x < 0 by omega)] at c0
  rw [decide_eq_false (show ¬ y < 0 by omega)] at d0
  have HC := Lib.hid (fun w' hb => div_any A A2 c c2 x.natAbs y.natAbs w' (hR.below hb) (hR2.below hb) hs hF)
  unfold DivOut at HC
  clear hz hr hR hR2 h0 h1 hF
  generalize x.natAbs / y.natAbs = q at *
  generalize x.natAbs % y.natAbs = r at *
  generalize wc x.natAbs = m at *
  generalize wc y.natAbs = n at *
  have HN := Lib.hid (fun (t : Nat) => show (false && decide (0 < (t : Int).natAbs)) = decide ((t : Int) < 0) by simp)
  go_enter Tryd.func86, Tryd.ntmps86
  go_wp2_with fail
  go_quiet (fail)
  go_wp2_with fail
  have hbq : Below w.heap.size w (w.drewN nq).drew := below_drewN (Below.refl _ w) (nq + 1)
  go_region_held3 (fun w' => w'.cell? ⟨gx, ox + 1, none⟩ = some (.slice A m c) ∧ w'.cell? ⟨gy, oy + 1, none⟩ = some (.slice A2 n c2)) (first | exact ⟨c1, d1⟩ | exact ⟨(hb.cell (p := ⟨gx, ox + 1, none⟩) hlt).trans c1, (hb.cell (p := ⟨gy, oy + 1, none⟩) hlt2).trans d1⟩) (first | (go_at_call 117; refine (HC.out _ hbq).mono ?_; rintro e w1 ⟨hb, _, _, rfl, ⟨A1, c3, rfl, hR1⟩, ⟨A4, c4, rfl, hR4⟩⟩))
  have hb1 : Below w.heap.size w w1 := hbq.trans hb
  clear hb hbq
  go_wp2_with fail
  refine (give_puts w1 w1 g o c3 z0 (q : Int) false A1 (HZ.out.below hb1) (Below.refl _ _) hR1 (HN.out q)).mono ?_
  rintro e w2 ⟨rfl, hP⟩
  have hr2 : At w2 gr orr r0 := (HRr.out.below hb1).put (HZ.out.below hb1) hP har
  have hR5 := Row32.put hR4 (HZ.out.below hb1) hP
  go_wp2_with fail
  refine (give_puts w2 w2 gr orr c4 r0 (r : Int) false A4 hr2 (Below.refl _ _) hR5 (HN.out r)).mono ?_
  rintro e w3 ⟨rfl, hP2⟩
  go_wp2_with fail
  go_ret2
  exact ⟨rfl, w1, w2, hb1, hP, hP2⟩
end Go.Proofs.YtjjfkidddjcdcaaDoor
